/- The engine: loops and meeting ways by a state: the frame is what the state says of some slots, and beneath it what was there before. No program in sight. -/
import Derived.Test.YtdfkcjjbflcafaaGreatEngQ
import Derived.Test.YtdfkcjjbflcafaaGreatEngT
namespace Go.Proofs.YtdfkcjjbflcafaaGreat
open Go.RowKit
set_option linter.unusedVariables false
set_option linter.unusedSimpArgs false
/-- The rows of l' hold by l, the first of each slot. -/
def SubD (seen : List Nat) : Fm → Fm → Prop
  | [], _ => True
  | (k, v) :: r, l => (mem seen k = true ∨ look l k = some v) ∧ SubD (k :: seen) r l
theorem SubD.look {l' l : Fm} : ∀ {seen : List Nat}, SubD seen l' l → ∀ t v, mem seen t = false → look l' t = some v → look l t = some v := by
  induction l' with
  | nil => intro seen _ t v _ h; simp [Proofs.YtdfkcjjbflcafaaGreat.look] at h
  | cons p r ih =>
    obtain ⟨k, u⟩ := p
    intro seen ⟨h1, h2⟩ t v hm hv
    simp only [Proofs.YtdfkcjjbflcafaaGreat.look] at hv
    cases hb : Nat.beq k t with
    | true =>
      rw [hb] at hv
      simp at hv
      obtain rfl := beq_iff.1 hb
      rcases h1 with h1 | h1
      · rw [h1] at hm; cases hm
      · rw [← hv]; exact h1
    | false =>
      rw [hb] at hv
      refine ih h2 t v ?_ (by simpa using hv)
      simp only [mem, hb, cond_false]; exact hm
theorem Knows.subD {n : Nat} {l l' : Fm} {a : Act} (h : Knows n l a) (hs : SubD [] l' l) : Knows n l' a :=
  ⟨h.size, h.defers, fun t v ht => h.has t v (hs.look t v rfl ht)⟩
/-- Blocks of one list are among those of another, each once. -/
def HpLe : Hp → Hp → Prop
  | [], _ => True
  | e :: r, h => ∃ h', (e :: h').Perm h ∧ HpLe r h'
theorem HpLe.perm {r : Hp} : ∀ {h : Hp}, HpLe r h → ∃ x, (r ++ x).Perm h := by
  induction r with
  | nil => intro h _; exact ⟨h, .refl _⟩
  | cons e r ih =>
    rintro h ⟨h', hp, hr⟩
    obtain ⟨x, hx⟩ := ih hr
    exact ⟨x, (hx.cons e).trans hp⟩
theorem HpLe.refl : ∀ h : Hp, HpLe h h
  | [] => trivial
  | e :: r => ⟨r, .refl _, HpLe.refl r⟩
theorem HpLe.right (a b : Hp) : HpLe b (a ++ b) := by
  induction b generalizing a with
  | nil => trivial
  | cons e r ih => exact ⟨a ++ r, List.perm_middle.symm, ih a⟩
theorem Good.le {w0 w : World} {mu : List Nat} {hp hp' : Hp} (h : Good w0 mu hp w) (hs : HpLe hp' hp) : Good w0 mu hp' w := by
  obtain ⟨x, hx⟩ := hs.perm
  exact (h.perm hx).sub (List.sublist_append_left _ _)
theorem HpLe.app {b c : Hp} : ∀ (a : Hp), HpLe b c → HpLe (a ++ b) (a ++ c)
  | [], h => h
  | e :: r, h => ⟨r ++ c, .refl _, HpLe.app r h⟩
theorem HpLe.left : ∀ (a b : Hp), HpLe a (a ++ b)
  | [], _ => trivial
  | e :: r, b => ⟨r ++ b, .refl _, HpLe.left r b⟩
theorem HpLe.skip {x : Blk} {b : Hp} : ∀ {c : Hp}, HpLe b c → HpLe b (x :: c) := by
  induction b with
  | nil => intros; trivial
  | cons e r ih =>
    rintro c ⟨h', hp, hr⟩
    exact ⟨x :: h', (List.Perm.swap x e h').trans (hp.cons x), ih hr⟩
section
variable {P : Program} {n : Nat} {w0 : World} {mu : List Nat} {l : Fm} {hp : Hp} {Q : Exit → Fm → Hp → Prop} {all : Array Oper}
theorem st_loopS {c : Code} {σ : Type} (V : σ → Fm) (H : σ → Hp) (I : σ → Prop) (μ : σ → Nat) (s0 : σ) (hI : I s0) (hl : SubD [] (V s0 ++ l) l) (hh : HpLe (H s0) hp)
    (round : ∀ s m, μ s = m → I s → St P n w0 mu c (V s ++ l) (H s) (nx (fun l' hp' => ∃ s', μ s' < m ∧ I s' ∧ SubD [] (V s' ++ l) l' ∧ HpLe (H s') hp') Q)) : St P n w0 mu (.loop c) l hp Q := by
  intro a w hk hg
  refine wp_loop_ghost (fun m a w => ∃ s, μ s = m ∧ I s ∧ Knows n (V s ++ l) a ∧ Good w0 mu (H s) w) (μ s0) ⟨s0, rfl, hI, hk.subD hl, hg.le hh⟩ ?_
  rintro m a w ⟨s, rfl, hI, hk, hg⟩
  refine Code.wp_mono ?_ (round s _ rfl hI a w hk hg)
  intro e a' w' hq
  obtain ⟨l', hp', hk', hg', hq⟩ := hq
  cases e with
  | normal =>
    obtain ⟨s', hm, hI', h1, h2⟩ := hq
    exact ⟨_, hm, s', rfl, hI', hk'.subD h1, hg'.le h2⟩
  | exit id => exact ⟨l', hp', hk', hg', hq⟩
  | goto l => exact ⟨l', hp', hk', hg', hq⟩
  | ret => exact ⟨l', hp', hk', hg', hq⟩
  | panic ch => exact ⟨l', hp', hk', hg', hq⟩
  | outgrown => exact ⟨l', hp', hk', hg', hq⟩
/-- A statement's ways meet, and the rest goes on from what is known there. -/
theorem st_cutD {σ : Type} {c y : Code} (V : σ → Fm) (H : σ → Hp) (R : σ → Prop) (first : St P n w0 mu c l hp (nx (fun l' hp' => ∃ s, R s ∧ SubD [] (V s ++ l) l' ∧ HpLe (H s) hp') Q))
    (rest : ∀ s, R s → St P n w0 mu y (V s ++ l) (H s) Q) : St P n w0 mu c l hp (nx (fun l' hp' => St P n w0 mu y l' hp' Q) Q) :=
  st_mono first fun e l hp h => by
    cases e with
    | normal => obtain ⟨s, h1, h2, h3⟩ := h; exact fun a w hk hg => rest s h1 a w (hk.subD h2) (hg.le h3)
    | exit id => exact h
    | goto l => exact h
    | ret => exact h
    | panic ch => exact h
    | outgrown => exact h
theorem st_le {c : Code} (hp' : Hp) (hs : HpLe hp' hp) (h : St P n w0 mu c l hp' Q) : St P n w0 mu c l hp Q := fun a w hk hg => h a w hk (hg.le hs)
theorem ops_le {ops : List Oper} (hp' : Hp) (hs : HpLe hp' hp) (h : Ops P n w0 mu all ops l hp' Q) : Ops P n w0 mu all ops l hp Q := fun a w hk hg => h a w hk (hg.le hs)
end
/-- What is guarded by what is not. -/
theorem hyAbs {P : Program} {n : Nat} {w0 : World} {mu : List Nat} {l : Fm} {hp : Hp} {o : Oper} {b want : Bool} (h : wnt b want = true) (hf : wnt b want = false) : Hy P n w0 mu l hp o undef := by rw [h] at hf; cases hf
theorem hyAbsC {P : Program} {n : Nat} {w0 : World} {mu : List Nat} {l : Fm} {hp : Hp} {o : Oper} {c : Bool} (h : c = true) (hf : c = false) : Hy P n w0 mu l hp o undef := by rw [h] at hf; cases hf
section
variable {P : Program} {n : Nat} {w0 : World} {mu : List Nat} {l : Fm} {hp : Hp} {dd : Option Tmp} {ty : TypeId} {pos : String} {af : Array Edge} {gg : Option (Nat × Bool)}
theorem x_andF {c x : Operand} {u : Value} (hc : ev l c = some (.bool false)) (hx : ev l x = some u) : Hy P n w0 mu l hp ⟨dd, .pick c x (.const (.bool false)), ty, pos, af, gg⟩ (.bool false) := hy_pick (b := false) rfl hc hx rfl
theorem x_orT {c x : Operand} {u : Value} (hc : ev l c = some (.bool true)) (hx : ev l x = some u) : Hy P n w0 mu l hp ⟨dd, .pick c (.const (.bool true)) x, ty, pos, af, gg⟩ (.bool true) := hy_pick (b := true) rfl hc rfl hx
end
section
variable {P : Program} {n : Nat} {w0 : World} {mu : List Nat} {l : Fm} {hp : Hp} {Q : Exit → Fm → Hp → Prop} {all : Array Oper} {rest : List Oper}
/-- What is guarded by what was not done is not done. -/
theorem op1gu {d : Nat} {op : Op} {ty : TypeId} {pos : String} {af : Array Edge} {j : Nat} {want : Bool} {dj : Nat} (hd : Nat.blt d n = true) (hj : (all[j]?).bind (·.dst) = some dj) (hb : look l dj = some undef) (hdj : Nat.blt dj n = true)
    (h : Ops P n w0 mu all rest ((d, undef) :: l) hp Q) : Ops P n w0 mu all (⟨some d, op, ty, pos, af, some (j, want)⟩ :: rest) l hp Q := op1gg (c0 := false) (b := false) (v := undef) hd hj hb hdj (fun h => by cases h) h
theorem dh1gu {ds : List (Nat × Nat)} {tail : List Oper} {i d : Nat} {iv : Fm} {op : Op} {ty : TypeId} {pos : String} {af : Array Edge} {j : Nat} {want : Bool} {dj : Nat} (hj : (all[j]?).bind (·.dst) = some dj)
    (hb : look (depFm ds iv af.toList ++ l) dj = some undef) (hdj : Nat.blt dj n = true)
    (h : DH P n w0 mu all ds tail l hp Q (i + 1) rest ((i, undef) :: iv)) : DH P n w0 mu all ds tail l hp Q i (⟨some d, op, ty, pos, af, some (j, want)⟩ :: rest) iv := dh1gg (c0 := false) (b := false) (v := undef) hj hb hdj (fun h => by cases h) h
end
/-- A drawn region's head, the frame that it leaves told beside it. -/
def DHF (P : Program) (n : Nat) (w0 : World) (mu : List Nat) (all : Array Oper) (ds : List (Nat × Nat)) (tail : List Oper) (l : Fm) (hp : Hp) (Q : Exit → Fm → Hp → Prop) (i : Nat) (ops : List Oper) (iv fr : Fm) : Prop := headFm ds iv = fr → DH P n w0 mu all ds tail l hp Q i ops iv
section
variable {P : Program} {n : Nat} {w0 : World} {mu : List Nat} {l : Fm} {hp : Hp} {Q : Exit → Fm → Hp → Prop} {all : Array Oper} {tail rest : List Oper} {ds : List (Nat × Nat)} {i d : Nat} {iv fr : Fm} {op : Op} {ty : TypeId} {pos : String} {af : Array Edge} {v : Value}
theorem headFm_cons (hlk : lk ds i = some d) (h : headFm ds iv = fr) : headFm ds ((i, v) :: iv) = (d, v) :: fr := by simp only [headFm, hlk, h]
theorem dhf_begin {ops : List Oper} (h : DHF P n w0 mu all ds tail l hp Q 0 ops [] []) : DH P n w0 mu all ds tail l hp Q 0 ops [] := h rfl
theorem dhf_nil (h : Ops P n w0 mu all tail (fr ++ l) hp Q) : DHF P n w0 mu all ds tail l hp Q i [] iv fr := fun e => by subst e; exact h
theorem dhf1 (hlk : lk ds i = some d) (hy : Hy P n w0 mu (depFm ds iv af.toList ++ l) hp ⟨some d, op, ty, pos, af, none⟩ v)
    (h : DHF P n w0 mu all ds tail l hp Q (i + 1) rest ((i, v) :: iv) ((d, v) :: fr)) : DHF P n w0 mu all ds tail l hp Q i (⟨some d, op, ty, pos, af, none⟩ :: rest) iv fr := fun e => dh1 hy (h (headFm_cons hlk e))
theorem dhf1g {j : Nat} {want : Bool} {dj : Nat} {b : Bool} (hlk : lk ds i = some d) (hj : (all[j]?).bind (·.dst) = some dj)
    (hb : look (depFm ds iv af.toList ++ l) dj = some (.bool b)) (hdj : Nat.blt dj n = true) (hy : wnt b want = true → Hy P n w0 mu (depFm ds iv af.toList ++ l) hp ⟨some d, op, ty, pos, af, some (j, want)⟩ v)
    (h : DHF P n w0 mu all ds tail l hp Q (i + 1) rest ((i, gv (wnt b want) v) :: iv) ((d, gv (wnt b want) v) :: fr)) : DHF P n w0 mu all ds tail l hp Q i (⟨some d, op, ty, pos, af, some (j, want)⟩ :: rest) iv fr := fun e => dh1g hj hb hdj hy (h (headFm_cons hlk e))
theorem dhf1gg {j : Nat} {want : Bool} {dj : Nat} {c0 b : Bool} (hlk : lk ds i = some d) (hj : (all[j]?).bind (·.dst) = some dj)
    (hb : look (depFm ds iv af.toList ++ l) dj = some (gv c0 (.bool b))) (hdj : Nat.blt dj n = true) (hy : c0 = true → wnt b want = true → Hy P n w0 mu (depFm ds iv af.toList ++ l) hp ⟨some d, op, ty, pos, af, some (j, want)⟩ v)
    (h : DHF P n w0 mu all ds tail l hp Q (i + 1) rest ((i, gv (c0 && wnt b want) v) :: iv) ((d, gv (c0 && wnt b want) v) :: fr)) : DHF P n w0 mu all ds tail l hp Q i (⟨some d, op, ty, pos, af, some (j, want)⟩ :: rest) iv fr := fun e => dh1gg hj hb hdj hy (h (headFm_cons hlk e))
theorem dhf1gu {j : Nat} {want : Bool} {dj : Nat} (hlk : lk ds i = some d) (hj : (all[j]?).bind (·.dst) = some dj)
    (hb : look (depFm ds iv af.toList ++ l) dj = some undef) (hdj : Nat.blt dj n = true)
    (h : DHF P n w0 mu all ds tail l hp Q (i + 1) rest ((i, undef) :: iv) ((d, undef) :: fr)) : DHF P n w0 mu all ds tail l hp Q i (⟨some d, op, ty, pos, af, some (j, want)⟩ :: rest) iv fr := fun e => dh1gu hj hb hdj (h (headFm_cons hlk e))
end
/-- A slice that is appended to, one element behind the other: nil, or in a block of its own. -/
def Acc (e : TypeId) (sz : Nat) (v : Value) (ha : Hp) (xs : List (List Value)) : Prop :=
  (∀ c ∈ xs, c.length = sz ∧ c.all (·.oneCell') = true) ∧ ((xs = [] ∧ v = .slice none 0 0 ∧ ha = []) ∨ (xs ≠ [] ∧ ∃ g cap cur, v = .slice (some ⟨g, 0, none⟩) xs.length cap ∧ ha = [⟨g, cur, e⟩] ∧ Row g cap cur sz xs.length xs.flatten))
theorem Acc.nil (e : TypeId) (sz : Nat) : Acc e sz (.slice none 0 0) [] [] := ⟨by simp, .inl ⟨rfl, rfl, rfl⟩⟩
section
variable {P : Program} {T : Tab} {n : Nat} {w0 : World} {mu : List Nat} {l : Fm} {hp : Hp} {ty : TypeId} {pos : String} {af : Array Edge} {Q : Exit → Fm → Hp → Prop} {all : Array Oper} {rest : List Oper}
theorem z_appendA (ok : TabOk P T) {t d e sz by_ cc a : Nat} {x y : Operand} {z v : Value} {c : List Value} {ha hp' : Hp} {xs : List (List Value)} (hA : Acc e sz v ha xs) (hd : Nat.blt d n = true) (hx : ev l x = some v) (hy : ev l y = some (.slice (some ⟨a, 0, none⟩) 1 cc)) (ht : lk T.sl t = some (e, sz))
    (hz : lk T.zs e = some z) (hzs : z.cells.size = sz) (hb : lk T.eb e = some by_) (hby : Nat.ble by_ 4096 = true) (hperm : (ha ++ hp').Perm hp) (hl : c.length = sz) (hnews : NewsAt w0 mu hp a 0 c) (h1 : c.all (·.oneCell') = true) (h63 : xs.length < 1000000)
    (h : ∀ v' ha', Acc e sz v' ha' (xs ++ [c]) → Ops P n w0 mu all rest ((d, v') :: l) (ha' ++ hp') Q) : Ops P n w0 mu all (⟨some d, .call { callee := .builtin .append, args := #[x, y], argTypes := #[t, t] }, ty, pos, af, none⟩ :: rest) l hp Q := by
  have hby' : by_ ≤ 4096 := Nat.le_of_ble_eq_true hby
  have hall : ∀ c' ∈ xs ++ [c], c'.length = sz ∧ c'.all (·.oneCell') = true := by
    intro c' hc'
    rcases List.mem_append.1 hc' with hc' | hc'
    · exact hA.1 c' hc'
    · obtain rfl := List.mem_singleton.1 hc'; exact ⟨hl, h1⟩
  rcases hA.2 with ⟨rfl, rfl, rfl⟩ | ⟨hne, g, cap, cur, rfl, rfl, hrow⟩
  · refine z_appendN ok hd hx hy ht hz hzs hb (by omega) (by rw [hl, Nat.one_mul]) hnews (by omega) (by omega) fun g cap cur hr => ?_
    have := h (.slice (some ⟨g, 0, none⟩) 1 cap) [⟨g, cur, e⟩] ⟨hall, .inr ⟨by simp, g, cap, cur, rfl, rfl, by simpa using hr⟩⟩
    refine ops_perm _ ?_ this
    exact (hperm.cons _ : (⟨g, cur, e⟩ :: ([] ++ hp')).Perm (⟨g, cur, e⟩ :: hp))
  · refine z_appendO ok hd hx hy ht hz hzs hb hperm hrow (by rw [hl, Nat.one_mul]) hnews h1 (by omega) ?_ fun g cap cur hr => ?_
    · have h2 : (xs.length + 1 + (xs.length + 1) / 4 + 192) ≤ 2000000 := by omega
      calc _ ≤ 2000000 * by_ := Nat.mul_le_mul_right _ h2
        _ ≤ 2000000 * 4096 := Nat.mul_le_mul_left _ hby'
        _ ≤ _ := by decide
    · have := h (.slice (some ⟨g, 0, none⟩) (xs.length + 1) cap) [⟨g, cur, e⟩] ⟨hall, .inr ⟨by simp, g, cap, cur, by simp, rfl, by simpa using hr⟩⟩
      exact this
end
theorem flatten_row {xs : List (List Value)} {sz : Nat} : ∀ (h : ∀ c ∈ xs, c.length = sz) {i : Nat} {c : List Value}, xs[i]? = some c → (xs.flatten.drop (i * sz)).take sz = c := by
  induction xs with
  | nil => intro _ i c h; simp at h
  | cons x r ih =>
    intro h i c hc
    have hx := h x (List.mem_cons_self ..)
    cases i with
    | zero =>
      simp only [List.getElem?_cons_zero, Option.some.injEq] at hc
      subst hc
      rw [Nat.zero_mul, List.drop_zero, List.flatten_cons, ← hx]
      exact List.take_left
    | succ i =>
      have := ih (fun c hc => h c (List.mem_cons_of_mem _ hc)) (i := i) (c := c) (by simpa using hc)
      rw [List.flatten_cons, Nat.succ_mul, Nat.add_comm, ← List.drop_drop, ← hx, List.drop_left]
      rw [hx]; exact this
/-- The rows of such a slice, in a world. -/
theorem Acc.rows {w0 w : World} {mu : List Nat} {hp ha : Hp} {e sz : Nat} {v : Value} {xs : List (List Value)} (hA : Acc e sz v ha xs) (hG : Good w0 mu hp w) (hm : ∀ b ∈ ha, b ∈ hp) :
    ∃ p cap, v = .slice p xs.length cap ∧ (xs ≠ [] → ∃ b off, p = some ⟨b, off, none⟩ ∧ ∀ i c, xs[i]? = some c → w.rangeAt b (off + i * sz) c) := by
  rcases hA.2 with ⟨rfl, rfl, rfl⟩ | ⟨hne, g, cap, cur, rfl, rfl, hrow⟩
  · exact ⟨none, 0, rfl, fun h => absurd rfl h⟩
  · refine ⟨_, _, rfl, fun _ => ⟨g, 0, rfl, fun i c hc j u hj => ?_⟩⟩
    have hb := hG.here _ (hm _ (List.mem_singleton.2 rfl))
    rw [cell_of_block hb]
    have hcl := (hA.1 c (List.mem_of_getElem? hc)).1
    have hi : i < xs.length := (List.getElem?_eq_some_iff.1 hc).1
    have hjl : j < sz := by rw [← hcl]; exact (List.getElem?_eq_some_iff.1 hj).1
    have hf := flatten_row (fun c hc => (hA.1 c hc).1) hc
    rw [← hrow.take] at hf
    have hle : i * sz + j < xs.length * sz := by
      calc i * sz + j < i * sz + sz := by omega
        _ = (i + 1) * sz := by rw [Nat.succ_mul]
        _ ≤ _ := Nat.mul_le_mul_right _ hi
    rw [← hf, List.getElem?_take, if_pos hjl, List.getElem?_drop, List.getElem?_take, if_pos hle] at hj
    rw [Nat.zero_add]
    simpa using hj
/-- .. in its own block. -/
theorem Acc.open {e sz : Nat} {v : Value} {ha : Hp} {xs : List (List Value)} (hA : Acc e sz v ha xs) (hne : xs ≠ []) : ∃ g cap cur, v = .slice (some ⟨g, 0, none⟩) xs.length cap ∧ ha = [⟨g, cur, e⟩] ∧ ∀ i c, xs[i]? = some c → (cur.toList.drop (i * sz)).take sz = c := by
  rcases hA.2 with ⟨h, _⟩ | ⟨_, g, cap, cur, rfl, rfl, hrow⟩
  · exact absurd h hne
  · refine ⟨g, cap, cur, rfl, rfl, fun i c hc => ?_⟩
    have hf := flatten_row (fun c hc => (hA.1 c hc).1) hc
    rw [← hrow.take] at hf
    have hi : i < xs.length := (List.getElem?_eq_some_iff.1 hc).1
    have hle : i * sz + sz ≤ xs.length * sz := by rw [← Nat.succ_mul]; exact Nat.mul_le_mul_right _ hi
    rw [← hf, List.drop_take, List.take_take]
    congr 1
    omega
theorem nth_of_row {l : List Value} {o n k : Nat} {c : List Value} {u : Value} (h : (l.drop o).take n = c) (hu : c[k]? = some u) : nth l (o + k) = some u := by
  rw [nth_eq]
  rw [← h, List.getElem?_take] at hu
  split at hu
  · rw [List.getElem?_drop] at hu; simpa using hu
  · cases hu
end Go.Proofs.YtdfkcjjbflcafaaGreat
