/- The engine: slices that lie somewhere, a world at hand. -/
import Derived.Test.YtiaelhhmlbfkmaaGreatRun
import Derived.Test.YtiaelhhmlbfkmaaGreatLay1
import Derived.Lib.Overlaps
import Derived.Lib.AppendZerosOnto
import Derived.Lib.SliceRun
import Derived.Laws.BitsAllLaws
namespace Go.Proofs.YtiaelhhmlbfkmaaGreat
open Go.RowKit
set_option linter.unusedVariables false
set_option linter.unusedSimpArgs false
set_option maxRecDepth 20000
attribute [local irreducible] Hy St Ops DH DHF
/-- The first place where p holds; -1: none. -/
def idxI {α : Type} (p : α → Bool) (xs : List α) : Int := match PtD.idx p xs 0 with | some i => (i : Int) | none => -1
theorem idx_nope {α : Type} [Inhabited α] {p : α → Bool} {l : List α} (h : ∀ j, j < l.length → p (l.getD j default) = false) : PtD.idx p l 0 = none := by
  cases e : PtD.idx p l 0 with
  | none => rfl
  | some k =>
    obtain ⟨_, h2, h3, _⟩ := PtD.idx_some e
    simp only [Nat.sub_zero] at h2 h3
    rw [h k h2] at h3; cases h3
theorem idxI_at {α : Type} [Inhabited α] {p : α → Bool} {l : List α} {k : Nat} (hk : k < l.length) (h : p (l.getD k default) = true) (hn : ∀ j, j < k → p (l.getD j default) = false) : idxI p l = k := by
  unfold idxI
  rw [(PtD.idx_at hk h).2 hn]
theorem idxI_none {α : Type} [Inhabited α] {p : α → Bool} {l : List α} (h : ∀ j, j < l.length → p (l.getD j default) = false) : idxI p l = -1 := by
  unfold idxI
  rw [idx_nope h]
theorem idxI_ge {α : Type} [Inhabited α] {p : α → Bool} {l : List α} : decide (0 ≤ idxI p l) = l.any p := by
  rw [← PtD.idx_any]
  unfold idxI
  cases PtD.idx p l 0 <;> simp
theorem SlAt.row {w : World} {α : Type} [Inhabited α] {f : α → List Value} {xs : List α} {b o cap sz n : Nat} (h : SlAt w (.slice (some ⟨b, o, none⟩) n cap) sz (xs.map f)) {k : Nat} (hk : k < xs.length) : w.rangeAt b (o + k * sz) (f (xs.getD k default)) := by
  obtain ⟨⟨p, cap, e, hp⟩, hl⟩ := h
  cases e
  obtain ⟨b, off, e, hr⟩ := hp (by intro e; rw [List.map_eq_nil_iff] at e; subst e; simp at hk)
  cases e
  refine hr k _ ?_
  rw [List.getElem?_map, List.getD_eq_getElem?_getD, List.getElem?_eq_getElem hk]
  rfl
/-- A slice is nil, or somewhere. -/
theorem SlAt.opened {w : World} {α : Type} {f : α → List Value} {xs : List α} {v : Value} {sz : Nat} (h : SlAt w v sz (xs.map f)) : ∃ p cap, v = .slice p xs.length cap ∧ (xs ≠ [] → ∃ b o, p = some ⟨b, o, none⟩) ∧ xs.length ≤ 281474976710656 := by
  obtain ⟨⟨p, cap, rfl, hp⟩, hl⟩ := h
  rw [List.length_map] at *
  refine ⟨p, cap, rfl, fun hne => ?_, hl⟩
  obtain ⟨b, o, rfl, _⟩ := hp (by simpa using hne)
  exact ⟨b, o, rfl⟩
theorem getD_range_map {α : Type} [Inhabited α] (f : Nat → α) {n i : Nat} (hi : i < n) : ((List.range n).map f)[i]? = some (f i) := by simp [hi]
/-- The blocks lie in a world. -/
def Here (hn : Hp) (w : World) : Prop := ∀ e ∈ hn, w.heap[e.b]? = some (.cells e.cs e.t (0, 0))
theorem Good.lie {w0 w : World} {mu : List Nat} {hp hn : Hp} (hG : Good w0 mu hp w) (hm : ∀ e ∈ hn, e ∈ hp) : Here hn w := fun e he => hG.here e (hm e he)
theorem Here.sub {hn hm : Hp} {w : World} (h : Here hn w) (hs : ∀ e ∈ hm, e ∈ hn) : Here hm w := fun e he => h e (hs e he)
theorem Acc.lie {e sz : Nat} {v : Value} {ha : Hp} {xs : List (List Value)} {w : World} (hA : Acc e sz v ha xs) (h : Here ha w) (hle : xs.length ≤ 281474976710656) : SlAt w v sz xs := by
  rcases hA.2 with ⟨rfl, rfl, rfl⟩ | ⟨hne, g, cap, cur, rfl, rfl, hrow⟩
  · exact ⟨⟨none, 0, rfl, fun h => absurd rfl h⟩, hle⟩
  · refine ⟨⟨_, _, rfl, fun _ => ⟨g, 0, rfl, fun i c hc j u hj => ?_⟩⟩, hle⟩
    have hb := h _ (List.mem_singleton.2 rfl)
    rw [cell_of_block hb]
    have hcl := (hA.1 c (List.mem_of_getElem? hc)).1
    have hi : i < xs.length := (List.getElem?_eq_some_iff.1 hc).1
    have hjl : j < sz := by rw [← hcl]; exact (List.getElem?_eq_some_iff.1 hj).1
    have hf := flatten_row (fun c hc => (hA.1 c hc).1) hc
    rw [← hrow.take] at hf
    have hle : i * sz + j < xs.length * sz := by
      calc i * sz + j < i * sz + sz := by omega
        _ = (i + 1) * sz := by rw [Nat.succ_mul]
        _ ≤ _ := Nat.mul_le_mul_right _ hi
    rw [← hf, List.getElem?_take, if_pos hjl, List.getElem?_drop, List.getElem?_take, if_pos hle] at hj
    rw [Nat.zero_add]
    simpa using hj
/-- A row of cells that lies in a block of its own. -/
theorem lie_rows {w : World} {b t cap sz : Nat} {xs : List (List Value)} (h : w.heap[b]? = some (.cells xs.flatten.toArray t (0, 0))) (hs : ∀ c ∈ xs, c.length = sz) (hle : xs.length ≤ 281474976710656) : SlAt w (.slice (some ⟨b, 0, none⟩) xs.length cap) sz xs := by
  refine ⟨⟨_, _, rfl, fun _ => ⟨b, 0, rfl, fun i c hc j u hj => ?_⟩⟩, hle⟩
  rw [cell_of_block h]
  have hf := flatten_row hs hc
  have hcl := hs c (List.mem_of_getElem? hc)
  have hjl : j < sz := by rw [← hcl]; exact (List.getElem?_eq_some_iff.1 hj).1
  rw [← hf, List.getElem?_take, if_pos hjl, List.getElem?_drop] at hj
  rw [Nat.zero_add]
  simpa using hj
theorem made_rows (zl : List Value) (n sz : Nat) (hs : zl.length = sz) (h0 : 0 < sz) : madeCells zl.toArray (n * sz) = ((List.replicate n zl).flatten).toArray := by
  have h := rep_eq zl.toArray (by simpa [hs] using h0) n
  have e : ∀ n, rep zl n = (List.replicate n zl).flatten := by
    intro n
    induction n with
    | zero => rfl
    | succ n ih => rw [rep, ih, List.replicate_succ', List.flatten_append]; simp
  rw [← e]
  simpa [madeCells, hs] using h
/-- The world as it is now. -/
theorem opsW {P : Program} {n : Nat} {w0 : World} {mu : List Nat} {l : Fm} {hp : Hp} {Q : Exit → Fm → Hp → Prop} {all : Array Oper} {ops : List Oper} (h : ∀ w, Good w0 mu hp w → Ops P n w0 mu all ops l hp Q) : Ops P n w0 mu all ops l hp Q := by
  unfold Ops at h ⊢
  exact fun a w hk hg => h w hg a w hk hg
theorem stW {P : Program} {n : Nat} {w0 : World} {mu : List Nat} {l : Fm} {hp : Hp} {Q : Exit → Fm → Hp → Prop} {c : Code} (h : ∀ w, Good w0 mu hp w → St P n w0 mu c l hp Q) : St P n w0 mu c l hp Q := by
  unfold St at h ⊢
  exact fun a w hk hg => h w hg a w hk hg
end Go.Proofs.YtiaelhhmlbfkmaaGreat

/- The engine: slices of one's own that are written: nil, or rows in a block of their own. -/
namespace Go.Proofs.YtiaelhhmlbfkmaaGreat
open Go.RowKit
set_option linter.unusedVariables false
set_option linter.unusedSimpArgs false
set_option maxRecDepth 20000
theorem putAt_size : ∀ (vs : List Value) (cs : Array Value) (o : Nat), (putAt cs o vs).size = cs.size := by
  intro vs
  induction vs with
  | nil => intro cs o; rfl
  | cons v r ih => intro cs o; rw [putAt, ih]; simp
theorem putAt_list : ∀ (vs : List Value) (cs : Array Value) (o : Nat), o + vs.length ≤ cs.size → (putAt cs o vs).toList = cs.toList.take o ++ vs ++ cs.toList.drop (o + vs.length) := by
  intro vs
  induction vs with
  | nil => intro cs o h; simp [putAt]
  | cons v r ih =>
    intro cs o h
    simp only [List.length_cons] at h
    rw [putAt, ih _ _ (by simp; omega)]
    simp only [Array.toList_setIfInBounds]
    have ho : o < cs.toList.length := by simp; omega
    have h1 : (cs.toList.take o).length = o := by simp; omega
    rw [List.set_eq_take_append_cons_drop, if_pos ho, List.take_append, List.drop_append, h1]
    have e1 : o + 1 - o = 1 := by omega
    have e2 : o + 1 + r.length - o = r.length + 1 := by omega
    rw [e1, e2, List.take_of_length_le (show (cs.toList.take o).length ≤ o + 1 by omega), List.drop_eq_nil_of_le (show (cs.toList.take o).length ≤ o + 1 + r.length by omega)]
    simp only [List.take_succ_cons, List.take_zero, List.nil_append, List.drop_succ_cons, List.drop_drop, List.append_assoc, List.cons_append, List.length_cons]
    rw [show o + 1 + r.length = o + (r.length + 1) by omega]
theorem flatten_len {α : Type} {sz : Nat} : ∀ (xs : List (List α)), (∀ c ∈ xs, c.length = sz) → xs.flatten.length = xs.length * sz := by
  intro xs
  induction xs with
  | nil => intro _; simp
  | cons x r ih =>
    intro h
    rw [List.flatten_cons, List.length_append, ih (fun c hc => h c (List.mem_cons_of_mem _ hc)), h x (List.mem_cons_self ..), List.length_cons, Nat.succ_mul, Nat.add_comm]
/-- A row's cell. -/
theorem Row.nth {g cap sz n : Nat} {cur : Array Value} {xs : List (List Value)} (h : Row g cap cur sz n xs.flatten) (hall : ∀ c ∈ xs, c.length = sz) {i k : Nat} {c : List Value} {u : Value} (hi : xs[i]? = some c) (hk : c[k]? = some u) : Proofs.YtiaelhhmlbfkmaaGreat.nth cur.toList (i * sz + k) = some u := by
  refine nth_of_row (n := sz) (c := c) ?_ hk
  have hf := flatten_row hall hi
  rw [← h.take] at hf
  have hlt : i < xs.length := (List.getElem?_eq_some_iff.1 hi).1
  have hn : xs.length * sz = n * sz := by rw [← flatten_len xs hall, h.len]
  have hle : i * sz + sz ≤ n * sz := by rw [← hn, ← Nat.succ_mul]; exact Nat.mul_le_mul_right _ hlt
  rw [List.drop_take, List.take_take, Nat.min_eq_left (by omega)] at hf
  exact hf
/-- Some cells of a row written. -/
theorem Row.put {g cap sz n : Nat} {cur : Array Value} {xs : List (List Value)} (h : Row g cap cur sz n xs.flatten) (hall : ∀ c ∈ xs, c.length = sz) {i k : Nat} {c vs : List Value} (hi : xs[i]? = some c) (hk : k + vs.length ≤ sz) :
    Row g cap (putAt cur (i * sz + k) vs) sz n (xs.set i (c.take k ++ vs ++ c.drop (k + vs.length))).flatten := by
  have hlt : i < xs.length := (List.getElem?_eq_some_iff.1 hi).1
  have hc : xs[i] = c := (List.getElem?_eq_some_iff.1 hi).2
  have hcl : c.length = sz := hall c (List.mem_of_getElem? hi)
  have hn : xs.length * sz = n * sz := by rw [← flatten_len xs hall, h.len]
  have hle : i * sz + sz ≤ n * sz := by rw [← hn, ← Nat.succ_mul]; exact Nat.mul_le_mul_right _ hlt
  have hcap : n * sz ≤ cap * sz := Nat.mul_le_mul_right _ h.le
  have hsz := h.size
  have hxs : xs = xs.take i ++ c :: xs.drop (i + 1) := by
    rw [← hc]; simp
  have hset : xs.set i (c.take k ++ vs ++ c.drop (k + vs.length)) = xs.take i ++ (c.take k ++ vs ++ c.drop (k + vs.length)) :: xs.drop (i + 1) := by
    rw [List.set_eq_take_append_cons_drop, if_pos hlt]
  have hA : ((xs.take i).flatten).length = i * sz := by
    rw [flatten_len (xs.take i) (fun c hc => hall c (List.mem_of_mem_take hc)), List.length_take, Nat.min_eq_left (by omega)]
  have hcur : cur.toList = (xs.take i).flatten ++ (c ++ ((xs.drop (i + 1)).flatten ++ cur.toList.drop (n * sz))) := by
    have h1 := List.take_append_drop (n * sz) cur.toList
    rw [h.take] at h1
    conv => lhs; rw [← h1, hxs]
    rw [List.flatten_append, List.flatten_cons, List.append_assoc, List.append_assoc]
  have hfl : (xs.set i (c.take k ++ vs ++ c.drop (k + vs.length))).flatten = (xs.take i).flatten ++ ((c.take k ++ vs ++ c.drop (k + vs.length)) ++ (xs.drop (i + 1)).flatten) := by
    rw [hset, List.flatten_append, List.flatten_cons]
  have hdl : ((xs.drop (i + 1)).flatten).length = n * sz - (i * sz + sz) := by
    rw [flatten_len (xs.drop (i + 1)) (fun c hc => hall c (List.mem_of_mem_drop hc)), List.length_drop, Nat.sub_mul, hn, Nat.succ_mul]
  refine ⟨?_, h.le, h.max, by rw [putAt_size]; exact hsz, ?_⟩
  · rw [hfl]
    simp only [List.length_append, hA, hdl, List.length_take, List.length_drop, hcl]
    omega
  · rw [putAt_list _ _ _ (by omega), hfl]
    conv => lhs; rw [hcur]
    have hB : (c ++ ((xs.drop (i + 1)).flatten ++ cur.toList.drop (n * sz))).take k = c.take k := by rw [List.take_append, show k - c.length = 0 by omega]; simp
    have hC : (c ++ ((xs.drop (i + 1)).flatten ++ cur.toList.drop (n * sz))).drop (k + vs.length) = c.drop (k + vs.length) ++ ((xs.drop (i + 1)).flatten ++ cur.toList.drop (n * sz)) := by rw [List.drop_append, show k + vs.length - c.length = 0 by omega]; simp
    have hT : ((xs.take i).flatten ++ (c ++ ((xs.drop (i + 1)).flatten ++ cur.toList.drop (n * sz)))).take (i * sz + k) = (xs.take i).flatten ++ c.take k := by
      rw [List.take_append, hA, List.take_of_length_le (by omega), show i * sz + k - i * sz = k by omega, hB]
    have hD : ((xs.take i).flatten ++ (c ++ ((xs.drop (i + 1)).flatten ++ cur.toList.drop (n * sz)))).drop (i * sz + k + vs.length) = c.drop (k + vs.length) ++ ((xs.drop (i + 1)).flatten ++ cur.toList.drop (n * sz)) := by
      rw [List.drop_append, hA, List.drop_eq_nil_of_le (by omega), show i * sz + k + vs.length - i * sz = k + vs.length by omega, hC]; simp
    rw [hT, hD]
    have : (xs.take i).flatten ++ c.take k ++ vs ++ (c.drop (k + vs.length) ++ ((xs.drop (i + 1)).flatten ++ cur.toList.drop (n * sz))) = ((xs.take i).flatten ++ (c.take k ++ vs ++ c.drop (k + vs.length) ++ (xs.drop (i + 1)).flatten)) ++ cur.toList.drop (n * sz) := by simp
    rw [this]
    refine List.take_left' ?_
    simp only [List.length_append, hA, hdl, List.length_take, List.length_drop, hcl]
    omega
/-! Blocks counted: what is a permutation, what is a part. -/
open Classical in
noncomputable def oneB (a e : Blk) : Nat := if e = a then 1 else 0
noncomputable def cntB (a : Blk) : Hp → Nat
  | [] => 0
  | e :: r => oneB a e + cntB a r
theorem cntB_nil (a : Blk) : cntB a [] = 0 := rfl
theorem cntB_cons (a e : Blk) (r : Hp) : cntB a (e :: r) = oneB a e + cntB a r := rfl
theorem cntB_app (a : Blk) : ∀ (h r : Hp), cntB a (h ++ r) = cntB a h + cntB a r := by
  intro h
  induction h with
  | nil => intro r; simp [cntB]
  | cons e h ih => intro r; rw [List.cons_append, cntB_cons, cntB_cons, ih]; omega
theorem oneB_self (a : Blk) : oneB a a = 1 := by simp [oneB]
theorem cntB_pos {a : Blk} : ∀ {h : Hp}, 0 < cntB a h → a ∈ h := by
  intro h
  induction h with
  | nil => intro h; simp [cntB] at h
  | cons e r ih =>
    intro h
    by_cases he : e = a
    · subst he; exact List.mem_cons_self ..
    · rw [cntB_cons, show oneB a e = 0 by simp [oneB, he]] at h
      exact List.mem_cons_of_mem _ (ih (by omega))
theorem mem_perm {a : Blk} : ∀ {h : Hp}, a ∈ h → ∃ r, (a :: r).Perm h := by
  intro h hm
  obtain ⟨s, t, rfl⟩ := List.append_of_mem hm
  exact ⟨s ++ t, List.perm_middle.symm⟩
theorem cntB_perm {a : Blk} {h r : Hp} (hp : h.Perm r) : cntB a h = cntB a r := by
  induction hp with
  | nil => rfl
  | cons x _ ih => rw [cntB_cons, cntB_cons, ih]
  | swap x y l => rw [cntB_cons, cntB_cons, cntB_cons, cntB_cons]; omega
  | trans _ _ h1 h2 => rw [h1, h2]
theorem hpLe_cnt : ∀ {r h : Hp}, (∀ a, cntB a r ≤ cntB a h) → HpLe r h := by
  intro r
  induction r with
  | nil => intros; trivial
  | cons e r ih =>
    intro h hc
    have h1 := hc e
    rw [cntB_cons, oneB_self] at h1
    obtain ⟨h', hp⟩ := mem_perm (cntB_pos (a := e) (h := h) (by omega))
    refine ⟨h', hp, ih fun a => ?_⟩
    have h2 := hc a
    rw [← cntB_perm hp, cntB_cons, cntB_cons] at h2
    omega
theorem HpLe.cnt {r h : Hp} (hl : HpLe r h) (a : Blk) : cntB a r ≤ cntB a h := by
  obtain ⟨x, hx⟩ := hl.perm
  have := cntB_perm (a := a) hx
  rw [cntB_app] at this
  omega
theorem perm_cnt : ∀ {r h : Hp}, (∀ a, cntB a r = cntB a h) → r.Perm h := by
  intro r
  induction r with
  | nil =>
    intro h hc
    cases h with
    | nil => exact .refl _
    | cons e h => have := hc e; rw [cntB_cons, oneB_self, cntB_nil] at this; omega
  | cons e r ih =>
    intro h hc
    have h1 := hc e
    rw [cntB_cons, oneB_self] at h1
    obtain ⟨h', hp⟩ := mem_perm (cntB_pos (a := e) (h := h) (by omega))
    refine ((ih fun a => ?_).cons e).trans hp
    have h2 := hc a
    rw [← cntB_perm hp, cntB_cons, cntB_cons] at h2
    omega
theorem clcntP {p : Prop} (h : p := by (refine perm_cnt fun a => ?_; simp only [cntB_app, cntB_cons, cntB_nil] <;> omega)) : p := h
theorem clcntL {p : Prop} (h : p := by (refine hpLe_cnt fun a => ?_; simp only [cntB_app, cntB_cons, cntB_nil] <;> omega)) : p := h
theorem cnt1 {r h : Hp} {p : Prop} (hle : HpLe r h) (k : HpLe r h → p := by (intro hle1; refine hpLe_cnt fun a => ?_; have := HpLe.cnt hle1 a; simp only [cntB_app, cntB_cons, cntB_nil] at *; omega)) : p := k hle
/-- A slice of one's own: nil, or in a block of its own. -/
def Own (e : TypeId) (sz : Nat) (v : Value) (h : Hp) (xs : List (List Value)) : Prop :=
  (∀ c ∈ xs, c.length = sz ∧ c.all (·.oneCell') = true) ∧ ((xs = [] ∧ v = .slice none 0 0 ∧ h = []) ∨ ∃ g cap cur, v = .slice (some ⟨g, 0, none⟩) xs.length cap ∧ h = [⟨g, cur, e⟩] ∧ Row g cap cur sz xs.length xs.flatten)
theorem Acc.own {e sz : Nat} {v : Value} {h : Hp} {xs : List (List Value)} (hA : Acc e sz v h xs) : Own e sz v h xs := ⟨hA.1, hA.2.imp id fun h => h.2⟩
theorem Own.opened {e sz : Nat} {v : Value} {h : Hp} {xs : List (List Value)} (hA : Own e sz v h xs) : ∃ p cap, v = .slice p xs.length cap := by
  rcases hA.2 with ⟨rfl, rfl, rfl⟩ | ⟨g, cap, cur, rfl, rfl, hrow⟩
  · exact ⟨_, _, rfl⟩
  · exact ⟨_, _, rfl⟩
theorem Row.range {g cap cur sz n t} {w : World} {xs : List (List Value)} (h : Row g cap cur sz n xs.flatten) (hall : ∀ c ∈ xs, c.length = sz) (hb : w.heap[g]? = some (.cells cur t (0, 0))) {i : Nat} {c : List Value} (hi : xs[i]? = some c) : w.rangeAt g (0 + i * sz) c := by
  intro j u hj
  rw [Nat.zero_add, cell_of_block hb]
  have := h.nth hall hi hj
  rw [nth_eq] at this
  simpa using this
theorem Own.lie {e sz : Nat} {v : Value} {h : Hp} {xs : List (List Value)} {w : World} (hA : Own e sz v h xs) (hh : Here h w) (hle : xs.length ≤ 281474976710656) : SlAt w v sz xs := by
  rcases hA.2 with ⟨rfl, rfl, rfl⟩ | ⟨g, cap, cur, rfl, rfl, hrow⟩
  · exact ⟨⟨none, 0, rfl, fun h => absurd rfl h⟩, hle⟩
  · exact ⟨⟨_, _, rfl, fun _ => ⟨g, 0, rfl, fun i c hc => hrow.range (fun c hc => (hA.1 c hc).1) (hh _ (List.mem_singleton.2 rfl)) hc⟩⟩, hle⟩
/-- A slice's rows as one. -/
theorem range_flatten {w : World} {b sz : Nat} : ∀ (xs : List (List Value)) (o : Nat), (∀ c ∈ xs, c.length = sz) → (∀ i c, xs[i]? = some c → w.rangeAt b (o + i * sz) c) → w.rangeAt b o xs.flatten := by
  intro xs
  induction xs with
  | nil => intro o _ _ j v hj; simp at hj
  | cons x r ih =>
    intro o hs h j v hj
    have hx := hs x (List.mem_cons_self ..)
    rw [List.flatten_cons] at hj
    rcases Nat.lt_or_ge j x.length with hlt | hge
    · rw [List.getElem?_append_left hlt] at hj
      have := h 0 x rfl j v hj
      simpa using this
    · rw [List.getElem?_append_right hge] at hj
      have := ih (o + sz) (fun c hc => hs c (List.mem_cons_of_mem _ hc)) (fun i c hc => by
        have := h (i + 1) c (by simpa using hc)
        rwa [Nat.succ_mul, show o + (i * sz + sz) = o + sz + i * sz by omega] at this) (j - x.length) v hj
      rwa [show o + sz + (j - x.length) = o + j by omega] at this
section
variable {P : Program} {T : Tab} {n : Nat} {w0 : World} {mu : List Nat} {l : Fm} {hp : Hp} {dd : Option Tmp} {ty : TypeId} {pos : String} {af : Array Edge} {gg : Option (Nat × Bool)} {Q : Exit → Fm → Hp → Prop} {all : Array Oper} {rest : List Oper}
/-- A slice without elements, appended: nothing comes. -/
theorem x_append0 (ok : TabOk P T) {t e sz by_ k cap c : Nat} {q : Addr} {p : Option Addr} {x y : Operand} (hx : ev l x = some (.slice (some q) k cap)) (hy : ev l y = some (.slice p 0 c)) (ht : lk T.sl t = some (e, sz)) (hk : k ≤ cap) :
    Hy P n w0 mu l hp ⟨dd, .call { callee := .builtin .append, args := #[x, y], argTypes := #[t, t] }, ty, pos, af, gg⟩ (.slice (some q) k cap) := by
  obtain ⟨hu, hsz⟩ := ok.gsl ht
  refine hy_run fun a w hk' _ => ?_
  have hst : ∀ q : Addr, (storeCells q []).run P w = .ok () w := fun q => by simp [storeCells]
  have hf : (Builtin.firstCells sz 0 (.slice p 0 c)).run P w = .ok #[] w := by
    cases p with
    | none => simp [Builtin.firstCells]
    | some b => exact run_firstCells_some (P := P) w sz 0 b 0 c [] (by simp) (by simp)
  simp only [execOp, resolve, invoke, builtin, Sem.run_bind, Sem.run_pure, Result.andThen_ok, List.map_toArray, List.map_cons, List.map_nil, hk'.ev hx, hk'.ev hy]
  simp [Builtin.append_, run_underlying hu, run_sizeOf hsz w, Builtin.lenOf, hk, hf, hst]
/-- One element appended to a slice of one's own. -/
theorem z_appendW (ok : TabOk P T) {t d e sz by_ cc a : Nat} {x y : Operand} {z v : Value} {c : List Value} {ha hp' : Hp} {xs : List (List Value)} (hA : Own e sz v ha xs) (hd : Nat.blt d n = true) (hx : ev l x = some v) (hy : ev l y = some (.slice (some ⟨a, 0, none⟩) 1 cc)) (ht : lk T.sl t = some (e, sz))
    (hz : lk T.zs e = some z) (hzs : z.cells.size = sz) (hb : lk T.eb e = some by_) (hby : Nat.ble by_ 4096 = true) (hperm : (ha ++ hp').Perm hp) (hl : c.length = sz) (hnews : NewsAt w0 mu hp a 0 c) (h1 : c.all (·.oneCell') = true) (h63 : xs.length < 1000000)
    (h : ∀ v' ha', Own e sz v' ha' (xs ++ [c]) → Ops P n w0 mu all rest ((d, v') :: l) (ha' ++ hp') Q) : Ops P n w0 mu all (⟨some d, .call { callee := .builtin .append, args := #[x, y], argTypes := #[t, t] }, ty, pos, af, none⟩ :: rest) l hp Q := by
  have hby' : by_ ≤ 4096 := Nat.le_of_ble_eq_true hby
  have hall : ∀ c' ∈ xs ++ [c], c'.length = sz ∧ c'.all (·.oneCell') = true := by
    intro c' hc'
    rcases List.mem_append.1 hc' with hc' | hc'
    · exact hA.1 c' hc'
    · obtain rfl := List.mem_singleton.1 hc'; exact ⟨hl, h1⟩
  rcases hA.2 with ⟨rfl, rfl, rfl⟩ | ⟨g, cap, cur, rfl, rfl, hrow⟩
  · refine z_appendN ok hd hx hy ht hz hzs hb (by omega) (by rw [hl, Nat.one_mul]) hnews (by omega) (by omega) fun g cap cur hr => ?_
    have := h (.slice (some ⟨g, 0, none⟩) 1 cap) [⟨g, cur, e⟩] ⟨hall, .inr ⟨g, cap, cur, rfl, rfl, by simpa using hr⟩⟩
    refine ops_perm _ ?_ this
    exact (hperm.cons _ : (⟨g, cur, e⟩ :: ([] ++ hp')).Perm (⟨g, cur, e⟩ :: hp))
  · refine z_appendO ok hd hx hy ht hz hzs hb hperm hrow (by rw [hl, Nat.one_mul]) hnews h1 (by omega) ?_ fun g cap cur hr => ?_
    · have h2 : (xs.length + 1 + (xs.length + 1) / 4 + 192) ≤ 2000000 := by omega
      calc _ ≤ 2000000 * by_ := Nat.mul_le_mul_right _ h2
        _ ≤ 2000000 * 4096 := Nat.mul_le_mul_left _ hby'
        _ ≤ _ := by decide
    · have := h (.slice (some ⟨g, 0, none⟩) (xs.length + 1) cap) [⟨g, cur, e⟩] ⟨hall, .inr ⟨g, cap, cur, by simp, rfl, by simpa using hr⟩⟩
      exact this
/-- All of a slice appended to an empty one of one's own. -/
theorem z_appendAll (ok : TabOk P T) {t d e sz by_ g cap a o m cc : Nat} {cur : Array Value} {x y : Operand} {z : Value} {hp' : Hp} {xs : List (List Value)} (hd : Nat.blt d n = true) (hx : ev l x = some (.slice (some ⟨g, 0, none⟩) 0 cap)) (hg : Row g cap cur sz 0 []) (hy : ev l y = some (.slice (some ⟨a, o, none⟩) m cc)) (ht : lk T.sl t = some (e, sz))
    (hz : lk T.zs e = some z) (hzs : z.cells.size = sz) (hb : lk T.eb e = some by_) (hby : Nat.ble by_ 4096 = true) (hperm : (⟨g, cur, e⟩ :: hp').Perm hp) (hm : m = xs.length) (hall : ∀ c ∈ xs, c.length = sz ∧ c.all (·.oneCell') = true) (hr : ∀ i c, xs[i]? = some c → w0.rangeAt a (o + i * sz) c) (hmu : a ∉ mu) (h63 : xs.length < 1000000)
    (h : ∀ v' ha', Own e sz v' ha' xs → Ops P n w0 mu all rest ((d, v') :: l) (ha' ++ hp') Q) : Ops P n w0 mu all (⟨some d, .call { callee := .builtin .append, args := #[x, y], argTypes := #[t, t] }, ty, pos, af, none⟩ :: rest) l hp Q := by
  have hby' : by_ ≤ 4096 := Nat.le_of_ble_eq_true hby
  have hfl := flatten_len xs (fun c hc => (hall c hc).1)
  refine z_appendO ok hd hx hy ht hz hzs hb hperm hg (news := xs.flatten) (by rw [hm, hfl]) (news_old (range_flatten xs o (fun c hc => (hall c hc).1) hr) hmu) ?_ (by omega) ?_ fun g cap cur hr => ?_
  · rw [List.all_flatten, List.all_eq_true]
    exact fun c hc => (hall c hc).2
  · have h2 : (0 + m + (0 + m) / 4 + 192) ≤ 2000000 := by omega
    calc _ ≤ 2000000 * by_ := Nat.mul_le_mul_right _ h2
      _ ≤ 2000000 * 4096 := Nat.mul_le_mul_left _ hby'
      _ ≤ _ := by decide
  · rw [Nat.zero_add, List.nil_append, hm] at hr
    have := h (.slice (some ⟨g, 0, none⟩) xs.length cap) [⟨g, cur, e⟩] ⟨hall, .inr ⟨g, cap, cur, rfl, rfl, hr⟩⟩
    rw [Nat.zero_add, hm]
    exact this
/-- A slice built of nothing. -/
theorem z_bslice0 (ok : TabOk P T) {t d e sz : Nat} (hd : Nat.blt d n = true) (ht : lk T.sl t = some (e, sz)) (h : ∀ b, Ops P n w0 mu all rest ((d, .slice (some ⟨b, 0, none⟩) 0 0) :: l) (⟨b, #[], e⟩ :: hp) Q) : Ops P n w0 mu all (⟨some d, .buildSlice t 0 #[], ty, pos, af, none⟩ :: rest) l hp Q := by
  refine ops_new (b := 0) rfl hd #[] e rfl (fun b => .slice (some ⟨b, 0, none⟩) 0 0) (fun a w hk _ => ?_) h
  obtain ⟨hu, hs⟩ := ok.gsl ht
  simp [execOp, Instr.buildSlice, run_underlying hu w, run_sizeOf hs w, Instr.fill, go_sem]
/-- Is a slice nil? -/
theorem x_nilS (ok : TabOk P T) {t u e sz m c : Nat} {p : Option Addr} {x : Operand} (hx : ev l x = some (.slice p m c)) (ht : lk T.sl t = some (e, sz)) : Hy P n w0 mu l hp ⟨dd, .binOp .eql t x (.const (.slice none 0 0)) u, ty, pos, af, gg⟩ (.bool p.isNone) := by
  obtain ⟨hu, hsz⟩ := ok.gsl ht
  refine hy_run fun a w hk' _ => ?_
  have h1 := Lib.run_eql_slice_nil (P := P) w t e p m c 0 0 hu
  have h2 := hk'.ev hx
  have h3 : a.eval (.const (.slice none 0 0)) = .slice none 0 0 := rfl
  simp only [execOp, h2, h3]
  cases p <;> simp [eqGuard, h1]
/-- What is left of a division. -/
theorem x_rem {hh : Hp} {t u : TypeId} {x y : Operand} {p q : Int} (hx : ev l x = some (.int .i64 p)) (hy : ev l y = some (.int .i64 q)) (hp : 0 ≤ p) (hq : 0 < q) : Hy P n w0 mu l hh ⟨dd, .binOp .rem t x y u, ty, pos, af, gg⟩ (.int .i64 (p % q)) :=
  hy_run fun ac w hk _ => by
    have h1 : p.tmod q = p % q := Int.tmod_eq_emod_of_nonneg hp
    have h2 : ¬ (q = 0) := by omega
    simp only [execOp, hk.ev hx, hk.ev hy]
    simp [eqGuard_rem, binOp_rem, Op.intDiv, h1, h2]
end
end Go.Proofs.YtiaelhhmlbfkmaaGreat

/- The engine: parts of slices, copy, clear, zeros appended, library functions of the model's own. No program in sight. -/
namespace Go.Proofs.YtiaelhhmlbfkmaaGreat
open Go.RowKit
set_option linter.unusedVariables false
set_option linter.unusedSimpArgs false
set_option maxRecDepth 20000
section
variable {P : Program} {T : Tab} {n : Nat} {w0 : World} {mu : List Nat} {l : Fm} {hp : Hp} {dd : Option Tmp} {ty : TypeId} {pos : String} {af : Array Edge} {gg : Option (Nat × Bool)} {Q : Exit → Fm → Hp → Prop} {all : Array Oper} {rest : List Oper}
theorem elem_of {t e : TypeId} (hu : P.underlying t = some (.slice e)) : P.underlying t = some (.slice (P.elem t)) := by
  have : P.elem t = e := by simp [Program.elem, hu]
  rw [this]; exact hu
theorem slice_add {b off k : Nat} : (⟨b, off, none⟩ : Addr).add k = ⟨b, off + k, none⟩ := Addr.add_lit ..
/-- A part of a slice, from one place to another. -/
theorem x_sliceLH (ok : TabOk P T) {t e sz b off m cap : Nat} {kl kh : IntKind} {x lo hi : Operand} {i j : Int} {o' m' c' : Nat} (hx : ev l x = some (.slice (some ⟨b, off, none⟩) m cap)) (hlo : ev l lo = some (.int kl i)) (hhi : ev l hi = some (.int kh j)) (ht : lk T.sl t = some (e, sz))
    (h0 : 0 ≤ i) (h1 : i ≤ j) (h2 : j ≤ cap) (h3 : i < cap) (ho : off + i.toNat * sz = o') (hm : j.toNat - i.toNat = m') (hc : cap - i.toNat = c') :
    Hy P n w0 mu l hp ⟨dd, .slice t x (some lo) (some hi) none, ty, pos, af, gg⟩ (.slice (some ⟨b, o', none⟩) m' c') := by
  obtain ⟨hu, hsz⟩ := ok.gsl ht
  subst ho hm hc
  refine hy_run fun a w hk _ => ?_
  have he : P.elem t = e := by simp [Program.elem, hu]
  have hs := run_sizeOf hsz w
  have hne : ¬ (cap = i.toNat) := by omega
  simp only [execOp, Option.map_some, Option.map_none, hk.ev hx, hk.ev hlo, hk.ev hhi]
  simp only [Sem.run_bind]
  rw [run_sliceAt_slice (w := w) t _ _ _ _ (elem_of hu), run_slice_lh (w := w) t _ m cap (elem_of hu) kl kh i j h0 h1 h2, he, hs]
  simp [sliced, hne, slice_add]
/-- .. from its beginning. -/
theorem x_sliceH (ok : TabOk P T) {t e sz m cap : Nat} {p : Option Addr} {kh : IntKind} {x hi : Operand} {j : Int} {m' : Nat} (hx : ev l x = some (.slice p m cap)) (hhi : ev l hi = some (.int kh j)) (ht : lk T.sl t = some (e, sz))
    (h0 : 0 ≤ j) (h2 : j ≤ cap) (hm : j.toNat = m') (hp0 : p = none ∨ ∃ b off, p = some ⟨b, off, none⟩) :
    Hy P n w0 mu l hp ⟨dd, .slice t x none (some hi) none, ty, pos, af, gg⟩ (.slice p m' cap) := by
  obtain ⟨hu, hsz⟩ := ok.gsl ht
  subst hm
  refine hy_run fun a w hk _ => ?_
  have he : P.elem t = e := by simp [Program.elem, hu]
  have hs := run_sizeOf hsz w
  simp only [execOp, Option.map_some, Option.map_none, hk.ev hx, hk.ev hhi]
  simp only [Sem.run_bind]
  rw [run_sliceAt_slice (w := w) t _ _ _ _ (elem_of hu), run_slice_h (w := w) t _ m cap (elem_of hu) kh j h0 h2, he, hs]
  rcases hp0 with rfl | ⟨b, off, rfl⟩
  · simp [sliced]
  · simp [sliced, slice_add]
/-- .. to its end. -/
theorem x_sliceL (ok : TabOk P T) {t e sz b off m cap : Nat} {kl : IntKind} {x lo : Operand} {i : Int} {o' m' c' : Nat} (hx : ev l x = some (.slice (some ⟨b, off, none⟩) m cap)) (hlo : ev l lo = some (.int kl i)) (ht : lk T.sl t = some (e, sz))
    (h0 : 0 ≤ i) (h1 : i ≤ m) (h3 : i < cap) (ho : off + i.toNat * sz = o') (hm : m - i.toNat = m') (hc : cap - i.toNat = c') :
    Hy P n w0 mu l hp ⟨dd, .slice t x (some lo) none none, ty, pos, af, gg⟩ (.slice (some ⟨b, o', none⟩) m' c') := by
  obtain ⟨hu, hsz⟩ := ok.gsl ht
  subst ho hm hc
  refine hy_run fun a w hk _ => ?_
  have he : P.elem t = e := by simp [Program.elem, hu]
  have hs := run_sizeOf hsz w
  have hne : ¬ (cap = i.toNat) := by omega
  simp only [execOp, Option.map_some, Option.map_none, hk.ev hx, hk.ev hlo]
  simp only [Sem.run_bind]
  rw [run_sliceAt_slice (w := w) t _ _ _ _ (elem_of hu), run_slice_l (w := w) t _ m cap (elem_of hu) kl i h0 h1, he, hs]
  simp [sliced, hne, slice_add]
/-- .. whatever its place: what is behind it is not looked at. -/
theorem x_sliceLV (ok : TabOk P T) {t e sz m cap : Nat} {p : Option Addr} {kl : IntKind} {x lo : Operand} {i : Int} (hx : ev l x = some (.slice p m cap)) (hlo : ev l lo = some (.int kl i)) (ht : lk T.sl t = some (e, sz))
    (h0 : 0 ≤ i) (h1 : i ≤ m) : Hy P n w0 mu l hp ⟨dd, .slice t x (some lo) none none, ty, pos, af, gg⟩ (sliced p i.toNat m cap sz) := by
  obtain ⟨hu, hsz⟩ := ok.gsl ht
  refine hy_run fun a w hk _ => ?_
  have he : P.elem t = e := by simp [Program.elem, hu]
  have hs := run_sizeOf hsz w
  simp only [execOp, Option.map_some, Option.map_none, hk.ev hx, hk.ev hlo]
  simp only [Sem.run_bind]
  rw [run_sliceAt_slice (w := w) t _ _ _ _ (elem_of hu), run_slice_l (w := w) t _ m cap (elem_of hu) kl i h0 h1, he, hs]
  simp
theorem min_cells {k d : Nat} : Nat.min k d = min k d := rfl
/-- Cells of one slice copied into one's own block. -/
theorem z_copy (ok : TabOk P T) {t t' e sz d b o dl dc a so sl sc : Nat} {cs : Array Value} {tb : TypeId} {x y : Operand} {news : List Value} {hp' : Hp} (hd : Nat.blt d n = true) (hx : ev l x = some (.slice (some ⟨b, o, none⟩) dl dc)) (hy : ev l y = some (.slice (some ⟨a, so, none⟩) sl sc)) (ht : lk T.sl t = some (e, sz))
    (hperm : (⟨b, cs, tb⟩ :: hp').Perm hp) (hl : news.length = min sl dl * sz) (hnews : NewsAt w0 mu hp a so news) (h1 : news.all (·.oneCell') = true) (hfit : o + news.length ≤ cs.size)
    (h : Ops P n w0 mu all rest ((d, .int .i64 (min sl dl : Nat)) :: l) (⟨b, putAt cs o news, tb⟩ :: hp') Q) : Ops P n w0 mu all (⟨some d, .call { callee := .builtin .copy, args := #[x, y], argTypes := #[t, t'] }, ty, pos, af, none⟩ :: rest) l hp Q := by
  intro ac w hk hG
  have hput : ∀ v, Knows n ((d, v) :: l) (ac.put (some d) v) := fun v => Knows.put (d := some d) hk (fun t ht => by cases ht; simpa using hd) v
  obtain ⟨hu, hsz⟩ := ok.gsl ht
  have hG' := hG.perm hperm
  have hb := hG'.here _ (List.mem_cons_self ..)
  have hsrc : ∀ j u, news[j]? = some u → w.cell? ((⟨a, so, none⟩ : Addr).add j) = some u := fun j u hj => by rw [Addr.add_mid]; exact hnews w hG j u hj
  have hld := run_loadCells_list (P := P) w ⟨a, so, none⟩ news hsrc
  have hst := run_storeCells_cells (P := P) b o news 0 w
    (fun j hj => by rw [cell_of_block hb]; simp [show o + j < cs.size by omega])
    (fun j _ => free_of_block hb) (fun u hu => (List.all_eq_true.1 h1) u hu)
  simp only [Nat.add_zero] at hst
  refine wpList_plain rfl fun K hK => ?_
  unfold Oper.wp execOp
  have hs := run_sizeOf hsz w
  have hr : (Builtin.copy_ #[t, t'] ty #[.slice (some ⟨b, o, none⟩) dl dc, .slice (some ⟨a, so, none⟩) sl sc]).run P w = .ok (goInt (min sl dl : Nat)) (w.setCells b o news) := by
    simp [Builtin.copy_, run_underlying hu, Builtin.lenOf, Builtin.firstCells, hs, min_cells, ← hl, hld, hst]
  simp only [resolve, invoke, builtin, Sem.run_bind, Sem.run_pure, Result.andThen_ok, List.map_toArray, List.map_cons, List.map_nil, hk.ev hx, hk.ev hy, hr]
  exact hK _ _ (h _ _ (hput _) (Good.sets (w := w) news cs o w hG'))
/-- A part of one's own block cleared. -/
theorem z_clear (ok : TabOk P T) {t e sz b o m c d : Nat} {cs : Array Value} {tb : TypeId} {x : Operand} {z : Value} {hp' : Hp} (hd : Nat.blt d n = true) (hx : ev l x = some (.slice (some ⟨b, o, none⟩) m c)) (ht : lk T.sl t = some (e, sz)) (hz : lk T.zs e = some z) (hzs : z.cells.size = sz) (hz1 : z.cells.toList.all (·.oneCell') = true) (hm : 0 < m)
    (hperm : (⟨b, cs, tb⟩ :: hp').Perm hp) (hfit : o + m * sz ≤ cs.size)
    (h : ∀ vs : List Value, vs.length = m * sz → Ops P n w0 mu all rest ((d, .tuple #[]) :: l) (⟨b, putAt cs o vs, tb⟩ :: hp') Q) : Ops P n w0 mu all (⟨some d, .call { callee := .builtin .clear, args := #[x], argTypes := #[t] }, ty, pos, af, none⟩ :: rest) l hp Q := by
  intro ac w hk hG
  have hput : ∀ v, Knows n ((d, v) :: l) (ac.put (some d) v) := fun v => Knows.put (d := some d) hk (fun t ht => by cases ht; simpa using hd) v
  obtain ⟨hu, hsz⟩ := ok.gsl ht
  have hG' := hG.perm hperm
  have hb := hG'.here _ (List.mem_cons_self ..)
  have hlen : (Builtin.zeroCells z.cells m).toList.length = m * sz := by rw [Array.length_toList, size_zeroCells, hzs]
  have hst := run_storeCells_cells (P := P) b o (Builtin.zeroCells z.cells m).toList 0 w
    (fun j hj => by rw [cell_of_block hb]; simp [show o + j < cs.size by omega])
    (fun j _ => free_of_block hb) (fun u hu => by
      refine (List.all_eq_true.1 hz1) u ?_
      simp only [Builtin.zeroCells, Array.mem_toList_iff, Array.mem_map, Array.mem_range] at hu
      obtain ⟨i, hi, rfl⟩ := hu
      have hpos : 0 < z.cells.size := by
        rcases Nat.eq_zero_or_pos z.cells.size with h0 | h0
        · rw [h0] at hi; omega
        · exact h0
      rw [getElem!_pos z.cells _ (Nat.mod_lt _ hpos)]
      simp)
  simp only [Nat.add_zero] at hst
  refine wpList_plain rfl fun K hK => ?_
  unfold Oper.wp execOp
  have hr : (Builtin.clear_ #[t] ty #[.slice (some ⟨b, o, none⟩) m c]).run P w = .ok (.tuple #[]) (w.setCells b o (Builtin.zeroCells z.cells m).toList) := by
    obtain ⟨m', rfl⟩ : ∃ m', m = m' + 1 := ⟨m - 1, by omega⟩
    simp [Builtin.clear_, run_underlying hu, run_zero (ok.gzs hz) w, hst]
  simp only [resolve, invoke, builtin, Sem.run_bind, Sem.run_pure, Result.andThen_ok, List.map_toArray, List.map_cons, List.map_nil, hk.ev hx, hr]
  exact hK _ _ (h _ hlen _ _ (hput _) (Good.sets (w := w) _ cs o w hG'))
/-- Zeros appended where there is no room: a new row. -/
theorem z_appendZ (ok : TabOk P T) {t tn e sz by_ s k cap b off d : Nat} {kq kn : IntKind} {x y : Operand} {z : Value} {olds : List Value} (hd : Nat.blt d n = true) (hx : ev l x = some (.slice (some ⟨b, off, none⟩) s cap)) (hy : ev l y = some (.int kq (k : Int))) (ht : lk T.sl t = some (e, sz)) (htn : lk T.ik tn = some kn)
    (hz : lk T.zs e = some z) (hzs : z.cells.size = sz) (hb : lk T.eb e = some by_) (hby : Nat.ble by_ 4096 = true) (hl : olds.length = s * sz) (hnews : NewsAt w0 mu hp b off olds) (hs0 : 0 < sz) (hk0 : 0 < k) (hroom : cap < s + k) (hsmall : s + k ≤ 1000000)
    (h : ∀ g cap' cur, cur.size = cap' * sz → s + k ≤ cap' → cap' ≤ maxLen → cur.toList.take (s * sz) = olds → Ops P n w0 mu all rest ((d, .slice (some ⟨g, 0, none⟩) (s + k) cap') :: l) (⟨g, cur, e⟩ :: hp) Q) : Ops P n w0 mu all (⟨some d, .call { callee := .builtin .append, args := #[x, y], argTypes := #[t, tn] }, ty, pos, af, none⟩ :: rest) l hp Q := by
  intro ac w hk hG
  have hput : ∀ v, Knows n ((d, v) :: l) (ac.put (some d) v) := fun v => Knows.put (d := some d) hk (fun t ht => by cases ht; simpa using hd) v
  obtain ⟨hu, hsz⟩ := ok.gsl ht
  have hun := ok.gik htn
  have hby' : by_ ≤ 4096 := Nat.le_of_ble_eq_true hby
  have hbb := List.all_eq_true.1 ok.eb _ (lk_mem hb)
  simp only [beq_iff_eq] at hbb
  obtain ⟨i, hi, hiz, his, hib⟩ := info_of hsz hbb (ok.gzs hz)
  subst his hib
  have hold : (Builtin.firstCells i.size s (.slice (some ⟨b, off, none⟩) s cap)).run P w.drew = .ok olds.toArray w.drew :=
    run_firstCells_some w.drew i.size s ⟨b, off, none⟩ s cap olds (by rw [hl]) (fun j u hj => by rw [Addr.add_mid]; exact hnews w hG j u hj)
  have h48 : k * i.bytes ≤ 281474976710656 := by
    calc k * i.bytes ≤ 1000000 * 4096 := Nat.mul_le_mul (by omega) hby'
      _ ≤ _ := by decide
  have hfit : Builtin.nextslicecap (s + k) cap * i.bytes ≤ 281474976710656 := by
    refine growslice_fits_wide (by omega) ?_
    have h2 : (s + k + (s + k) / 4 + 192) ≤ 2000000 := by omega
    calc _ ≤ 2000000 * i.bytes := Nat.mul_le_mul_right _ h2
      _ ≤ 2000000 * 4096 := Nat.mul_le_mul_left _ hby'
      _ ≤ _ := by decide
  have hr := Lib.run_append_grow_zeros (P := P) w t tn ty e i z kq kn hu hun hi hiz (some ⟨b, off, none⟩) s cap olds hold k hk0 hs0 hroom (by omega) h48 hfit
  refine wpList_plain rfl fun K hK => ?_
  unfold Oper.wp execOp
  simp only [resolve, invoke, builtin, Sem.run_bind, Sem.run_pure, Result.andThen_ok, List.map_toArray, List.map_cons, List.map_nil, hk.ev hx, hk.ev hy, hr]
  have hge := grownCap_ge w (s + k) cap e
  have hcm : grownCap w (s + k) cap e ≤ maxLen := grownCap_le_maxLen w (s + k) cap e (by unfold maxLen; omega)
  have hG2 := (hG.drawn (w.drawn + 1)).alloc (olds.toArray ++ Builtin.zeroCells z.cells k ++ Builtin.zeroCells z.cells (grownCap w (s + k) cap e - (s + k))) e
  refine hK _ _ (h _ _ _ ?_ hge hcm ?_ _ _ (hput _) hG2)
  · simp only [Array.size_append, List.size_toArray, size_zeroCells, hzs, hl, ← Nat.add_mul]
    congr 1
    omega
  · simp only [Array.toList_append, List.append_assoc]
    rw [← hl]
    exact List.take_left
/-- Shifted to the right, by a given count. -/
theorem x_shrU {t u : TypeId} {x y : Operand} {p : Int} {ky : IntKind} {c : Int} {q : Int} (hx : ev l x = some (.int .u64 p)) (hy : ev l y = some (.int ky c)) (h0 : 0 ≤ c) (h1 : c ≤ 64) (hq : p / 2 ^ c.toNat = q) : Hy P n w0 mu l hp ⟨dd, .binOp .shr t x y u, ty, pos, af, gg⟩ (.int .u64 q) :=
  hy_run fun ac w hk _ => by
    subst hq
    simp only [execOp, hk.ev hx, hk.ev hy]
    simp [eqGuard_shr, binOp_shr, shift_shr_u64 (yk := ky) (h₀ := h0) (h₁ := h1)]
/-- A function of the model's own that yields a value. -/
theorem x_ext {f : FuncId} {xs : List Operand} {vs : List Value} {tys : Array TypeId} {v : Value} (hv : evs l xs = some vs) (hr : ∀ w, Good w0 mu hp w → (callFunc f vs.toArray).run P w = .ok (.value v) w) : Hy P n w0 mu l hp ⟨dd, .call { callee := .value (.func f), args := xs.toArray, argTypes := tys }, ty, pos, af, gg⟩ v := by
  refine hy_run fun a w hk hG => ?_
  have e : xs.toArray.map a.eval = vs.toArray := by rw [← hk.evs hv]; simp
  rw [Conc.execOp_call_func rfl, e]
  exact hr w hG
end
/-! Cells put beside each other. -/
theorem putAt_two {cs : Array Value} {A c D : List Value} (hA : cs.toList.take A.length = A) (hs : A.length + c.length + D.length ≤ cs.size) :
    (putAt (putAt cs (A.length + c.length) D) A.length c).toList.take (A.length + c.length + D.length) = A ++ c ++ D := by
  have h1 : (putAt cs (A.length + c.length) D).size = cs.size := putAt_size ..
  rw [putAt_list _ _ _ (by omega), putAt_list _ _ _ (by omega)]
  have ht : cs.toList.length = cs.size := Array.length_toList
  have e1 : ((cs.toList.take (A.length + c.length) ++ D ++ cs.toList.drop (A.length + c.length + D.length)).take A.length) = A := by
    rw [List.append_assoc, List.take_append, List.take_take, List.length_take, show A.length - min (A.length + c.length) cs.toList.length = 0 by omega, show min A.length (A.length + c.length) = A.length by omega, hA]; simp
  have e2 : ((cs.toList.take (A.length + c.length) ++ D ++ cs.toList.drop (A.length + c.length + D.length)).drop (A.length + c.length)) = D ++ cs.toList.drop (A.length + c.length + D.length) := by
    rw [List.append_assoc, List.drop_append, List.drop_eq_nil_of_le (by rw [List.length_take]; omega), List.length_take, show A.length + c.length - min (A.length + c.length) cs.toList.length = 0 by omega]; simp
  rw [e1, e2]
  have : A ++ c ++ (D ++ cs.toList.drop (A.length + c.length + D.length)) = (A ++ c ++ D) ++ cs.toList.drop (A.length + c.length + D.length) := by simp
  rw [this]
  exact List.take_left' (by simp; omega)
theorem putAt_two' {cs : Array Value} {A c D : List Value} (hA : cs.toList.take A.length = A) (hs : A.length + c.length + D.length ≤ cs.size) :
    (putAt (putAt cs A.length c) (A.length + c.length) D).toList.take (A.length + c.length + D.length) = A ++ c ++ D := by
  have h1 : (putAt cs A.length c).size = cs.size := putAt_size ..
  rw [putAt_list _ _ _ (by omega), putAt_list _ _ _ (by omega), hA]
  have e1 : ((A ++ c ++ cs.toList.drop (A.length + c.length)).take (A.length + c.length)) = A ++ c := List.take_left' (by simp)
  rw [e1]
  exact List.take_left' (by simp; omega)
end Go.Proofs.YtiaelhhmlbfkmaaGreat

/- The engine: how much room a slice has; zeros. No program in sight. -/
namespace Go.Proofs.YtiaelhhmlbfkmaaGreat
open Go.RowKit
set_option linter.unusedVariables false
set_option linter.unusedSimpArgs false
set_option maxRecDepth 20000
section
variable {P : Program} {T : Tab} {n : Nat} {w0 : World} {mu : List Nat} {l : Fm} {hp : Hp} {dd : Option Tmp} {ty : TypeId} {pos : String} {af : Array Edge} {gg : Option (Nat × Bool)} {Q : Exit → Fm → Hp → Prop} {all : Array Oper} {rest : List Oper}
/-- A part of one's own block cleared. -/
theorem z_clear0 (ok : TabOk P T) {t e sz b o m c : Nat} {cs : Array Value} {tb : TypeId} {x : Operand} {z : Value} {hp' : Hp} (hx : ev l x = some (.slice (some ⟨b, o, none⟩) m c)) (ht : lk T.sl t = some (e, sz)) (hz : lk T.zs e = some z) (hzs : z.cells.size = sz) (hz1 : z.cells.toList.all (·.oneCell') = true) (hm : 0 < m)
    (hperm : (⟨b, cs, tb⟩ :: hp').Perm hp) (hfit : o + m * sz ≤ cs.size)
    (h : ∀ vs : List Value, vs.length = m * sz → Ops P n w0 mu all rest l (⟨b, putAt cs o vs, tb⟩ :: hp') Q) : Ops P n w0 mu all (⟨none, .call { callee := .builtin .clear, args := #[x], argTypes := #[t] }, ty, pos, af, none⟩ :: rest) l hp Q := by
  intro ac w hk hG
  obtain ⟨hu, hsz⟩ := ok.gsl ht
  have hG' := hG.perm hperm
  have hb := hG'.here _ (List.mem_cons_self ..)
  have hlen : (Builtin.zeroCells z.cells m).toList.length = m * sz := by rw [Array.length_toList, size_zeroCells, hzs]
  have hst := run_storeCells_cells (P := P) b o (Builtin.zeroCells z.cells m).toList 0 w
    (fun j hj => by rw [cell_of_block hb]; simp [show o + j < cs.size by omega])
    (fun j _ => free_of_block hb) (fun u hu => by
      refine (List.all_eq_true.1 hz1) u ?_
      simp only [Builtin.zeroCells, Array.mem_toList_iff, Array.mem_map, Array.mem_range] at hu
      obtain ⟨i, hi, rfl⟩ := hu
      have hpos : 0 < z.cells.size := by
        rcases Nat.eq_zero_or_pos z.cells.size with h0 | h0
        · rw [h0] at hi; omega
        · exact h0
      rw [getElem!_pos z.cells _ (Nat.mod_lt _ hpos)]
      simp)
  simp only [Nat.add_zero] at hst
  refine wpList_plain rfl fun K hK => ?_
  unfold Oper.wp execOp
  have hr : (Builtin.clear_ #[t] ty #[.slice (some ⟨b, o, none⟩) m c]).run P w = .ok (.tuple #[]) (w.setCells b o (Builtin.zeroCells z.cells m).toList) := by
    obtain ⟨m', rfl⟩ : ∃ m', m = m' + 1 := ⟨m - 1, by omega⟩
    simp [Builtin.clear_, run_underlying hu, run_zero (ok.gzs hz) w, hst]
  simp only [resolve, invoke, builtin, Sem.run_bind, Sem.run_pure, Result.andThen_ok, List.map_toArray, List.map_cons, List.map_nil, hk.ev hx, hr]
  exact hK _ _ (h _ hlen _ _ hk (Good.sets (w := w) _ cs o w hG'))
theorem x_cap (ok : TabOk P T) {t e sz m c : Nat} {p : Option Addr} {x : Operand} (hx : ev l x = some (.slice p m c)) (ht : lk T.sl t = some (e, sz)) :
    Hy P n w0 mu l hp ⟨dd, .call { callee := .builtin .cap, args := #[x], argTypes := #[t] }, ty, pos, af, gg⟩ (.int .i64 c) := by
  obtain ⟨hu, hsz⟩ := ok.gsl ht
  refine hy_run fun a w hk _ => ?_
  have hr := run_cap_slice (P := P) w t ty p m c (elem_of hu)
  simp only [execOp, resolve, invoke, builtin, Sem.run_bind, Sem.run_pure, Result.andThen_ok, List.map_toArray, List.map_cons, List.map_nil, hk.ev hx, hr]
  rfl
/-- A slice built, out of turn. -/
theorem eo_bslice (ok : TabOk P T) {lf : Fm} {t len e sz : Nat} {z : Value} {ps : List (Nat × Operand)} {vs : List (Nat × Value)} {zl : List Value} {out : Array Value} {out' : List Value} (ht : lk T.sl t = some (e, sz)) (hz : lk T.zs e = some z) (hzc : z.cells = zl.toArray) (hzs : Nat.beq zl.length sz = true) (hpos : (Nat.blt 0 (len * sz) && Nat.ble (len * sz) 16777216) = true) (hv : evp lf ps = some vs) (hf : flS sz (rep zl len).toArray vs = some out) (hn : out = out'.toArray) :
    EoR P n w0 mu all lf hp ⟨dd, .buildSlice t len ps.toArray, ty, pos, af, none⟩ (fun v hn => ∃ b, v = .slice (some ⟨b, 0, none⟩) len len ∧ hn = [⟨b, out'.toArray, e⟩]) := by
  subst hn
  have hzs' : zl.length = sz := by simpa using hzs
  rw [Bool.and_eq_true] at hpos
  obtain ⟨hp1, hp2⟩ := hpos
  replace hp1 : 0 < len * sz := by simpa using hp1
  replace hp2 : len * sz ≤ 16777216 := Nat.le_of_ble_eq_true hp2
  have hsp : 0 < sz := by rcases Nat.eq_zero_or_pos sz with h | h; · rw [h] at hp1; simp at hp1
                          · exact h
  refine eo_new (F := fun b => .slice (some ⟨b, 0, none⟩) len len) rfl _ _ fun a w hk => ?_
  have e1 : (ps.toArray.map fun x => (x.1, a.eval x.2)) = vs.toArray := by rw [← hk.evp hv]; simp
  obtain ⟨hu, hs⟩ := ok.gsl ht
  have hr := rep_eq z.cells (by rw [hzc]; simpa [hzs'] using hsp) len
  have hsz : z.cells.size = sz := by rw [hzc]; simpa using hzs'
  rw [hsz] at hr
  simp only [execOp, Instr.buildSlice, Sem.run_bind, run_underlying hu w, Result.andThen_ok, run_sizeOf hs w, e1]
  rw [if_neg (by omega)]
  simp only [Sem.run_bind, Sem.run_pure, Result.andThen_ok, if_neg (show ¬ len * sz = 0 by omega), run_zero (ok.gzs hz) w, hsz, hr]
  rw [show z.cells.toList = zl by rw [hzc]]
  simp only [List.toList_toArray, flS_fill _ _ _ _ hf]
  simp [go_sem]
end
end Go.Proofs.YtiaelhhmlbfkmaaGreat

/- The engine: slices of one's own, more of it. -/
namespace Go.Proofs.YtiaelhhmlbfkmaaGreat
open Go.RowKit
set_option linter.unusedVariables false
set_option linter.unusedSimpArgs false
set_option maxRecDepth 20000
attribute [local irreducible] Hy St Ops DH DHF
theorem Own.row {e sz n : Nat} {v : Value} {h : Hp} {xs : List (List Value)} (hA : Own e sz v h xs) (hn : xs.length = n) (h0 : 0 < n) : ∃ g cap cur, v = .slice (some ⟨g, 0, none⟩) n cap ∧ h = [⟨g, cur, e⟩] ∧ Row g cap cur sz n xs.flatten := by
  rcases hA.2 with ⟨rfl, rfl, rfl⟩ | ⟨g, cap, cur, rfl, rfl, hrow⟩
  · simp at hn; omega
  · subst hn; exact ⟨g, cap, cur, rfl, rfl, hrow⟩
theorem own_some {e sz : Nat} {xs : List (List Value)} (hall : ∀ c ∈ xs, c.length = sz ∧ c.all (·.oneCell') = true) (hle : xs.length ≤ 1000000) : ∃ v hn, Own e sz v hn xs := by
  have hl := flatten_len xs (fun c hc => (hall c hc).1)
  exact ⟨_, _, hall, .inr ⟨0, xs.length, xs.flatten.toArray, rfl, rfl, ⟨hl, Nat.le_refl _, by unfold maxLen; omega, by rw [List.size_toArray]; exact hl, by rw [← hl, List.take_length]⟩⟩⟩
theorem in_all {xs : List Int} : ∀ c ∈ xs.map inV, c.length = 1 ∧ c.all (·.oneCell') = true := fun c hc => by obtain ⟨x, _, rfl⟩ := List.mem_map.1 hc; exact ⟨rfl, rfl⟩
theorem SlAt.of_ranges {α : Type} {w : World} {b cap sz : Nat} {f : Nat → List Value} {n : Nat} (hle : n ≤ 281474976710656) (h : ∀ i, i < n → w.rangeAt b (0 + i * sz) (f i)) : SlAt w (.slice (some ⟨b, 0, none⟩) n cap) sz ((List.range n).map f) := by
  refine ⟨⟨_, cap, by simp, fun _ => ⟨b, 0, rfl, fun i c hc => ?_⟩⟩, by simpa using hle⟩
  have hi : i < n := by have := (List.getElem?_eq_some_iff.1 hc).1; simpa using this
  rw [getD_range_map _ hi] at hc
  cases hc
  exact h i hi
theorem map_range {α β : Type} [Inhabited α] (xs : List α) (f : α → β) : (List.range xs.length).map (fun i => f (xs.getD i default)) = xs.map f := by
  apply List.ext_getElem?
  intro i
  by_cases hi : i < xs.length
  · simp [hi]
  · simp [hi]
theorem perm_out (A L R : Hp) : (L ++ (R ++ A)).Perm (A ++ (L ++ R)) := by
  rw [← List.append_assoc]
  exact List.perm_append_comm
theorem Good.here' {w0 w : World} {mu : List Nat} {hp hi : Hp} (hG : Good w0 mu hp w) (hm : HpLe hi hp) : Here hi w := (hG.le hm).here
theorem Row.cut {g cap sz n : Nat} {cur : Array Value} {xs : List (List Value)} (h : Row g cap cur sz n xs.flatten) (hall : ∀ c ∈ xs, c.length = sz) {i : Nat} {c : List Value} (hi : xs[i]? = some c) : (cur.toList.drop (i * sz)).take sz = c := by
  have hf := flatten_row hall hi
  rw [← h.take] at hf
  have hlt : i < xs.length := (List.getElem?_eq_some_iff.1 hi).1
  have hn : xs.length * sz = n * sz := by rw [← flatten_len xs hall, h.len]
  have hle : i * sz + sz ≤ n * sz := by rw [← hn, ← Nat.succ_mul]; exact Nat.mul_le_mul_right _ hlt
  rwa [List.drop_take, List.take_take, Nat.min_eq_left (by omega)] at hf
/-- One element appended to a slice of one's own. -/
theorem appendW {n : Nat} {w0 : World} {mu : List Nat} {l : Fm} {hp : Hp} {Q : Exit → Fm → Hp → Prop} {all : Array Oper} {rest : List Oper} {ty : TypeId} {pos : String} {af : Array Edge} {t d e sz by_ cc a : Nat} {x y : Operand} {z v : Value} {c : List Value} {ha : Hp} {xs : List (List Value)} (hp' : Hp) (hA : Own e sz v ha xs) (h : ∀ v' ha', Own e sz v' ha' (xs ++ [c]) → Ops Tryz.prog n w0 mu all rest ((d, v') :: l) (ha' ++ hp') Q) (h63 : xs.length < 1000000) (hnews : NewsAt w0 mu hp a 0 c)
    (hperm : (ha ++ hp').Perm hp) (hd : Nat.blt d n = true := by rfl) (hx : ev l x = some v := by rfl) (hy : ev l y = some (.slice (some ⟨a, 0, none⟩) 1 cc) := by rfl) (ht : lk Tb.sl t = some (e, sz) := by rfl)
    (hz : lk Tb.zs e = some z := by rfl) (hzs : z.cells.size = sz := by rfl) (hb : lk Tb.eb e = some by_ := by rfl) (hby : Nat.ble by_ 4096 = true := by rfl) (hl : c.length = sz := by rfl) (h1 : c.all (·.oneCell') = true := by rfl) : Ops Tryz.prog n w0 mu all (⟨some d, .call { callee := .builtin .append, args := #[x, y], argTypes := #[t, t] }, ty, pos, af, none⟩ :: rest) l hp Q :=
  z_appendW tb_ok hA hd hx hy ht hz hzs hb hby hperm hl hnews h1 h63 h
theorem set_same {α : Type} {l : List α} {i : Nat} {a : α} (h : l[i]? = some a) : l.set i a = l := by
  apply List.ext_getElem?
  intro j
  by_cases hj : i = j
  · subst hj
    have hlt := (List.getElem?_eq_some_iff.1 h).1
    rw [List.getElem?_set_self hlt, h]
  · rw [List.getElem?_set_ne hj]
/-- A slice of numbers of one's own, one of them. -/
theorem Own.setI {e : Nat} {v : Value} {h : Hp} {xs : List Int} (hA : Own e 1 v h (xs.map inV)) {k : Nat} (hk : k < xs.length) : ∃ g cap cur, v = .slice (some ⟨g, 0, none⟩) xs.length cap ∧ h = [⟨g, cur, e⟩] ∧ nth cur.toList k = some (.int .i64 (xs.getD k 0)) ∧ k + 1 ≤ cur.size ∧
    ∀ z, Own e 1 v [⟨g, cur.setIfInBounds k (.int .i64 z), e⟩] ((xs.set k z).map inV) := by
  obtain ⟨g, cap, cur, rfl, rfl, hr⟩ := hA.row (n := xs.length) (by simp) (by omega)
  have hall : ∀ c ∈ xs.map inV, c.length = 1 := fun c hc => (in_all c hc).1
  have hi : (xs.map inV)[k]? = some (inV (xs.getD k 0)) := by
    rw [List.getElem?_map, List.getD_eq_getElem?_getD, List.getElem?_eq_getElem hk]; rfl
  have h1 := hr.nth hall hi (k := 0) rfl
  rw [Nat.mul_one, Nat.add_zero] at h1
  have hsz := hr.size
  have hle := hr.le
  refine ⟨g, cap, cur, rfl, rfl, h1, by omega, fun z => ⟨in_all, .inr ⟨g, cap, _, by simp, rfl, ?_⟩⟩⟩
  have h2 := hr.put hall hi (k := 0) (vs := [.int .i64 z]) (by simp)
  have e1 : (inV (xs.getD k 0)).take 0 ++ [Value.int .i64 z] ++ (inV (xs.getD k 0)).drop (0 + [Value.int .i64 z].length) = inV z := rfl
  rw [e1, Nat.mul_one, Nat.add_zero] at h2
  have e2 : ((xs.set k z).map inV).length = xs.length := by simp
  rw [e2, List.map_set]
  exact h2
theorem hle_eq {a b c : Hp} (h : a = b) (h2 : HpLe b c) : HpLe a c := h ▸ h2
theorem nth_putAt : ∀ (vs : List Value) (cs : Array Value) (o : Nat) {i : Nat}, (i < o ∨ o + vs.length ≤ i) → nth (putAt cs o vs).toList i = nth cs.toList i := by
  intro vs
  induction vs with
  | nil => intro cs o i _; rfl
  | cons v r ih =>
    intro cs o i h
    simp only [List.length_cons] at h
    rw [putAt, ih _ _ (by omega), nth_eq, nth_eq, Array.toList_setIfInBounds, List.getElem?_toArray, List.getElem?_toArray, List.getElem?_set_ne (show o ≠ i by omega)]
theorem acc_some {e sz : Nat} {xs : List (List Value)} (hall : ∀ c ∈ xs, c.length = sz ∧ c.all (·.oneCell') = true) (hle : xs.length ≤ 1000000) : ∃ v hn, Acc e sz v hn xs := by
  rcases Classical.em (xs = []) with rfl | hx
  · exact ⟨_, _, Acc.nil _ _⟩
  · have hl := flatten_len xs (fun c hc => (hall c hc).1)
    exact ⟨_, _, hall, .inr ⟨hx, 0, xs.length, xs.flatten.toArray, rfl, rfl, ⟨hl, Nat.le_refl _, by unfold maxLen; omega, by rw [List.size_toArray]; exact hl, by rw [← hl, List.take_length]⟩⟩⟩
theorem Own.openedC {e sz : Nat} {v : Value} {h : Hp} {xs : List (List Value)} (hA : Own e sz v h xs) : ∃ p cap, v = .slice p xs.length cap ∧ xs.length ≤ cap := by
  rcases hA.2 with ⟨rfl, rfl, rfl⟩ | ⟨g, cap, cur, rfl, rfl, hrow⟩
  · exact ⟨_, _, rfl, Nat.le_refl _⟩
  · exact ⟨_, _, rfl, hrow.le⟩
theorem rangeAt_sub {w : World} {b o k n : Nat} {vs us : List Value} (h : w.rangeAt b o vs) (hu : (vs.drop k).take n = us) : w.rangeAt b (o + k) us := by
  intro j u hj
  subst hu
  rw [List.getElem?_take] at hj
  split at hj
  · rw [List.getElem?_drop] at hj
    rw [Nat.add_assoc]
    exact h (k + j) u hj
  · cases hj
theorem take_next {α : Type} [Inhabited α] {xs : List α} {k : Nat} (h : k < xs.length) : xs.take (k + 1) = xs.take k ++ [xs.getD k default] := by
  rw [List.take_succ_eq_append_getElem h, List.getD_eq_getElem?_getD, List.getElem?_eq_getElem h]; rfl
end Go.Proofs.YtiaelhhmlbfkmaaGreat

/- The engine: bits of words, what is left of a division, some elements appended. -/
namespace Go.Proofs.YtiaelhhmlbfkmaaGreat
open Go.RowKit
set_option linter.unusedVariables false
set_option linter.unusedSimpArgs false
set_option maxRecDepth 20000
attribute [local irreducible] Hy St Ops DH DHF
theorem Fn.some {P : Program} {f : FuncId} {args : Array Value} {w : World} {mu : List Nat} {R : Value → Hp → Prop} (h : Fn P f args w mu R) : ∃ v hp, R v hp := by
  obtain ⟨e, w', fr, ⟨v, hp, _, _, hr⟩, _⟩ := h []
  exact ⟨v, hp, hr⟩
def wthn (i : Int) (m : Nat) : Nat := (IntKind.u64.wrap i % (m : Int)).toNat
theorem wthn_lt (i : Int) {m : Nat} (hm : 0 < m) : wthn i m < m := by
  have h1 := Int.emod_nonneg (IntKind.u64.wrap i) (show (m : Int) ≠ 0 by omega)
  have h2 := Int.emod_lt_of_pos (IntKind.u64.wrap i) (show 0 < (m : Int) by omega)
  unfold wthn
  omega
section
variable {P : Program} {T : Tab} {n : Nat} {w0 : World} {mu : List Nat} {l : Fm} {dd : Option Nat} {ty : TypeId} {pos : String} {af : Array Edge} {gg : Option (Nat × Bool)}
theorem x_remU {hh : Hp} {t u : TypeId} {x y : Operand} {p q : Int} (hx : ev l x = some (.int .u64 p)) (hy : ev l y = some (.int .u64 q)) (hp : 0 ≤ p) (hq : 0 < q) : Hy P n w0 mu l hh ⟨dd, .binOp .rem t x y u, ty, pos, af, gg⟩ (.int .u64 (p % q)) :=
  hy_run fun ac w hk _ => by
    have h1 : p.tmod q = p % q := Int.tmod_eq_emod_of_nonneg hp
    have h2 : ¬ (q = 0) := by omega
    simp only [execOp, hk.ev hx, hk.ev hy]
    simp [eqGuard_rem, binOp_rem, Op.intDiv, h1, h2]
end
section
variable {n : Nat} {w0 : World} {mu : List Nat} {l : Fm} {hp : Hp} {Q : Exit → Fm → Hp → Prop} {all : Array Oper} {rest : List Oper} {ty : TypeId} {pos : String} {af : Array Edge}
/-- Some elements appended to a slice of one's own that has some. -/
theorem appendM {t d e sz by_ m cc a : Nat} {x y : Operand} {z v : Value} {ha : Hp} {xs : List (List Value)} (ys : List (List Value)) (hp' : Hp) (hA : Own e sz v ha xs) (h0 : 0 < xs.length) (h : ∀ v' ha', Own e sz v' ha' (xs ++ ys) → Ops Tryz.prog n w0 mu all rest ((d, v') :: l) (ha' ++ hp') Q) (h63 : xs.length + m < 1000000) (hm : ys.length = m) (hall : ∀ c ∈ ys, c.length = sz ∧ c.all (·.oneCell') = true) (hnews : NewsAt w0 mu hp a 0 ys.flatten)
    (hperm : (ha ++ hp').Perm hp) (hd : Nat.blt d n = true := by rfl) (hx : ev l x = some v := by rfl) (hy : ev l y = some (.slice (some ⟨a, 0, none⟩) m cc) := by rfl) (ht : lk Tb.sl t = some (e, sz) := by rfl)
    (hz : lk Tb.zs e = some z := by rfl) (hzs : z.cells.size = sz := by rfl) (hb : lk Tb.eb e = some by_ := by rfl) (hby : Nat.ble by_ 4096 = true := by rfl) : Ops Tryz.prog n w0 mu all (⟨some d, .call { callee := .builtin .append, args := #[x, y], argTypes := #[t, t] }, ty, pos, af, none⟩ :: rest) l hp Q := by
  have hby' : by_ ≤ 4096 := Nat.le_of_ble_eq_true hby
  have hfl := flatten_len ys (fun c hc => (hall c hc).1)
  rcases hA.2 with ⟨rfl, rfl, rfl⟩ | ⟨g, cap, cur, rfl, rfl, hrow⟩
  · simp at h0
  · refine z_appendO tb_ok hd hx hy ht hz hzs hb hperm hrow (news := ys.flatten) (by rw [hfl, hm]) hnews ?_ (by omega) ?_ fun g cap cur hr => ?_
    · rw [List.all_flatten, List.all_eq_true]
      exact fun c hc => (hall c hc).2
    · have h2 : (xs.length + m + (xs.length + m) / 4 + 192) ≤ 2000000 := by omega
      calc _ ≤ 2000000 * by_ := Nat.mul_le_mul_right _ h2
        _ ≤ 2000000 * 4096 := Nat.mul_le_mul_left _ hby'
        _ ≤ _ := by decide
    · have := h (.slice (some ⟨g, 0, none⟩) (xs.length + m) cap) [⟨g, cur, e⟩] ⟨fun c hc => ?_, .inr ⟨g, cap, cur, by rw [List.length_append, hm], rfl, by rw [List.length_append, hm, List.flatten_append]; exact hr⟩⟩
      · exact this
      · rcases List.mem_append.1 hc with hc | hc
        · exact hA.1 c hc
        · exact hall c hc
end
section
variable {P : Program} {T : Tab} {n : Nat} {w0 : World} {mu : List Nat} {l : Fm} {hp : Hp} {dd : Option Nat} {ty : TypeId} {pos : String} {af : Array Edge} {gg : Option (Nat × Bool)} {t u : TypeId} {x y : Operand}
/-! Words as natural numbers. -/
theorem x_andN {pi qi : Int} (hx : ev l x = some (.int .u64 pi)) (hy : ev l y = some (.int .u64 qi)) (p q : Nat) (hpi : pi = (p : Int)) (hqi : qi = (q : Int))  (h1 : p < 18446744073709551616) (h2 : q < 18446744073709551616) : Hy P n w0 mu l hp ⟨dd, .binOp .and t x y u, ty, pos, af, gg⟩ (.int .u64 ((p &&& q : Nat) : Int)) :=
  hy_run fun ac w hk _ => by
    subst hpi hqi
    have := u64_and_nat p q h1 h2
    simp only [execOp, hk.ev hx, hk.ev hy]
    simp [eqGuard_and, binOp_and, intBits_and, this]
theorem x_orN {pi qi : Int} (hx : ev l x = some (.int .u64 pi)) (hy : ev l y = some (.int .u64 qi)) (p q : Nat) (hpi : pi = (p : Int)) (hqi : qi = (q : Int))  (h1 : p < 18446744073709551616) (h2 : q < 18446744073709551616) : Hy P n w0 mu l hp ⟨dd, .binOp .or t x y u, ty, pos, af, gg⟩ (.int .u64 ((p ||| q : Nat) : Int)) :=
  hy_run fun ac w hk _ => by
    subst hpi hqi
    have := u64_or_nat p q h1 h2
    simp only [execOp, hk.ev hx, hk.ev hy]
    simp [eqGuard_or, binOp_or, intBits_or, this]
theorem x_andNotN {pi qi : Int} (hx : ev l x = some (.int .u64 pi)) (hy : ev l y = some (.int .u64 qi)) (p q : Nat) (hpi : pi = (p : Int)) (hqi : qi = (q : Int))  (h1 : p < 18446744073709551616) (h2 : q < 18446744073709551616) : Hy P n w0 mu l hp ⟨dd, .binOp .andNot t x y u, ty, pos, af, gg⟩ (.int .u64 ((p &&& (18446744073709551615 - q) : Nat) : Int)) :=
  hy_run fun ac w hk _ => by
    subst hpi hqi
    have := u64_andNot_nat p q h1 h2
    simp only [execOp, hk.ev hx, hk.ev hy]
    simp [eqGuard_andNot, binOp_andNot, intBits_andNot, this]
theorem x_shrN {ky : IntKind} {pi qi : Int} (hx : ev l x = some (.int .u64 pi)) (hy : ev l y = some (.int ky qi)) (p c : Nat) (hpi : pi = (p : Int)) (hqi : qi = (c : Int))  (h1 : c ≤ 64) : Hy P n w0 mu l hp ⟨dd, .binOp .shr t x y u, ty, pos, af, gg⟩ (.int .u64 ((p >>> c : Nat) : Int)) :=
  hy_run fun ac w hk _ => by
    subst hpi hqi
    simp only [execOp, hk.ev hx, hk.ev hy]
    have e : (p : Int) / 2 ^ ((c : Int).toNat) = ((p >>> c : Nat) : Int) := by rw [Nat.shiftRight_eq_div_pow]; simp
    simp [eqGuard_shr, binOp_shr, shift_shr_u64 (yk := ky) (h₀ := Int.natCast_nonneg c) (h₁ := by omega)]
    simpa using e
theorem x_shlN {ky : IntKind} {pi qi : Int} (hx : ev l x = some (.int .u64 pi)) (hy : ev l y = some (.int ky qi)) (p c : Nat) (hpi : pi = (p : Int)) (hqi : qi = (c : Int))  (h1 : c ≤ 64) : Hy P n w0 mu l hp ⟨dd, .binOp .shl t x y u, ty, pos, af, gg⟩ (.int .u64 (((p <<< c) % 18446744073709551616 : Nat) : Int)) :=
  hy_run fun ac w hk _ => by
    subst hpi hqi
    simp only [execOp, hk.ev hx, hk.ev hy]
    have e : IntKind.u64.wrap ((p : Int) * 2 ^ ((c : Int).toNat)) = (((p <<< c) % 18446744073709551616 : Nat) : Int) := by rw [IntKind.wrap_u64, Nat.shiftLeft_eq]; simp
    simp [eqGuard_shl, binOp_shl, shift_shl_u64 (yk := ky) (h₀ := Int.natCast_nonneg c) (h₁ := by omega)]
    simpa using e
/-- Shifts of numbers that are not negative. -/
theorem x_shrI {ky : IntKind} {pi qi : Int} (hx : ev l x = some (.int .i64 pi)) (hy : ev l y = some (.int ky qi)) (p c : Nat) (hpi : pi = (p : Int)) (hqi : qi = (c : Int))  (h1 : c ≤ 64) : Hy P n w0 mu l hp ⟨dd, .binOp .shr t x y u, ty, pos, af, gg⟩ (.int .i64 ((p >>> c : Nat) : Int)) :=
  hy_run fun ac w hk _ => by
    subst hpi hqi
    simp only [execOp, hk.ev hx, hk.ev hy]
    have e : (p : Int) / 2 ^ ((c : Int).toNat) = ((p >>> c : Nat) : Int) := by rw [Nat.shiftRight_eq_div_pow]; simp
    have hs := shift_shr .i64 ky (p : Int) (c : Int) (Int.natCast_nonneg c) (by show (c : Int) ≤ 64; omega)
    simp only [eqGuard_shr, binOp_shr, hs, e]
    simp
theorem x_shlI {ky : IntKind} {pi qi : Int} (hx : ev l x = some (.int .i64 pi)) (hy : ev l y = some (.int ky qi)) (p c : Nat) (hpi : pi = (p : Int)) (hqi : qi = (c : Int))  (h1 : c ≤ 64) (hb : p <<< c < 9223372036854775808) : Hy P n w0 mu l hp ⟨dd, .binOp .shl t x y u, ty, pos, af, gg⟩ (.int .i64 ((p <<< c : Nat) : Int)) :=
  hy_run fun ac w hk _ => by
    subst hpi hqi
    simp only [execOp, hk.ev hx, hk.ev hy]
    have e : IntKind.i64.wrap ((p : Int) * 2 ^ ((c : Int).toNat)) = ((p <<< c : Nat) : Int) := by
      have h2 : (p : Int) * 2 ^ ((c : Int).toNat) = ((p <<< c : Nat) : Int) := by rw [Nat.shiftLeft_eq]; simp
      rw [h2, IntKind.wrap_i64]
      generalize p <<< c = z at hb
      omega
    have hs := shift_shl .i64 ky (p : Int) (c : Int) (Int.natCast_nonneg c) (by show (c : Int) ≤ 64; omega)
    simp only [eqGuard_shl, binOp_shl, hs, e]
    simp
/-- What is left of a division, as natural numbers; what it yields. -/
theorem x_remN {k : IntKind} {pi qi : Int} (hx : ev l x = some (.int k pi)) (hy : ev l y = some (.int k qi)) (p q : Nat) (hpi : pi = (p : Int)) (hqi : qi = (q : Int))  (hq : 0 < q) : Hy P n w0 mu l hp ⟨dd, .binOp .rem t x y u, ty, pos, af, gg⟩ (.int k ((p % q : Nat) : Int)) :=
  hy_run fun ac w hk _ => by
    subst hpi hqi
    have h1 : (p : Int).tmod q = ((p % q : Nat) : Int) := by rw [Int.tmod_eq_emod_of_nonneg (by omega)]; simp
    have h2 : ¬ (q = 0) := by omega
    simp only [execOp, hk.ev hx, hk.ev hy]
    simp [eqGuard_rem, binOp_rem, Op.intDiv, h1, h2]
theorem x_quoN {pi qi : Int} (hx : ev l x = some (.int .i64 pi)) (hy : ev l y = some (.int .i64 qi)) (p q : Nat) (hpi : pi = (p : Int)) (hqi : qi = (q : Int))  (hq : 0 < q) (hb : p < 9223372036854775808) : Hy P n w0 mu l hp ⟨dd, .binOp .quo t x y u, ty, pos, af, gg⟩ (.int .i64 ((p / q : Nat) : Int)) :=
  hy_run fun ac w hk _ => by
    subst hpi hqi
    have h1 : (p : Int).tdiv q = ((p / q : Nat) : Int) := by rw [Int.tdiv_eq_ediv_of_nonneg (by omega)]; simp
    have h2 : ¬ (q = 0) := by omega
    have h3 : p / q ≤ p := Nat.div_le_self _ _
    have h4 : IntKind.i64.wrap ((p / q : Nat) : Int) = ((p / q : Nat) : Int) := by
      generalize p / q = z at h3
      rw [IntKind.wrap_i64]; omega
    simp only [execOp, hk.ev hx, hk.ev hy]
    rw [show ((p / q : Nat) : Int) = (p : Int) / (q : Int) by simp] at h4
    simp [eqGuard_quo, binOp_quo, Op.intDiv, h1, h2, h4]
end
section
variable {n : Nat} {w0 : World} {mu : List Nat} {l : Fm} {hp : Hp} {Q : Exit → Fm → Hp → Prop} {all : Array Oper} {rest : List Oper} {ty : TypeId} {pos : String} {af : Array Edge} {ds : List (Nat × Nat)} {tail : List Oper} {i : Nat} {iv fr : Fm}
/-- Guarded operations, by hand. -/
theorem opDG {d j dj : Nat} {want b : Bool} {op : Op} {v : Value} (hj : (all[j]?).bind (·.dst) = some dj := by rfl) (hb : look (depFm ds iv af.toList ++ l) dj = some (.bool b) := by rfl) (hdj : Nat.blt dj n = true := by rfl) (hlk : lk ds i = some d := by rfl)
    (hy : wnt b want = true → Hy Tryz.prog n w0 mu (depFm ds iv af.toList ++ l) hp ⟨some d, op, ty, pos, af, some (j, want)⟩ v) (h : DHF Tryz.prog n w0 mu all ds tail l hp Q (i + 1) rest ((i, gv (wnt b want) v) :: iv) ((d, gv (wnt b want) v) :: fr)) : DHF Tryz.prog n w0 mu all ds tail l hp Q i (⟨some d, op, ty, pos, af, some (j, want)⟩ :: rest) iv fr :=
  dhf1g hlk hj hb hdj hy h
theorem opDGG {d j dj : Nat} {want c0 b : Bool} {op : Op} {v : Value} (hj : (all[j]?).bind (·.dst) = some dj := by rfl) (hb : look (depFm ds iv af.toList ++ l) dj = some (gv c0 (.bool b)) := by rfl) (hdj : Nat.blt dj n = true := by rfl) (hlk : lk ds i = some d := by rfl)
    (hy : c0 = true → wnt b want = true → Hy Tryz.prog n w0 mu (depFm ds iv af.toList ++ l) hp ⟨some d, op, ty, pos, af, some (j, want)⟩ v) (h : DHF Tryz.prog n w0 mu all ds tail l hp Q (i + 1) rest ((i, gv (c0 && wnt b want) v) :: iv) ((d, gv (c0 && wnt b want) v) :: fr)) : DHF Tryz.prog n w0 mu all ds tail l hp Q i (⟨some d, op, ty, pos, af, some (j, want)⟩ :: rest) iv fr :=
  dhf1gg hlk hj hb hdj hy h
theorem opG {d j dj : Nat} {want b : Bool} {op : Op} {v : Value} (hj : (all[j]?).bind (·.dst) = some dj := by rfl) (hb : look l dj = some (.bool b) := by rfl) (hdj : Nat.blt dj n = true := by rfl) (hd : Nat.blt d n = true := by rfl)
    (hy : wnt b want = true → Hy Tryz.prog n w0 mu l hp ⟨some d, op, ty, pos, af, some (j, want)⟩ v) (h : Ops Tryz.prog n w0 mu all rest ((d, gv (wnt b want) v) :: l) hp Q) : Ops Tryz.prog n w0 mu all (⟨some d, op, ty, pos, af, some (j, want)⟩ :: rest) l hp Q :=
  op1g hd hj hb hdj hy h
theorem opGG {d j dj : Nat} {want c0 b : Bool} {op : Op} {v : Value} (hj : (all[j]?).bind (·.dst) = some dj := by rfl) (hb : look l dj = some (gv c0 (.bool b)) := by rfl) (hdj : Nat.blt dj n = true := by rfl) (hd : Nat.blt d n = true := by rfl)
    (hy : c0 = true → wnt b want = true → Hy Tryz.prog n w0 mu l hp ⟨some d, op, ty, pos, af, some (j, want)⟩ v) (h : Ops Tryz.prog n w0 mu all rest ((d, gv (c0 && wnt b want) v) :: l) hp Q) : Ops Tryz.prog n w0 mu all (⟨some d, op, ty, pos, af, some (j, want)⟩ :: rest) l hp Q :=
  op1gg hd hj hb hdj hy h
end
section
variable {n : Nat} {w0 : World} {mu : List Nat} {l : Fm} {hp : Hp} {all : Array Oper} {ty : TypeId} {pos : String} {af : Array Edge} {ds : List (Nat × Nat)} {S E : List Nat} {iv : Fm} {Rs : List (Nat × RT)} {X : Fm → Prop} {Z : List (Nat × RT) → Prop} {i d : Nat}
/-- A guarded operation, ahead of those that make memory. -/
theorem de1g {j dj : Nat} {want b : Bool} {op : Op} {v : Value} (hy : ∀ hx, wnt b want = true → Hy Tryz.prog n w0 mu (depFm ds iv af.toList ++ l) (hx ++ hp) ⟨some d, op, ty, pos, af, some (j, want)⟩ v) (h : DE1 Tryz.prog n w0 mu all ds l hp X S ((i, gv (wnt b want) v) :: iv))
    (ho : all[i]? = some ⟨some d, op, ty, pos, af, some (j, want)⟩ := by rfl) (hj : (all[j]?).bind (·.dst) = some dj := by rfl) (hb : look (depFm ds iv af.toList ++ l) dj = some (.bool b) := by rfl) (hdj : Nat.blt dj n = true := by rfl) : DE1 Tryz.prog n w0 mu all ds l hp X (i :: S) iv :=
  ⟨_, _, ho, fun hx => ⟨dj, true, b, v, hj, hb, hdj, fun _ hg => hy hx hg, rfl⟩, h⟩
theorem eBS {t len e sz : Nat} {z : Value} {ps : List (Nat × Operand)} {vs : List (Nat × Value)} {zl : List Value} {out : Array Value} (out' : List Value) (h : DE2 Tryz.prog n w0 mu all ds l hp iv Z E ((i, fun v hn => ∃ b, v = .slice (some ⟨b, 0, none⟩) len len ∧ hn = [⟨b, out'.toArray, e⟩]) :: Rs)) (ho : all[i]? = some ⟨some d, .buildSlice t len ps.toArray, ty, pos, af, none⟩ := by rfl) (ht : lk Tb.sl t = some (e, sz) := by rfl) (hz : lk Tb.zs e = some z := by rfl) (hzc : z.cells = zl.toArray := by (first | ((simp only [Value.cells]) <;> rfl) | rfl)) (hzs : Nat.beq zl.length sz = true := by rfl) (hpos : (Nat.blt 0 (len * sz) && Nat.ble (len * sz) 16777216) = true := by rfl) (hv : evp (depFm ds iv af.toList ++ l) ps = some vs := by rfl) (hf : flS sz (rep zl len).toArray vs = some out := by rfl) (hn : out = out'.toArray := by rfl) : DE2 Tryz.prog n w0 mu all ds l hp iv Z (i :: E) Rs :=
  de2_e ho (eo_bslice tb_ok ht hz hzc hzs hpos hv hf hn) ⟨_, _, 0, rfl, rfl⟩ h
end
theorem within_e (w : World) (i : Int) (m : Nat) (hm : 0 < m) (hm2 : m < 1000000) : Fn Tryz.prog 21 [.int .i64 i, .int .i64 (m : Int)].toArray w [] (fun u _ => u = .int .i64 (wthn i m : Int)) := by
  refine enter Tryz.func21 ?_
  refine run ?_
  have hp0 : 0 ≤ IntKind.u64.wrap i := wrap_u64_nonneg i
  refine op1 (by rfl) (x_conv tb_ok rfl rfl rfl) ?_
  unfold wthn
  generalize IntKind.u64.wrap i = p at hp0
  have h1 := Int.emod_nonneg p (show (m : Int) ≠ 0 by omega)
  have h2 := Int.emod_lt_of_pos p (show 0 < (m : Int) by omega)
  refine run ?_
  refine op1 (by rfl) (x_remU rfl rfl hp0 (by omega)) ?_
  refine run ?_
  refine fin1 ?_
  congr 1; omega
end Go.Proofs.YtiaelhhmlbfkmaaGreat

/- The engine: a drawn region in which a quiet assignment may come ahead of what is only read: it is the same as if it had waited. No program in sight. -/
namespace Go.Proofs.YtiaelhhmlbfkmaaGreat
open Go.RowKit
set_option linter.unusedVariables false
set_option linter.unusedSimpArgs false
def isQ : Op → Bool
  | .assign _ => true
  | .move _ => true
  | _ => false
def lateQB (ops : Array Oper) (k i : Nat) : Bool :=
  match ops[k]?, ops[i]? with
  | some ok, some oi =>
    !Nat.beq i k && ok.guard.isNone && isQ ok.op && (oi.after.all fun e => !Region.binds .any e || mem (ancGo ops k (deps ops k)) e.on) &&
      (List.range ops.size).all fun t => Nat.beq t k || mem (ancGo ops k (deps ops k)) t || (Region.waitsFor .any ops t k && Region.waitsFor .any ops t i) ||
        (match ops[t]? with | some ot => noSel ot.op && ok.apart ops ot && !Region.waitsFor .any ops t k | none => false)
  | _, _ => false
section
variable {P : Program} {ops : Array Oper} {Q' : Exit → Act → World → Prop} {k i : Nat} {listed : Array Bool}
/-- One done ahead of another one, apart from it. -/
theorem wpOp_putR {j : Nat} {oi oj : Oper} {v : Value} (hj : ops[j]? = some oj) (hap : oi.apart ops oj = true) (hsi : ∀ cs b, oi.op ≠ .select cs b) (hsj : ∀ cs b, oj.op ≠ .select cs b)
    (hP : ∀ c a w, ¬ Q' (.panic c) a w) (hO : ¬ LetsOut Q') {K K2 : Act → World → Prop} {a : Act} {w : World}
    (hy : Yields P ops oi v a) (h : wpOp P ops Q' j K a w) (hK : ∀ a' w', Yields P ops oi v a' → K a' w' → K2 (a'.put oi.dst v) w') : wpOp P ops Q' j K2 (a.put oi.dst v) w := by
  obtain ⟨h1, h2, h3⟩ := Oper.apart_spec hap
  have keep : ∀ (a : Act), Yields P ops oi v a → ∀ u, Yields P ops oi v (a.put oj.dst u) := fun a hy u =>
    hy.of_same (execOp_put oi hsi a oj.dst u h3) (wanted_put oi a oj.dst u h3)
  have keepD : ∀ d, Yields P ops oi v { a with defers := d :: a.defers } := fun d => hy.of_same rfl rfl
  unfold wpOp at *
  simp only [hj] at *
  rw [wanted_put oj a oi.dst v h1]
  split
  · rename_i hw
    simp only [hw, if_true] at h
    rcases h with h | ⟨hasks, hlets⟩
    case inr => exact absurd hlets hO
    refine .inl ?_
    unfold Oper.wp at *
    rw [execOp_put oj hsj a oi.dst v h1]
    generalize (execOp a.eval oj).run P w = r at *
    cases r with
    | ok n w' =>
      cases n <;> simp only [Oper.upon] at h ⊢
      case value u => rw [Act.put_comm a v u h2]; exact hK _ _ (keep a hy u) h
      case skip => rw [Act.put_comm a v undef h2]; exact hK _ _ (keep a hy _) h
      case defer d =>
        have := hK _ _ (keep _ (keepD d) undef) h
        rw [← Act.put_comm _ v undef h2, ← Act.put_defers] at this
        exact this
      case enter f args =>
        refine Calls.mono h fun e w'' he => ?_
        cases e with
        | returned u =>
          show K2 ((a.put oi.dst v).put oj.dst u) w''
          rw [Act.put_comm a v u h2]; exact hK _ _ (keep a hy u) he
        | panicked c => exact absurd he (hP _ _ _)
        | outgrown => exact he
      case row row args => exact Rows.mono h fun u w'' he => by rw [Act.put_comm a v u h2]; exact hK _ _ (keep a hy u) he
    | halt x w' =>
      cases x <;> simp only [Oper.upon] at h ⊢
      case panic u => exact absurd h (hP _ _ _)
  · rename_i hw
    simp only [hw] at h
    rw [Act.put_comm a v undef h2]
    exact hK _ _ (keep a hy _) h
/-- No more than so many are still to come. -/
def Unl (listed : Array Bool) (n : Nat) : Prop := ∀ T : List Nat, T.Nodup → (∀ t ∈ T, listed.getD t true = false) → T.length ≤ n
theorem Unl.set {n j : Nat} (h : Unl listed (n + 1)) (hj : listed.getD j true = false) (hs : j < listed.size) : Unl (listed.setIfInBounds j true) n := by
  intro T hT hu
  have hjT : j ∉ T := fun hm => by have := hu j hm; simp [hs] at this
  have := h (j :: T) (List.nodup_cons.2 ⟨hjT, hT⟩) (fun t ht => by
    rcases List.mem_cons.1 ht with rfl | ht
    · exact hj
    · have h1 := hu t ht
      rwa [getD_set_ne true (show j ≠ t from fun e => hjT (by rw [e]; exact ht))] at h1)
  simpa using this
theorem nodup_lt : ∀ (n : Nat) (T : List Nat), T.Nodup → (∀ t ∈ T, t < n) → T.length ≤ n := by
  intro n
  induction n with
  | zero =>
    intro T hT hl
    cases T with
    | nil => exact Nat.le_refl _
    | cons a r => exact absurd (hl a (List.mem_cons_self ..)) (by omega)
  | succ n ih =>
    intro T hT hl
    by_cases hn : n ∈ T
    · have h1 := ih (T.erase n) (hT.erase n) fun t ht => by
        have h2 := (hT.mem_erase_iff).1 ht
        have h3 := hl t h2.2
        have h4 := h2.1
        omega
      rw [List.length_erase_of_mem hn] at h1
      omega
    · have := ih T hT fun t ht => by
        have h3 := hl t ht
        have h4 : t ≠ n := fun e => hn (by rw [← e]; exact ht)
        omega
      omega
theorem waitsFor_of {t k : Nat} {o : Oper} {e : Edge} (ho : ops[t]? = some o) (he : e ∈ o.after) (hb : Region.binds .any e = true) (hek : e.on = k) : Region.waitsFor .any ops t k = true := by
  unfold Region.waitsFor
  rw [ho]
  exact Array.any_eq_true'.2 ⟨e, he, by simp [hb, hek]⟩
theorem ready_back {t k : Nat} (ht : t ∈ Region.ready .any ops (listed.setIfInBounds k true)) (hk : t ≠ k) (hw : Region.waitsFor .any ops t k = false) : t ∈ Region.ready .any ops listed := by
  obtain ⟨h0, o, ho, ha⟩ := mem_ready.1 ht
  refine mem_ready.2 ⟨by rwa [getD_set_ne true (Ne.symm hk)] at h0, o, ho, fun e he hb => ?_⟩
  have h1 := ha e he hb
  by_cases hek : e.on = k
  · exfalso
    have : Region.waitsFor .any ops t k = true := waitsFor_of ho he hb hek
    rw [hw] at this; cases this
  · rwa [getD_set_ne false (Ne.symm hek)] at h1
theorem edge_quiet (hB : lateQB ops k i = true) (hP : ∀ c a w, ¬ Q' (.panic c) a w) (hO : ¬ LetsOut Q') :
    ∀ (fuel : Nat) (listed : Array Bool) (a : Act) (w : World), listed.size = ops.size → Closed ops listed → Unl listed fuel → wpAny P .any (addEdge ops k i) Q' fuel listed a w → wpAny P .any ops Q' fuel listed a w := by
  unfold lateQB at hB
  cases hok : ops[k]? with
  | none => rw [hok] at hB; cases hB
  | some ok =>
    cases hoi : ops[i]? with
    | none => rw [hok, hoi] at hB; cases hB
    | some oi =>
      rw [hok, hoi] at hB
      simp only [Bool.and_eq_true] at hB
      obtain ⟨⟨⟨⟨hne, hgu⟩, hq⟩, hdep⟩, hall⟩ := hB
      have hik : i ≠ k := fun e => by rw [e] at hne; simp at hne
      have hgu' : ok.guard = none := by simpa using hgu
      have his : i < ops.size := (Array.getElem?_eq_some_iff.1 hoi).1
      have hks : k < ops.size := (Array.getElem?_eq_some_iff.1 hok).1
      have hnsk : ∀ cs b, ok.op ≠ .select cs b := fun cs b e => by rw [e] at hq; cases hq
      have hqy : ∀ a : Act, ∃ u, Yields P ops ok u a := fun a => by
        obtain ⟨d, op, ty, pos, af, gu⟩ := ok
        simp only at hgu'
        subst hgu'
        cases op <;> simp only [isQ, Bool.false_eq_true] at hq
        · exact ⟨_, .inl ⟨by simp [Region.wanted], fun w => by simp [execOp]; rfl⟩⟩
        · exact ⟨_, .inl ⟨by simp [Region.wanted], fun w => by simp [execOp]; rfl⟩⟩
      have hqk : ∀ {u : Value} {a : Act} {w : World} {K : Act → World → Prop}, Yields P ops ok u a → wpOp P ops Q' k K a w → K (a.put ok.dst u) w := by
        intro u a w K hy h
        unfold wpOp at h
        simp only [hok] at h
        rcases hy with ⟨hw, hv⟩ | ⟨hw, rfl⟩
        · simp only [hw, if_true] at h
          rcases h with h | ⟨_, h⟩
          · simp only [Oper.wp, hv w, Oper.upon] at h; exact h
          · exact absurd h hO
        · simp only [hw, Bool.false_eq_true, if_false] at h; exact h
      have hready : ∀ listed : Array Bool, listed.size = ops.size → Closed ops listed → k ∈ Region.ready .any ops listed → listed.getD i true = false → i ∈ Region.ready .any ops listed := by
        intro listed hsz hcl hr hi
        refine mem_ready.2 ⟨hi, oi, hoi, fun e he hb => ?_⟩
        have h1 := (Array.all_eq_true_iff_forall_mem.1 hdep) e he
        rw [hb] at h1
        exact anc_ready hcl hr _ (by simpa using h1)
      have hkE : ∀ listed : Array Bool, listed.size = ops.size → k ∈ Region.ready .any ops listed → listed.getD i true = true → k ∈ Region.ready .any (addEdge ops k i) listed := by
        intro listed hsz hk hi
        refine ready_edge_k hk ?_
        cases hc : listed.getD i false with
        | true => rfl
        | false => rw [getD_in (by omega) hc] at hi; cases hi
      have claim : ∀ (m : Nat) (IH : ∀ f, f ≤ m → ∀ (listed : Array Bool) (a : Act) (w : World), listed.size = ops.size → Closed ops listed → Unl listed f → wpAny P .any (addEdge ops k i) Q' f listed a w → wpAny P .any ops Q' f listed a w)
          (listed : Array Bool) (a : Act) (w : World) (u : Value), listed.size = ops.size → Closed ops listed → Unl listed (m + 1) → k ∈ Region.ready .any ops listed → Yields P ops ok u a → wpAny P .any (addEdge ops k i) Q' (m + 1) listed a w → wpAny P .any ops Q' m (listed.setIfInBounds k true) (a.put ok.dst u) w := by
        intro m
        induction m with
        | zero =>
          intro IH listed a w u hsz hcl hun hk hy h
          have hk0 := (mem_ready.1 hk).1
          cases hi : listed.getD i true with
          | true =>
            have h1 := hqk hy (wpOp_edge (h.2 k (hkE listed hsz hk hi)))
            exact IH 0 (Nat.le_refl _) _ _ _ (by simpa using hsz) (hcl.set hk) (hun.set hk0 (by omega)) h1
          | false =>
            have := hun [k, i] (by simp [Ne.symm hik]) (by intro t ht; simp only [List.mem_cons, List.mem_nil_iff, or_false] at ht; rcases ht with rfl | rfl; exact hk0; exact hi)
            simp at this
        | succ m ih =>
          intro IH listed a w u hsz hcl hun hk hy h
          have hk0 := (mem_ready.1 hk).1
          have direct : listed.getD i true = true → wpAny P .any ops Q' (m + 1) (listed.setIfInBounds k true) (a.put ok.dst u) w := fun hi => by
            have h1 := hqk hy (wpOp_edge (h.2 k (hkE listed hsz hk hi)))
            exact IH (m + 1) (Nat.le_refl _) _ _ _ (by simpa using hsz) (hcl.set hk) (hun.set hk0 (by omega)) h1
          refine ⟨fun hnil => ?_, fun t ht => ?_⟩
          · cases hi : listed.getD i true with
            | true => exact (direct hi).1 hnil
            | false =>
              have := ready_mono (hready listed hsz hcl hk hi) hik
              rw [hnil] at this; cases this
          · have ht0 := (mem_ready.1 ht)
            obtain ⟨hl0, ot, hot, hat⟩ := ht0
            have htk : t ≠ k := fun e => by subst e; simp [hsz, hks] at hl0
            have hts : t < ops.size := (Array.getElem?_eq_some_iff.1 hot).1
            have h2 := List.all_eq_true.1 hall t (List.mem_range.2 hts)
            simp only [Bool.or_eq_true, Bool.and_eq_true, Nat.beq_eq] at h2
            rcases h2 with ((h2 | h2) | h2) | h2
            · exact absurd h2 htk
            · exfalso
              have h3 := anc_ready hcl hk t h2
              rw [getD_set_ne true (Ne.symm htk)] at hl0
              rw [getD_cases hl0 (by omega) false] at h3
              cases h3
            · have h3 := waits_on hot ht h2.2
              rw [getD_set_ne false (Ne.symm hik)] at h3
              have hi : listed.getD i true = true := by
                cases hc : listed.getD i true with
                | true => rfl
                | false => rw [getD_cases hc (by omega) false] at h3; cases h3
              exact (direct hi).2 t ht
            · rw [hot] at h2
              simp only [Bool.and_eq_true, Bool.not_eq_true'] at h2
              obtain ⟨⟨hns, hap⟩, hnw⟩ := h2
              have htr := ready_back ht htk hnw
              have h4 := wpOp_edge (h.2 t (ready_edge_ne htk htr))
              refine wpOp_putR hot hap hnsk (noSel_ok hns) hP hO hy h4 fun a' w' hy' h5 => ?_
              have h6 := ih (fun f hf => IH f (by omega)) (listed.setIfInBounds t true) a' w' u (by simpa using hsz) (hcl.set htr) (hun.set (mem_ready.1 htr).1 (by omega)) (ready_mono hk (Ne.symm htk)) hy' h5
              rwa [Array.setIfInBounds_comm _ _ htk] at h6
      intro fuel
      induction fuel using Nat.strongRecOn with
      | ind fuel ih =>
      cases fuel with
      | zero =>
        intro listed a w hsz hcl hun h
        refine ⟨?_, h.2⟩
        rw [List.eq_nil_iff_forall_not_mem]
        intro j hj
        have := hun [j] (by simp) (by intro t ht; rw [List.mem_singleton.1 ht]; exact (mem_ready.1 hj).1)
        simp at this
      | succ fuel =>
        intro listed a w hsz hcl hun h
        refine ⟨fun hnil => h.1 ?_, fun j hj => ?_⟩
        · rw [List.eq_nil_iff_forall_not_mem]
          intro t ht
          have := ready_edge ht
          rw [hnil] at this; cases this
        · by_cases hin : j ∈ Region.ready .any (addEdge ops k i) listed
          · exact wpOp_mono (fun a w h => ih fuel (by omega) _ a w (by simpa using hsz) (hcl.set hj) (hun.set (mem_ready.1 hj).1 (by rw [hsz]; obtain ⟨_, o, ho, _⟩ := mem_ready.1 hj; exact (Array.getElem?_eq_some_iff.1 ho).1)) h) (wpOp_edge (h.2 j hin))
          · have hjk : j = k := Classical.byContradiction fun hc => hin (ready_edge_ne hc hj)
            subst hjk
            obtain ⟨u, hy⟩ := hqy a
            exact hy.wpOp hok (claim fuel (fun f hf => ih f (by omega)) listed a w u hsz hcl hun hj hy h)
theorem st_lateQ {P : Program} {n : Nat} {w0 : World} {mu : List Nat} {l : Fm} {hp : Hp} {Q : Exit → Fm → Hp → Prop} {ops ops' : Array Oper} (k i : Nat) (hB : lateQB ops k i = true) (he : addEdge ops k i = ops') (h : StAny P n w0 mu ops' l hp (noP Q)) : StAny P n w0 mu ops l hp (noP Q) := by
  subst he
  intro a w hk hG
  have := h a w hk hG
  rw [addEdge_size] at this
  refine edge_quiet hB ?_ ?_ _ _ _ _ (by simp) (fun j oj _ hl => by rw [getD_replicate_false] at hl; cases hl) ?_ this
  · rintro c a w ⟨l, hp, _, _, h⟩; exact h
  · rintro ⟨a, w, l, hp, _, _, h⟩; exact h
  · intro T hT hu
    refine nodup_lt _ T hT fun t ht => ?_
    have := hu t ht
    rcases Nat.lt_or_ge t ops.size with h | h
    · exact h
    · rw [Array.getD_eq_getD_getElem?, Array.getElem?_eq_none (by simpa using h)] at this
      simp at this
end
section
variable {n : Nat} {w0 : World} {mu : List Nat} {l : Fm} {hp : Hp} {Q : Exit → Fm → Hp → Prop}
/-- What a slot holds, forgotten. -/
def drop1 (k : Nat) : Fm → Fm
  | [] => []
  | p :: r => if p.1 = k then drop1 k r else p :: drop1 k r
theorem look_drop1 (k : Nat) : ∀ (l : Fm) (t : Nat) (v : Value), look (drop1 k l) t = some v → look l t = some v := by
  intro l
  induction l with
  | nil => intro t v h; exact h
  | cons p r ih =>
    obtain ⟨j, u⟩ := p
    intro t v h
    have key : ∀ t v, look (drop1 k r) t = some v → t ≠ k := by
      intro t v
      clear h ih
      induction r with
      | nil => intro h; cases h
      | cons p r ih =>
        obtain ⟨j, u⟩ := p
        intro h
        unfold drop1 at h
        by_cases hj : j = k
        · rw [if_pos hj] at h; exact ih h
        · rw [if_neg hj] at h
          simp only [look] at h
          cases hb : Nat.beq j t with
          | true => have := Nat.eq_of_beq_eq_true hb; omega
          | false => rw [hb] at h; exact ih h
    unfold drop1 at h
    by_cases hj : j = k
    · rw [if_pos hj] at h
      have hne := key t v h
      simp only [look]
      have hb : Nat.beq j t = false := by
        cases hb : Nat.beq j t with
        | true => have := Nat.eq_of_beq_eq_true hb; omega
        | false => rfl
      rw [hb]
      exact ih t v h
    · rw [if_neg hj] at h
      simp only [look] at h ⊢
      cases hb : Nat.beq j t with
      | true => rw [hb] at h; exact h
      | false => rw [hb] at h; exact ih t v h
theorem dropS {c : Code} (k : Nat) {l' : Fm} (h : St Tryz.prog n w0 mu c l' hp Q) (hl : drop1 k l = l' := by (simp only [drop1, argFm, List.cons_append, List.nil_append, Nat.reduceEqDiff, Nat.reduceAdd, Nat.zero_add, reduceIte, if_true, if_false]; rfl)) : St Tryz.prog n w0 mu c l hp Q := by
  subst hl
  intro a w hk hG
  exact h a w ⟨hk.size, hk.defers, fun t v ht => hk.has t v (look_drop1 k l t v ht)⟩ hG
/-- .. in which an assignment at k may come ahead of what is read at i. -/
theorem lateQ {id : Nat} {ops ops' : List Oper} (k i : Nat) (h : StAny Tryz.prog n w0 mu ops'.toArray l hp (noP Q)) (he : addEdge ops.toArray k i = ops'.toArray := by (simp only [addEdge, List.modify_toArray, List.modify_succ_cons, List.modify_zero_cons, List.push_toArray, List.cons_append, List.nil_append]; rfl)) (hB : lateQB ops.toArray k i = true := by kernel_rfl) (hm : Tryz.prog.follows .mixedOrders = true := by kernel_rfl) : St Tryz.prog n w0 mu (.region id ops.toArray true) l hp Q := st_noP hm (st_lateQ k i hB he h)
theorem lateQA {ops ops' : List Oper} (k i : Nat) (h : StAny Tryz.prog n w0 mu ops'.toArray l hp (noP Q)) (he : addEdge ops.toArray k i = ops'.toArray := by (simp only [addEdge, List.modify_toArray, List.modify_succ_cons, List.modify_zero_cons, List.push_toArray, List.cons_append, List.nil_append]; rfl)) (hB : lateQB ops.toArray k i = true := by kernel_rfl) : StAny Tryz.prog n w0 mu ops.toArray l hp (noP Q) := st_lateQ k i hB he h
end
end Go.Proofs.YtiaelhhmlbfkmaaGreat

/- The engine: a drawn region with a chain of operations that make memory, each out of what the one before made, or write it; the others come whenever they may. No program in sight. -/
namespace Go.Proofs.YtiaelhhmlbfkmaaGreat
open Go.RowKit
set_option linter.unusedVariables false
set_option linter.unusedSimpArgs false
/-- The chain, one behind the other; h0 the blocks that nothing is written to. -/
def DCh (P : Program) (n : Nat) (w0 : World) (mu : List Nat) (all : Array Oper) (ds : List (Nat × Nat)) (l : Fm) (h0 : Hp) (ivS : Fm) (X : Fm → Hp → Prop) : List Nat → Fm → Hp → Prop
  | [], ivE, h => X ivE h
  | i :: r, ivE, h => ∃ o, all[i]? = some o ∧ ((o.dst.isSome = true ∧ ∃ R : RT, EoR P n w0 mu all (depFm ds (ivE ++ ivS) o.after.toList ++ l) h o R ∧ ∀ v hn, R v hn → DCh P n w0 mu all ds l h0 ivS X r ((i, v) :: ivE) (hn ++ h)) ∨
      (o.dst = none ∧ ∃ h', HyS P n w0 mu (depFm ds (ivE ++ ivS) o.after.toList ++ l) h o h' ∧ HpLe h0 h' ∧ DCh P n w0 mu all ds l h0 ivS X r ivE h'))
/-- The others, each known ahead. -/
def DS (P : Program) (n : Nat) (w0 : World) (mu : List Nat) (all : Array Oper) (ds : List (Nat × Nat)) (l : Fm) (h0 hp : Hp) (t0 : Nat) (X : Fm → Prop) : List Nat → Fm → Prop
  | [], iv => X iv
  | i :: S, iv => ∃ o v, all[i]? = some o ∧ (∀ hx, HyG P n w0 mu all (depFm ds iv o.after.toList ++ l) (bif Region.waitsFor .any all t0 i then hx ++ hp else hx ++ h0) o v) ∧ DS P n w0 mu all ds l h0 hp t0 X S ((i, v) :: iv)
/-- Each of a chain waits for the one before. -/
def linkB (all : Array Oper) : List Nat → Bool
  | i :: j :: r => Region.waitsFor .any all j i && linkB all (j :: r)
  | _ => true
def dstKB (ops : Array Oper) (k n : Nat) : Bool :=
  (List.range k).all fun i => (match dstAt ops i with | some d => Nat.blt d n | none => true) && (List.range k).all fun j => Nat.beq i j || (match dstAt ops i, dstAt ops j with | some a, some b => !Nat.beq a b | _, _ => true)
def coverB (k : Nat) (S C : List Nat) : Bool := decide ((S ++ C).Nodup) && (S ++ C).all (fun i => Nat.blt i k) && (List.range k).all fun i => mem (S ++ C) i
def tailB (ops : Array Oper) (k : Nat) : Bool :=
  decide (k = ops.size) || (decide (k < ops.size) && Region.sinkB .any ops k && Region.chainB .any ops k && Region.seqB .any ops (ops.size - k) k ((Array.replicate k true) ++ (Array.replicate (ops.size - k) false)))
def drawCB (ops : Array Oper) (n k t0 : Nat) (S C : List Nat) : Bool :=
  dstKB ops k n && backB ops && coverB k S C && linkB ops C && tailB ops k && (List.range k).all fun i => (dstAt ops i).isSome || Nat.beq i t0 || Region.waitsFor .any ops i t0
structure MidC (n : Nat) (w0 : World) (mu : List Nat) (all : Array Oper) (l ivS ivE : Fm) (h : Hp) (listed : Array Bool) (a : Act) (w : World) : Prop where
  size : a.tmps.size = n
  defers : a.defers = []
  has : ∀ t v, look l t = some v → a.tmps.getD t undef = v
  good : Good w0 mu h w
  doneS : ∀ i v, lk ivS i = some v → listed.getD i false = true → ∀ d, dstAt all i = some d → a.tmps.getD d undef = v
  doneE : ∀ i v, (i, v) ∈ ivE → listed.getD i false = true ∧ ∀ d, dstAt all i = some d → a.tmps.getD d undef = v
theorem linkB_head {all : Array Oper} : ∀ {c : Nat} {r : List Nat} {i : Nat}, linkB all (c :: r) = true → i ∈ r → ∃ p, p ∈ c :: r ∧ p ≠ i ∧ Region.waitsFor .any all i p = true ∨ i ∈ c :: r ∧ False ∨ ∃ p ∈ c :: r, Region.waitsFor .any all i p = true := by
  intro c r
  induction r generalizing c with
  | nil => intro i _ h; cases h
  | cons j r ih =>
    intro i h hi
    simp only [linkB, Bool.and_eq_true] at h
    rcases List.mem_cons.1 hi with rfl | hi
    · exact ⟨c, .inr (.inr ⟨c, List.mem_cons_self .., h.1⟩)⟩
    · obtain ⟨p, hp⟩ := ih h.2 hi
      rcases hp with ⟨_, _, h3⟩ | ⟨_, h3⟩ | ⟨p, h1, h2⟩
      · exact ⟨p, .inr (.inr ⟨p, List.mem_cons_of_mem _ ‹_›, h3⟩)⟩
      · exact h3.elim
      · exact ⟨p, .inr (.inr ⟨p, List.mem_cons_of_mem _ h1, h2⟩)⟩
section
variable {P : Program} {n : Nat} {w0 : World} {mu : List Nat} {l : Fm} {h0 hp : Hp} {Q : Exit → Fm → Hp → Prop} {all : Array Oper} {ivS : Fm} {k t0 : Nat} {ds : List (Nat × Nat)}
theorem dstK_lt (hd : dstKB all k n = true) {i d : Nat} (hi : i < k) (h : dstAt all i = some d) : d < n := by
  have := List.all_eq_true.1 hd i (List.mem_range.2 hi)
  rw [Bool.and_eq_true, h] at this
  simpa using this.1
theorem dstK_ne (hd : dstKB all k n = true) {i j a b : Nat} (hi : i < k) (hj : j < k) (hij : i ≠ j) (h1 : dstAt all i = some a) (h2 : dstAt all j = some b) : a ≠ b := by
  have := List.all_eq_true.1 hd i (List.mem_range.2 hi)
  rw [Bool.and_eq_true] at this
  have := List.all_eq_true.1 this.2 j (List.mem_range.2 hj)
  rw [h1, h2, Bool.or_eq_true] at this
  rcases this with h | h
  · exact absurd (Nat.eq_of_beq_eq_true h) hij
  · intro e; subst e; simp at h
/-- A value put in its place. -/
theorem midc_put {ivE ivE' : Fm} {h h' : Hp} {listed : Array Bool} {a : Act} {w w' : World} {i : Nat} {o : Oper} {v : Value} (hm : MidC n w0 mu all l ivS ivE h listed a w) (ho : all[i]? = some o) (hi : i < k) (hun : listed.getD i true = false) (hs : i < listed.size)
    (hd : dstKB all k n = true) (hf : freshB l (dstsOf all k) = true) (hG : Good w0 mu h' w') (hSk : ∀ j v, lk ivS j = some v → j < k) (hEk : ∀ j v, (j, v) ∈ ivE → j < k)
    (hv : (lk ivS i = some v ∧ ivE' = ivE) ∨ (lk ivS i = none ∧ ivE' = (i, v) :: ivE)) : MidC n w0 mu all l ivS ivE' h' (listed.setIfInBounds i true) (a.put o.dst v) w' := by
  have hod : dstAt all i = o.dst := by simp [dstAt, ho]
  have hput : ∀ t, (∀ d, o.dst = some d → t ≠ d) → (a.put o.dst v).tmps.getD t undef = a.tmps.getD t undef := by
    intro t ht
    cases hdd : o.dst with
    | none => rfl
    | some d => simp [Act.put, Array.getElem?_setIfInBounds_ne (Ne.symm (ht d hdd))]
  have hself : ∀ d, o.dst = some d → (a.put o.dst v).tmps.getD d undef = v := by
    intro d hdd
    have := dstK_lt hd hi (hod.trans hdd)
    rw [hdd]
    simp [Act.put, hm.size, this]
  have hother : ∀ j d, j < k → j ≠ i → dstAt all j = some d → (a.put o.dst v).tmps.getD d undef = a.tmps.getD d undef := fun j d hj hji hdj => hput d fun d' hd' => dstK_ne hd hj hi hji hdj (hod.trans hd')
  refine ⟨?_, ?_, fun t u hu => ?_, hG, fun j u hj hl d hdj => ?_, fun j u hj => ?_⟩
  · cases o.dst <;> simpa [Act.put] using hm.size
  · cases o.dst <;> exact hm.defers
  · rw [hput t fun d hdd e => ?_]
    · exact hm.has t u hu
    · subst e
      have := fresh_none _ hf (List.mem_map.2 ⟨i, List.mem_range.2 hi, hod.trans hdd⟩)
      rw [this] at hu; cases hu
  · by_cases hji : j = i
    · subst hji
      rcases hv with ⟨h1, _⟩ | ⟨h1, _⟩
      · rw [h1] at hj; cases hj
        exact hself d (hod ▸ hdj)
      · rw [h1] at hj; cases hj
    · rw [hother j d (hSk j u hj) hji hdj]
      exact hm.doneS j u hj (by rwa [getD_set_ne false (Ne.symm hji)] at hl) d hdj
  · have hold : (j, u) ∈ ivE → (listed.setIfInBounds i true).getD j false = true ∧ ∀ d, dstAt all j = some d → (a.put o.dst v).tmps.getD d undef = u := fun hj => by
      have h1 := hm.doneE j u hj
      have hji : j ≠ i := fun e => by subst e; rw [getD_both hun] at h1; cases h1.1
      exact ⟨getD_set_true h1.1, fun d hdj => by rw [hother j d (hEk j u hj) hji hdj]; exact h1.2 d hdj⟩
    rcases hv with ⟨_, rfl⟩ | ⟨_, rfl⟩
    · exact hold hj
    · rcases List.mem_cons.1 hj with hj | hj
      · cases hj
        exact ⟨by simp [hs], fun d hdj => hself d (hod ▸ hdj)⟩
      · exact hold hj
theorem midc_knows (hds : ∀ k d, lk ds k = some d → dstAt all k = some d) {iv' ivE : Fm} {h : Hp} {listed : Array Bool} {a : Act} {w : World} {o : Oper} (hm : MidC n w0 mu all l ivS ivE h listed a w) (hiv : ∀ j u, look iv' j = some u → lk ivE j = some u ∨ lk ivS j = some u)
    (hl : ∀ e ∈ o.after, Region.binds .any e = true → listed.getD e.on false = true) : Knows n (depFm ds iv' o.after.toList ++ l) a := by
  refine ⟨hm.size, hm.defers, fun t v h => ?_⟩
  rcases look_append h with h | ⟨_, h⟩
  · obtain ⟨e, he, h1, h2, h3⟩ := depFm_mem (look_mem h)
    rcases hiv _ _ h3 with h4 | h4
    · exact (hm.doneE _ _ (lk_mem h4)).2 t (hds _ _ h2)
    · exact hm.doneS _ _ h4 (hl e (by simpa using he) h1) t (hds _ _ h2)
  · exact hm.has t v h
theorem lk_app {α : Type} : ∀ (a b : List (Nat × α)) (i : Nat), lk (a ++ b) i = match lk a i with | some v => some v | none => lk b i := by
  intro a
  induction a with
  | nil => intro b i; rfl
  | cons p r ih =>
    intro b i
    obtain ⟨j, v⟩ := p
    rw [List.cons_append, lk_cons, lk_cons, ih]
    by_cases h : j = i
    · subst h; simp
    · simp [h]
theorem chain_run (hds : ∀ k d, lk ds k = some d → dstAt all k = some d) {g : Nat} {Q' : Exit → Act → World → Prop} {X : Fm → Hp → Prop} (hk : k ≤ all.size) (hd : dstKB all k n = true) (hf : freshB l (dstsOf all k) = true) (hback : backB all = true) (hle0 : HpLe h0 hp)
    (hstb : ∀ i, i < k → dstAt all i = none → i = t0 ∨ Region.waitsFor .any all i t0 = true)
    (hS : ∀ i v, lk ivS i = some v → i < k ∧ ∃ o iv', all[i]? = some o ∧ Mono iv' ivS ∧ ∀ hx, HyG P n w0 mu all (depFm ds iv' o.after.toList ++ l) (bif Region.waitsFor .any all t0 i then hx ++ hp else hx ++ h0) o v)
    (htail : ∀ ivE h listed, HeadInv .any all k listed → (∀ i, i < k → listed.getD i true = true) → X ivE h → ∀ a w, MidC n w0 mu all l ivS ivE h listed a w → (∀ i v, (i, v) ∈ ivE → i < k) → wpAny P .any all Q' g listed a w)
    (hwait : ∀ listed, HeadInv .any all k listed → ∀ i, i < k → listed.getD i true = false → ∀ t, k ≤ t → t ∉ Region.ready .any all listed) :
    ∀ f r ivE h listed a w, leftOf k listed = f → HeadInv .any all k listed → MidC n w0 mu all l ivS ivE h listed a w → (∀ i v, (i, v) ∈ ivE → i < k) → (∀ i ∈ r, i < k ∧ listed.getD i true = false ∧ lk ivS i = none) → r.Nodup → linkB all r = true → (∀ i, i < k → listed.getD i true = false → (∃ v, lk ivS i = some v) ∨ i ∈ r) →
      HpLe h0 h → (listed.getD t0 false = false → HpLe hp h) → DCh P n w0 mu all ds l h0 ivS X r ivE h → wpAny P .any all Q' (f + g) listed a w := by
  intro f
  induction f with
  | zero =>
    intro r ivE h listed a w hlf inv hm hEk hr hnd hlink hcov hle hlep hD
    have hall : ∀ i, i < k → listed.getD i true = true := by
      intro i hi
      cases hc : listed.getD i true with
      | true => rfl
      | false =>
        exfalso
        have : i ∈ (List.range k).filter fun i => !listed.getD i true := List.mem_filter.2 ⟨List.mem_range.2 hi, by simp only [hc, Bool.not_false]⟩
        have h2 := List.length_pos_of_mem this
        unfold leftOf at hlf
        omega
    cases r with
    | nil =>
      rw [Nat.zero_add]
      exact htail ivE h listed inv hall hD a w hm hEk
    | cons c r =>
      have h1 := hr c (List.mem_cons_self ..)
      rw [hall c h1.1] at h1
      exact absurd h1.2.1 (by decide)
  | succ f ih =>
    intro r ivE h listed a w hlf inv hm hEk hr hnd hlink hcov hle hlep hD
    rw [show f + 1 + g = (f + g) + 1 by omega]
    have hex : ∃ i, i < k ∧ listed.getD i true = false := by
      have h2 : 0 < leftOf k listed := by omega
      obtain ⟨i, hi⟩ := List.exists_mem_of_length_pos h2
      rw [List.mem_filter] at hi
      exact ⟨i, List.mem_range.1 hi.1, by simpa using hi.2⟩
    obtain ⟨i0, hi0k, hi0⟩ := hex
    refine ⟨fun hnil => ?_, fun i hi => ?_⟩
    · exfalso
      obtain ⟨i, ⟨hik, hil⟩, hmin⟩ := exists_least (p := fun i => i < k ∧ listed.getD i true = false) ⟨i0, hi0k, hi0⟩
      have hr : i ∈ Region.ready .any all listed := by
        rw [mem_ready]
        have hs : i < all.size := by omega
        refine ⟨hil, all[i], by simp [hs], fun e he hb => ?_⟩
        have hb2 := List.all_eq_true.1 hback i (List.mem_range.2 hs)
        simp only [Array.getElem?_eq_getElem hs] at hb2
        have hb3 := (Array.all_eq_true_iff_forall_mem.1 hb2) e he
        simp only [hb, Bool.not_true, Bool.false_or, Nat.blt_eq] at hb3
        cases hc : listed.getD e.on false with
        | true => rfl
        | false =>
          have h5 := hmin e.on ⟨by omega, getD_in (by rw [inv.size]; omega) hc⟩
          omega
      rw [hnil] at hr; cases hr
    · have hik : i < k := by
        rcases Nat.lt_or_ge i k with h | h
        · exact h
        · exact absurd hi (hwait listed inv i0 hi0k hi0 i h)
      obtain ⟨hun, o, ho, hall⟩ := mem_ready.1 hi
      have hsz : i < listed.size := by rw [inv.size]; omega
      have hunf : listed.getD i false = false := getD_both hun
      have hleft : leftOf k (listed.setIfInBounds i true) = f := by have := left_set hik (by rw [inv.size]; omega) hun; omega
      have hwl : ∀ t, Region.waitsFor .any all i t = true → listed.getD t false = true := fun t ht => by
        obtain ⟨oj, h6, e, he, hb, heq⟩ := Region.waitsFor_spec ht
        rw [ho] at h6; cases h6
        rw [← heq]; exact hall e he hb
      unfold wpOp
      simp only [ho]
      cases hSi : lk ivS i with
      | some v =>
        obtain ⟨_, o', iv', ho', hmo, hy⟩ := hS i v hSi
        rw [ho] at ho'; cases ho'
        have hkn := midc_knows (o := o) hds hm (iv' := iv') (fun j u hu => .inr (hmo j u (by rw [← look_lk]; exact hu))) hall
        have hir : i ∉ r := fun hm' => by rw [(hr i hm').2.2] at hSi; cases hSi
        have hnext : ∀ w', Good w0 mu h w' → wpAny P .any all Q' (f + g) (listed.setIfInBounds i true) (a.put o.dst v) w' := fun w' hG' => by
          refine ih r ivE h _ _ _ hleft (inv.set hi hik) (midc_put hm ho hik hun hsz hd hf hG' (fun j u hu => (hS j u hu).1) hEk (.inl ⟨hSi, rfl⟩)) hEk (fun j hj => ?_) hnd hlink (fun j hj hl => ?_) hle (fun ht => ?_) hD
          · have hji : i ≠ j := fun e => hir (e ▸ hj)
            exact ⟨(hr j hj).1, by rw [getD_set_ne true hji]; exact (hr j hj).2.1, (hr j hj).2.2⟩
          · refine hcov j hj ?_
            by_cases hji : i = j
            · subst hji; simp [hsz] at hl
            · rwa [getD_set_ne true hji] at hl
          · refine hlep ?_
            by_cases hji : i = t0
            · subst hji; exact hunf
            · rwa [getD_set_ne false hji] at ht
        obtain ⟨hx, h3, hper⟩ : ∃ hx, HyG P n w0 mu all (depFm ds iv' o.after.toList ++ l) hx o v ∧ hx.Perm h := by
          cases hwt : Region.waitsFor .any all t0 i with
          | true =>
            have ht0 : listed.getD t0 false = false := by
              cases hc : listed.getD t0 false with
              | false => rfl
              | true =>
                obtain ⟨oj, h6, e, he, hb, heq⟩ := Region.waitsFor_spec hwt
                have := inv.closed t0 oj h6 hc e he hb
                rw [heq, hunf] at this; cases this
            obtain ⟨x, hxp⟩ := (hlep ht0).perm
            have h4 := hy x
            rw [hwt] at h4
            exact ⟨x ++ hp, h4, List.perm_append_comm.trans hxp⟩
          | false =>
            obtain ⟨x, hxp⟩ := hle.perm
            have h4 := hy x
            rw [hwt] at h4
            exact ⟨x ++ h0, h4, List.perm_append_comm.trans hxp⟩
        have hgd : Good w0 mu hx w := hm.good.perm hper
        replace hnext : ∀ w', Good w0 mu hx w' → wpAny P .any all Q' (f + g) (listed.setIfInBounds i true) (a.put o.dst v) w' := fun w' hG' => hnext w' (hG'.perm hper.symm)
        unfold HyG at h3
        cases hg : o.guard with
        | none =>
          rw [hg] at h3
          rw [if_pos (by simp [Region.wanted, hg])]
          exact .inl (h3 a w hkn hgd _ _ hnext)
        | some jw =>
          obtain ⟨j, want⟩ := jw
          rw [hg] at h3
          obtain ⟨dj, c0, b, u, hj, hb, hdj, hy, hvv⟩ := h3
          have hw := wanted_of hkn hg hj hb hdj
          cases hc : (c0 && wnt b want) with
          | true =>
            rw [hc] at hw hvv
            rw [if_pos hw]
            rw [Bool.and_eq_true] at hc
            rw [show v = u from hvv] at hnext
            exact .inl (hy hc.1 hc.2 a w hkn hgd _ _ hnext)
          | false =>
            rw [hc] at hw hvv
            rw [if_neg (by rw [hw]; decide)]
            rw [show v = undef from hvv] at hnext
            exact hnext w hgd
      | none =>
        have hir : i ∈ r := by
          rcases hcov i hik hun with ⟨v, hv⟩ | h
          · rw [hSi] at hv; cases hv
          · exact h
        cases r with
        | nil => cases hir
        | cons c r =>
          have hic : i = c := by
            rcases List.mem_cons.1 hir with h | h
            · exact h
            · exfalso
              obtain ⟨p, hp⟩ := linkB_head hlink h
              rcases hp with ⟨h1, _, h3⟩ | ⟨_, h3⟩ | ⟨p, h1, h3⟩
              · have := (hr p h1).2.1; have h5 := hwl p h3
                rw [getD_both this] at h5; cases h5
              · exact h3
              · have := (hr p h1).2.1; have h5 := hwl p h3
                rw [getD_both this] at h5; cases h5
          subst hic
          rw [List.nodup_cons] at hnd
          have hlink' : linkB all r = true := by
            cases r with
            | nil => rfl
            | cons j r => simp only [linkB, Bool.and_eq_true] at hlink; exact hlink.2
          have hr' : ∀ j ∈ r, j < k ∧ (listed.setIfInBounds i true).getD j true = false ∧ lk ivS j = none := fun j hj => by
            have h1 := hr j (List.mem_cons_of_mem _ hj)
            have hji : i ≠ j := fun e => hnd.1 (e ▸ hj)
            exact ⟨h1.1, by rw [getD_set_ne true hji]; exact h1.2.1, h1.2.2⟩
          have hcov' : ∀ j, j < k → (listed.setIfInBounds i true).getD j true = false → (∃ v, lk ivS j = some v) ∨ j ∈ r := fun j hj hl => by
            by_cases hji : i = j
            · subst hji; simp [hsz] at hl
            · rw [getD_set_ne true hji] at hl
              rcases hcov j hj hl with h | h
              · exact .inl h
              · exact .inr ((List.mem_cons.1 h).resolve_left (Ne.symm hji))
          have hkn := midc_knows (o := o) hds hm (iv' := ivE ++ ivS) (fun j u hu => by
            rw [look_lk, lk_app] at hu
            cases hE : lk ivE j with
            | some v => rw [hE] at hu; exact .inl hu
            | none => rw [hE] at hu; exact .inr hu) hall
          unfold DCh at hD
          obtain ⟨o', ho', hD⟩ := hD
          rw [ho] at ho'; cases ho'
          rcases hD with ⟨hds', R, ⟨hg, hE⟩, hD⟩ | ⟨hdn, h', ⟨hg, _, hSt⟩, hle', hD⟩
          · rw [if_pos (hg _ hkn)]
            refine .inl (hE a w [] hkn (by simpa using hm.good) _ _ fun v hn w' hR hG' => ?_)
            rw [List.nil_append] at hG'
            have hlen : ∀ x : Hp, HpLe x h → HpLe x (hn ++ h) := fun x hx => hpLe_cnt fun b => by have := hx.cnt b; rw [cntB_app]; omega
            refine ih r ((i, v) :: ivE) (hn ++ h) _ _ _ hleft (inv.set hi hik) (midc_put hm ho hik hun hsz hd hf hG' (fun j u hu => (hS j u hu).1) hEk (.inr ⟨hSi, rfl⟩)) (fun j u hu => ?_) hr' hnd.2 hlink' hcov' (hlen _ hle) (fun ht => hlen _ (hlep ?_)) (hD v hn hR)
            · rcases List.mem_cons.1 hu with hu | hu
              · cases hu; exact hik
              · exact hEk j u hu
            · by_cases hji : i = t0
              · subst hji; exact hunf
              · rwa [getD_set_ne false hji] at ht
          · rw [if_pos (by simp [Region.wanted, hg])]
            refine .inl (hSt a w hkn hm.good _ _ fun w' hG' => ?_)
            have hmc : MidC n w0 mu all l ivS ivE h' (listed.setIfInBounds i true) a w' := by
              refine ⟨hm.size, hm.defers, hm.has, hG', fun j u hj hl d hdj => ?_, fun j u hj => ⟨getD_set_true (hm.doneE j u hj).1, (hm.doneE j u hj).2⟩⟩
              have hji : i ≠ j := fun e => by subst e; rw [hSi] at hj; cases hj
              exact hm.doneS j u hj (by rwa [getD_set_ne false hji] at hl) d hdj
            refine ih r ivE h' _ _ _ hleft (inv.set hi hik) hmc hEk hr' hnd.2 hlink' hcov' hle' (fun ht => ?_) hD
            exfalso
            rcases hstb i hik (by simp [dstAt, ho, hdn]) with e | e
            · subst e
              rw [show (listed.setIfInBounds i true).getD i false = true by simp [hsz]] at ht; cases ht
            · have := getD_set_true (i := i) (hwl t0 e)
              rw [this] at ht; cases ht
theorem ds_get {X : Fm → Prop} : ∀ (S : List Nat) (iv : Fm), S.Nodup → (∀ i ∈ S, lk iv i = none) → Uq iv → DS P n w0 mu all ds l h0 hp t0 X S iv →
    (∀ i v, lk iv i = some v → ∃ o iv', all[i]? = some o ∧ Mono iv' iv ∧ ∀ hx, HyG P n w0 mu all (depFm ds iv' o.after.toList ++ l) (bif Region.waitsFor .any all t0 i then hx ++ hp else hx ++ h0) o v) →
    ∃ ivS, X ivS ∧ Uq ivS ∧ (∀ i, (∃ v, lk ivS i = some v) ↔ i ∈ S ∨ ∃ v, lk iv i = some v) ∧ ∀ i v, lk ivS i = some v → ∃ o iv', all[i]? = some o ∧ Mono iv' ivS ∧ ∀ hx, HyG P n w0 mu all (depFm ds iv' o.after.toList ++ l) (bif Region.waitsFor .any all t0 i then hx ++ hp else hx ++ h0) o v := by
  intro S
  induction S with
  | nil => intro iv _ _ hu h hs; exact ⟨iv, h, hu, fun i => by simp, hs⟩
  | cons i S ih =>
    rintro iv hnd hno hu ⟨o, v, ho, hy, h⟩ hs
    rw [List.nodup_cons] at hnd
    have hi := hno i (List.mem_cons_self ..)
    obtain ⟨ivS, hX, hu2, hk, hs2⟩ := ih ((i, v) :: iv) hnd.2 (fun j hj => by rw [lk_cons, if_neg (by rintro rfl; exact hnd.1 hj)]; exact hno j (List.mem_cons_of_mem _ hj)) (uq_cons hi hu) h (fun j u hj => by
      rw [lk_cons] at hj
      by_cases hij : i = j
      · subst hij
        rw [if_pos rfl] at hj
        cases hj
        exact ⟨o, iv, ho, mono_cons hi, hy⟩
      · rw [if_neg hij] at hj
        obtain ⟨o', iv', h1, h2, h3⟩ := hs j u hj
        exact ⟨o', iv', h1, fun a b hab => mono_cons hi a b (h2 a b hab), h3⟩)
    refine ⟨ivS, hX, hu2, fun j => ?_, hs2⟩
    rw [hk, List.mem_cons, lk_cons]
    by_cases hij : i = j
    · subst hij; simp
    · rw [if_neg hij]; simp [Ne.symm hij]
theorem st_drawC {ops : List Oper} (k t0 : Nat) (S C : List Nat) (h0 : Hp) (hB : drawCB ops.toArray n k t0 S C = true) (hf : freshB l (dstsOf ops.toArray k) = true) (hle0 : HpLe h0 hp) (hds : dstTab ops 0 = ds)
    (h : DS P n w0 mu ops.toArray ds l h0 hp t0 (fun ivS => DCh P n w0 mu ops.toArray ds l h0 ivS (fun ivE hc => Ops P n w0 mu ops.toArray (ops.drop k) (headFm ds (ivE ++ ivS) ++ l) hc Q) C [] hp) S []) : StAny P n w0 mu ops.toArray l hp Q := by
  intro a w hk hG
  simp only [drawCB, Bool.and_eq_true] at hB
  obtain ⟨⟨⟨⟨⟨hd, hback⟩, hcover⟩, hlink⟩, htailB⟩, hstb⟩ := hB
  simp only [coverB, Bool.and_eq_true, decide_eq_true_eq] at hcover
  obtain ⟨⟨hnd, hlt⟩, hcov⟩ := hcover
  have hlt' : ∀ i ∈ S ++ C, i < k := fun i hi => by have := List.all_eq_true.1 hlt i hi; simpa using this
  rw [List.nodup_append] at hnd
  obtain ⟨hndS, hndC, hSC⟩ := hnd
  obtain ⟨ivS, hX, huS, hkS, hsS⟩ := ds_get S [] hndS (fun _ _ => rfl) (fun _ _ h => by cases h) h (fun i v hv => by cases hv)
  simp only [lk, reduceCtorEq, exists_false, or_false] at hkS
  have hks : k ≤ ops.toArray.size := by
    simp only [tailB, Bool.or_eq_true, Bool.and_eq_true, decide_eq_true_eq] at htailB
    rcases htailB with h | h <;> omega
  have hdsl : ∀ i d, lk ds i = some d → dstAt ops.toArray i = some d := fun i d h => by rw [← hds] at h; have := (dstTab_ok ops 0 i d h).2; simpa [dstAt] using this
  have inv0 : HeadInv .any ops.toArray k (Array.replicate ops.toArray.size false) :=
    ⟨by simp, fun j oj _ hl => (by rw [getD_replicate_false] at hl; cases hl), fun t _ ht => getD_in (by simpa using ht) (getD_replicate_false _ _)⟩
  have hun0 : ∀ i, i < k → (Array.replicate ops.toArray.size false).getD i true = false := fun i hi => getD_in (by simp at hks ⊢; omega) (getD_replicate_false _ _)
  have hleft : leftOf k (Array.replicate ops.toArray.size false) = k := by
    unfold leftOf
    rw [List.filter_eq_self.2]
    · simp
    · intro i hi
      simp only [hun0 i (by simpa using hi), Bool.not_false]
  have key := chain_run hdsl (P := P) (n := n) (w0 := w0) (mu := mu) (l := l) (hp := hp) (h0 := h0) (all := ops.toArray) (ivS := ivS) (k := k) (t0 := t0) (g := ops.toArray.size - k) (Q' := QQ n w0 mu Q) (X := fun ivE hc => Ops P n w0 mu ops.toArray (ops.drop k) (headFm ds (ivE ++ ivS) ++ l) hc Q) hks hd hf hback hle0
    (fun i hi hdn => by
      have := List.all_eq_true.1 hstb i (List.mem_range.2 hi)
      rw [hdn] at this
      simp only [Option.isSome_none, Bool.false_or, Bool.or_eq_true] at this
      rcases this with h | h
      · exact .inl (Nat.eq_of_beq_eq_true h)
      · exact .inr h)
    (fun i v hv => ⟨hlt' i (List.mem_append_left _ ((hkS i).1 ⟨v, hv⟩)), hsS i v hv⟩)
    (fun ivE h listed inv hall hX a w hmid hEk => by
      have hknows : Knows n (headFm ds (ivE ++ ivS) ++ l) a := by
        refine ⟨hmid.size, hmid.defers, fun t v ht => ?_⟩
        rcases look_append ht with ht | ⟨_, ht⟩
        · obtain ⟨j, h1, h2⟩ := headFm_mem (look_mem ht)
          rcases List.mem_append.1 h1 with h1 | h1
          · exact (hmid.doneE j v h1).2 t (hdsl _ _ h2)
          · have hj := huS j v h1
            have hjk := hlt' j (List.mem_append_left _ ((hkS j).1 ⟨v, hj⟩))
            refine hmid.doneS j v hj ?_ t (hdsl _ _ h2)
            have h5 := hall j hjk
            cases hcc : listed.getD j false with
            | true => rfl
            | false => rw [getD_in (by rw [inv.size]; omega) hcc] at h5; cases h5
        · exact hmid.has t v ht
      have hfin := hX a w hknows hmid.good
      simp only [tailB, Bool.or_eq_true, Bool.and_eq_true, decide_eq_true_eq] at htailB
      rcases htailB with hks2 | ⟨⟨⟨hltk, hs⟩, hc⟩, hseq⟩
      · have e0 : ops.drop k = [] := List.drop_eq_nil_of_le (by simp at hks2; omega)
        rw [e0] at hfin
        rw [show ops.toArray.size - k = 0 by omega]
        refine ⟨?_, hfin⟩
        rw [List.eq_nil_iff_forall_not_mem]
        intro i hi
        obtain ⟨hun, o, ho, _⟩ := mem_ready.1 hi
        have hi' : i < k := by rw [hks2]; exact (Array.getElem?_eq_some_iff.1 ho).1
        rw [hall i hi'] at hun; cases hun
      · have hl : listed = (Array.replicate k true) ++ (Array.replicate (ops.toArray.size - k) false) := by
          apply Array.ext
          · simp [inv.size]; simp at hltk; omega
          · intro i h1 h2
            by_cases hi : i < k
            · have := hall i hi
              simp [h1] at this
              rw [Array.getElem_append_left (by simpa using hi)]
              simpa using this
            · have h3 := inv.tail i (by omega) (by rw [inv.size] at h1; exact h1)
              simp [h1] at h3
              rw [Array.getElem_append_right (by simp; omega)]
              simpa using h3
        have hdl : (ops.drop k).length = ops.toArray.size - k := by simp
        rw [← hdl]
        exact wpAny_of_seq (ops.drop k) k listed a w (fun j => by simp) (by rw [hl, hdl]; exact hseq) hfin)
    (fun listed inv i hi hun t ht => by
      simp only [tailB, Bool.or_eq_true, Bool.and_eq_true, decide_eq_true_eq] at htailB
      rcases htailB with h | ⟨⟨⟨hltk, hs⟩, hc⟩, hseq⟩
      · intro hr
        obtain ⟨_, o, ho, _⟩ := mem_ready.1 hr
        have := (Array.getElem?_eq_some_iff.1 ho).1
        omega
      · exact tail_waits hs hc hltk inv _ i rfl hi hun t ht)
    k C [] hp _ a { w with drawn := w.drawn + 1 } hleft inv0 ⟨hk.size, hk.defers, hk.has, hG.drawn _, fun i v _ hl => (by rw [getD_replicate_false] at hl; cases hl), fun i v hv => by cases hv⟩ (fun i v hv => by cases hv)
    (fun i hi => ⟨hlt' i (List.mem_append_right _ hi), hun0 i (hlt' i (List.mem_append_right _ hi)), by
      cases hv : lk ivS i with
      | none => rfl
      | some v => exact absurd rfl (hSC i ((hkS i).1 ⟨v, hv⟩) i hi)⟩) hndC hlink
    (fun i hi _ => by
      have := mem_mem (List.all_eq_true.1 hcov i (List.mem_range.2 hi))
      rcases List.mem_append.1 this with h | h
      · exact .inl ((hkS i).2 h)
      · exact .inr h) hle0 (fun _ => HpLe.refl _) hX
  have e : k + (ops.toArray.size - k) = ops.toArray.size := by omega
  rw [e] at key
  exact key
end
attribute [local irreducible] Hy St Ops DH DHF DE1 DE2 DE3
section
variable {P : Program} {n : Nat} {w0 : World} {mu : List Nat} {l lf : Fm} {h0 hp hc : Hp} {Q : Exit → Fm → Hp → Prop} {all : Array Oper} {ivS iv ivE : Fm} {k t0 i d : Nat} {ds : List (Nat × Nat)} {S r : List Nat} {X : Fm → Prop} {Y : Fm → Hp → Prop} {op : Op} {ty : TypeId} {pos : String} {af : Array Edge} {v : Value}
theorem ds_nil (h : X iv) : DS P n w0 mu all ds l h0 hp t0 X [] iv := h
theorem ds_a (ho : all[i]? = some ⟨some d, op, ty, pos, af, none⟩) (hwt : Region.waitsFor .any all t0 i = true) (hy : ∀ hx, Hy P n w0 mu (depFm ds iv af.toList ++ l) (hx ++ hp) ⟨some d, op, ty, pos, af, none⟩ v) (h : DS P n w0 mu all ds l h0 hp t0 X S ((i, v) :: iv)) : DS P n w0 mu all ds l h0 hp t0 X (i :: S) iv := ⟨_, v, ho, fun hx => by rw [hwt]; exact hy hx, h⟩
theorem ds_b (ho : all[i]? = some ⟨some d, op, ty, pos, af, none⟩) (hwt : Region.waitsFor .any all t0 i = false) (hy : ∀ hx, Hy P n w0 mu (depFm ds iv af.toList ++ l) (hx ++ h0) ⟨some d, op, ty, pos, af, none⟩ v) (h : DS P n w0 mu all ds l h0 hp t0 X S ((i, v) :: iv)) : DS P n w0 mu all ds l h0 hp t0 X (i :: S) iv := ⟨_, v, ho, fun hx => by rw [hwt]; exact hy hx, h⟩
theorem dc_nil (h : Y ivE hc) : DCh P n w0 mu all ds l h0 ivS Y [] ivE hc := h
theorem dc_e {R : RT} {gg : Option (Nat × Bool)} (ho : all[i]? = some ⟨some d, op, ty, pos, af, gg⟩) (he : EoR P n w0 mu all (depFm ds (ivE ++ ivS) af.toList ++ l) hc ⟨some d, op, ty, pos, af, gg⟩ R) (h : ∀ v hn, R v hn → DCh P n w0 mu all ds l h0 ivS Y r ((i, v) :: ivE) (hn ++ hc)) : DCh P n w0 mu all ds l h0 ivS Y (i :: r) ivE hc := ⟨_, ho, .inl ⟨rfl, R, he, h⟩⟩
theorem eo_val {o : Oper} (hg : o.guard = none) (hy : ∀ hx, Hy P n w0 mu lf (hx ++ hp) o v) : EoR P n w0 mu all lf hp o (fun u hn => u = v ∧ hn = []) :=
  ⟨fun a _ => by simp [Region.wanted, hg], fun a w hx hk hG K Q hK => by
    have := hy hx
    unfold Hy at this
    exact this a w hk hG K Q fun w' hG' => hK v [] w' ⟨rfl, rfl⟩ hG'⟩
theorem dc_v (ho : all[i]? = some ⟨some d, op, ty, pos, af, none⟩) (hy : ∀ hx, Hy P n w0 mu (depFm ds (ivE ++ ivS) af.toList ++ l) (hx ++ hc) ⟨some d, op, ty, pos, af, none⟩ v) (h : DCh P n w0 mu all ds l h0 ivS Y r ((i, v) :: ivE) hc) : DCh P n w0 mu all ds l h0 ivS Y (i :: r) ivE hc :=
  dc_e ho (eo_val rfl hy) (by rintro _ _ ⟨rfl, rfl⟩; exact h)
theorem dc_s {T : Tab} (ok : TabOk P T) {t : TypeId} {x y : Operand} {b off sz : Nat} {vs : List Value} {cs cs' : Array Value} {tb : TypeId} {hp' : Hp} (ho : all[i]? = some ⟨none, .store t x y, ty, pos, af, none⟩)
    (hx : ev (depFm ds (ivE ++ ivS) af.toList ++ l) x = some (.pointer (some ⟨b, off, none⟩))) (hy : ev (depFm ds (ivE ++ ivS) af.toList ++ l) y = some v) (hvc : v.cells = vs.toArray) (hs : lk T.sz t = some sz) (hl : vs.length = sz) (hperm : (⟨b, cs, tb⟩ :: hp').Perm hc) (hv1 : vs.all (·.oneCell') = true) (hlt : off + vs.length ≤ cs.size) (hput : putAt cs off vs = cs')
    (hle : HpLe h0 (⟨b, cs', tb⟩ :: hp')) (h : DCh P n w0 mu all ds l h0 ivS Y r ivE (⟨b, cs', tb⟩ :: hp')) : DCh P n w0 mu all ds l h0 ivS Y (i :: r) ivE hc := by
  refine ⟨_, ho, .inr ⟨rfl, ⟨b, cs', tb⟩ :: hp', ⟨rfl, rfl, fun a w hk hG K Q' hK => ?_⟩, hle, h⟩⟩
  subst hput
  have hG' := hG.perm hperm
  have hb := hG'.here _ (List.mem_cons_self ..)
  have hst := run_storeCells_cells (P := P) b off vs 0 w
    (fun j hj => by rw [cell_of_block hb]; simp [show off + j < cs.size by omega])
    (fun j _ => free_of_block hb) (fun u hu => (List.all_eq_true.1 hv1) u hu)
  unfold Oper.wp
  have hrun : (execOp a.eval ⟨none, .store t x y, ty, pos, af, none⟩).run P w = .ok .skip (w.setCells b off vs) := by
    simp only [execOp, hk.ev hx, hk.ev hy]
    simp only [Nat.add_zero] at hst
    simp [Instr.storeAt, Instr.sureAddr, storeVar, hvc, run_sizeOf (show szOf P t = some vs.length by rw [hl]; exact ok.gsz hs) w, hst]
  rw [hrun]
  exact hK _ (Good.sets (w := w) vs cs off w hG')
end
section
variable {n : Nat} {w0 : World} {mu : List Nat} {l lf : Fm} {h0 hp hc : Hp} {Q : Exit → Fm → Hp → Prop} {all : Array Oper} {ivS iv ivE : Fm} {k t0 i d : Nat} {ds : List (Nat × Nat)} {S r : List Nat} {X : Fm → Prop} {Y : Fm → Hp → Prop} {op : Op} {ty : TypeId} {pos : String} {af : Array Edge} {v : Value}
/-- A region that draws its order: a chain C, the others S; t0 the first write, h0 the blocks that nothing is written to. -/
theorem drawC {id : Nat} {ops tl : List Oper} (k t0 : Nat) (S C : List Nat) (h0 : Hp) (h : DS Tryz.prog n w0 mu ops.toArray ds l h0 hp t0 (fun ivS => DCh Tryz.prog n w0 mu ops.toArray ds l h0 ivS (fun ivE hc => Ops Tryz.prog n w0 mu ops.toArray tl (headFm ds (ivE ++ ivS) ++ l) hc Q) C [] hp) S [])
    (hle0 : HpLe h0 hp := by (exact clcntL)) (hds : dstTab ops 0 = ds := by (simp only [dstTab, Nat.reduceAdd, Nat.zero_add]; rfl)) (htl : ops.drop k = tl := by (simp only [List.drop_succ_cons, List.drop_zero, List.drop_nil]; rfl)) (hm : Tryz.prog.follows .mixedOrders = true := by kernel_rfl) (hB : drawCB ops.toArray n k t0 S C = true := by decide +kernel) (hf : freshB l (dstsOf ops.toArray k) = true := by rfl) : St Tryz.prog n w0 mu (.region id ops.toArray true) l hp Q :=
  st_any hm (st_drawC k t0 S C h0 hB hf hle0 hds (by rw [htl]; exact h))
theorem drawCA {ops tl : List Oper} (k t0 : Nat) (S C : List Nat) (h0 : Hp) (h : DS Tryz.prog n w0 mu ops.toArray ds l h0 hp t0 (fun ivS => DCh Tryz.prog n w0 mu ops.toArray ds l h0 ivS (fun ivE hc => Ops Tryz.prog n w0 mu ops.toArray tl (headFm ds (ivE ++ ivS) ++ l) hc Q) C [] hp) S [])
    (hle0 : HpLe h0 hp := by (exact clcntL)) (hds : dstTab ops 0 = ds := by (simp only [dstTab, Nat.reduceAdd, Nat.zero_add]; rfl)) (htl : ops.drop k = tl := by (simp only [List.drop_succ_cons, List.drop_zero, List.drop_nil]; rfl)) (hB : drawCB ops.toArray n k t0 S C = true := by decide +kernel) (hf : freshB l (dstsOf ops.toArray k) = true := by rfl) : StAny Tryz.prog n w0 mu ops.toArray l hp Q :=
  st_drawC k t0 S C h0 hB hf hle0 hds (by rw [htl]; exact h)
theorem runZ {G R : Prop} (k : R) (h : RestP R → G := by (intro kLeft; (repeat (first | (with_reducible apply ds_nil) | ((with_reducible apply ds_a); rfl; decide +kernel; (intro hxS; (first | exact hyF))) | ((with_reducible apply ds_b); rfl; decide +kernel; (intro hxS; (first | exact hyF))))); exact kLeft.get)) : G := h ⟨k⟩
/-- Of the chain: a call, a slice built, a value, a write. -/
theorem cCall {f : FuncId} {xs : List Operand} {vs : List Value} {tys : Array TypeId} {R : RT} (hcl : ∀ w, Good w0 mu hc w → Fn Tryz.prog f vs.toArray w [] R) (h : ∀ v hn, R v hn → DCh Tryz.prog n w0 mu all ds l h0 ivS Y r ((i, v) :: ivE) (hn ++ hc)) (ho : all[i]? = some ⟨some d, .call { callee := .value (.func f), args := xs.toArray, argTypes := tys }, ty, pos, af, none⟩ := by rfl) (hcal : mem calN f = true := by rfl) (hv : evs (depFm ds (ivE ++ ivS) af.toList ++ l) xs = some vs := by rfl) : DCh Tryz.prog n w0 mu all ds l h0 ivS Y (i :: r) ivE hc :=
  dc_e ho (eo_call (calOk f hcal) hv hcl) h
theorem cSlice {t len e sz : Nat} {z : Value} {ps : List (Nat × Operand)} {vs : List (Nat × Value)} {zl : List Value} {out : Array Value} (out' : List Value) (h : ∀ b, DCh Tryz.prog n w0 mu all ds l h0 ivS Y r ((i, .slice (some ⟨b, 0, none⟩) len len) :: ivE) (⟨b, out'.toArray, e⟩ :: hc)) (ho : all[i]? = some ⟨some d, .buildSlice t len ps.toArray, ty, pos, af, none⟩ := by rfl) (ht : lk Tb.sl t = some (e, sz) := by rfl) (hz : lk Tb.zs e = some z := by rfl) (hzc : z.cells = zl.toArray := by (first | ((simp only [Value.cells]) <;> rfl) | rfl)) (hzs : Nat.beq zl.length sz = true := by rfl) (hpos : (Nat.blt 0 (len * sz) && Nat.ble (len * sz) 16777216) = true := by rfl) (hv : evp (depFm ds (ivE ++ ivS) af.toList ++ l) ps = some vs := by rfl) (hf : flS sz (rep zl len).toArray vs = some out := by rfl) (hn : out = out'.toArray := by rfl) : DCh Tryz.prog n w0 mu all ds l h0 ivS Y (i :: r) ivE hc :=
  dc_e ho (eo_bslice tb_ok ht hz hzc hzs hpos hv hf hn) (by rintro _ _ ⟨b, rfl, rfl⟩; exact h b)
theorem cVal (hy : ∀ hx, Hy Tryz.prog n w0 mu (depFm ds (ivE ++ ivS) af.toList ++ l) (hx ++ hc) ⟨some d, op, ty, pos, af, none⟩ v) (h : DCh Tryz.prog n w0 mu all ds l h0 ivS Y r ((i, v) :: ivE) hc) (ho : all[i]? = some ⟨some d, op, ty, pos, af, none⟩ := by rfl) : DCh Tryz.prog n w0 mu all ds l h0 ivS Y (i :: r) ivE hc := dc_v ho hy h
theorem cStore {t : TypeId} {x y : Operand} {b off sz : Nat} {vs : List Value} {cs cs' : Array Value} {tb : TypeId} {hp' : Hp} (h : DCh Tryz.prog n w0 mu all ds l h0 ivS Y r ivE (⟨b, cs', tb⟩ :: hp')) (hperm : (⟨b, cs, tb⟩ :: hp').Perm hc) (ho : all[i]? = some ⟨none, .store t x y, ty, pos, af, none⟩ := by rfl)
    (hx : ev (depFm ds (ivE ++ ivS) af.toList ++ l) x = some (.pointer (some ⟨b, off, none⟩)) := by rfl) (hy : ev (depFm ds (ivE ++ ivS) af.toList ++ l) y = some v := by rfl) (hvc : v.cells = vs.toArray := by (first | ((simp only [Value.cells]) <;> rfl) | rfl)) (hs : lk Tb.sz t = some sz := by rfl) (hl : vs.length = sz := by rfl) (hv1 : vs.all (·.oneCell') = true := by first | rfl | (focus (simp; done))) (hlt : off + vs.length ≤ cs.size := by first | omega | (focus (simp; done)) | (focus (simp; omega))) (hput : putAt cs off vs = cs' := by (first | ((simp only [putAt, Value.cells, List.toList_toArray, List.setIfInBounds_toArray, List.set_cons_zero, List.set_cons_succ, List.drop_succ_cons, List.drop_zero, List.take_succ_cons, List.take_zero, List.cons_append, List.nil_append, List.append_nil]) <;> rfl) | rfl))
    (hle : HpLe h0 (⟨b, cs', tb⟩ :: hp') := by (exact clcntL)) : DCh Tryz.prog n w0 mu all ds l h0 ivS Y (i :: r) ivE hc := dc_s tb_ok ho hx hy hvc hs hl hperm hv1 hlt hput hle h
theorem opsC {rest : List Oper} {fr : Fm} (h : Ops Tryz.prog n w0 mu all rest (fr ++ l) hc Q) (hfr : headFm ds iv = fr := by (simp only [headFm, lk_cons, List.cons_append, List.nil_append, reduceIte, Nat.reduceEqDiff]; rfl)) : Ops Tryz.prog n w0 mu all rest (headFm ds iv ++ l) hc Q := by rw [hfr]; exact h
end
end Go.Proofs.YtiaelhhmlbfkmaaGreat

/- The engine: a drawn region: first makers of memory, in whatever order, then a chain; the others come whenever they may. No program in sight. -/
namespace Go.Proofs.YtiaelhhmlbfkmaaGreat
open Go.RowKit
set_option linter.unusedVariables false
set_option linter.unusedSimpArgs false
def blD : List (Nat × Value × Hp) → Hp
  | [] => []
  | p :: r => p.2.2 ++ blD r
def fmD : List (Nat × Value × Hp) → Fm
  | [] => []
  | p :: r => (p.1, p.2.1) :: fmD r
theorem fmD_mem : ∀ {Dn : List (Nat × Value × Hp)} {i : Nat} {v : Value}, (i, v) ∈ fmD Dn ↔ ∃ hn, (i, v, hn) ∈ Dn := by
  intro Dn
  induction Dn with
  | nil => intro i v; simp [fmD]
  | cons p r ih =>
    intro i v
    obtain ⟨j, u, hu⟩ := p
    simp only [fmD, List.mem_cons, ih]
    constructor
    · rintro (h | ⟨hn, h⟩)
      · cases h; exact ⟨hu, .inl rfl⟩
      · exact ⟨hn, .inr h⟩
    · rintro ⟨hn, h | h⟩
      · cases h; exact .inl rfl
      · exact .inr ⟨hn, h⟩
theorem getD_set_true' {listed : Array Bool} {i j : Nat} (h : listed.getD j true = true) : (listed.setIfInBounds i true).getD j true = true := by
  by_cases hij : i = j
  · subst hij
    simp only [Array.getD_eq_getD_getElem?, Array.getElem?_setIfInBounds] at h ⊢
    simp
    split <;> simp
  · rw [getD_set_ne true hij]; exact h
section
variable {P : Program} {n : Nat} {w0 : World} {mu : List Nat} {l : Fm} {h0 hp : Hp} {Q : Exit → Fm → Hp → Prop} {all : Array Oper} {ivS : Fm} {k t0 : Nat} {ds : List (Nat × Nat)}
theorem ep_run (hds : ∀ k d, lk ds k = some d → dstAt all k = some d) {g : Nat} {Q' : Exit → Act → World → Prop} (hk : k ≤ all.size) (hd : dstKB all k n = true) (hf : freshB l (dstsOf all k) = true) (hback : backB all = true) (hle0 : HpLe h0 hp)
    (hS : ∀ i v, lk ivS i = some v → i < k ∧ ∃ o iv', all[i]? = some o ∧ Mono iv' ivS ∧ ∀ hx, HyG P n w0 mu all (depFm ds iv' o.after.toList ++ l) (bif Region.waitsFor .any all t0 i then hx ++ hp else hx ++ h0) o v)
    {E C : List Nat} {Rf : Nat → RT}
    (hE : ∀ i ∈ E, i < k ∧ lk ivS i = none ∧ ∃ o, all[i]? = some o ∧ EoR P n w0 mu all (depFm ds ivS o.after.toList ++ l) hp o (Rf i))
    (hndE : E.Nodup) (hCS : ∀ i ∈ C, ∀ {v : Value}, lk ivS i ≠ some v) (hCEd : ∀ i ∈ E, i ∉ C)
    (hcov : ∀ i, i < k → (∃ v, lk ivS i = some v) ∨ i ∈ E ∨ i ∈ C)
    (hCE : ∀ i ∈ C, ∀ listed, i ∈ Region.ready .any all listed → (∀ j ∈ C, listed.getD j true = false) → ∀ j ∈ E, listed.getD j false = true)
    (hwait : ∀ listed, HeadInv .any all k listed → ∀ i, i < k → listed.getD i true = false → ∀ t, k ≤ t → t ∉ Region.ready .any all listed)
    (cont : ∀ f Dn listed a w, leftOf k listed = f → HeadInv .any all k listed → ((Dn.map (·.1)).Perm E) → (∀ p ∈ Dn, Rf p.1 p.2.1 p.2.2) → MidC n w0 mu all l ivS (fmD Dn) (blD Dn ++ hp) listed a w → (∀ i ∈ E, listed.getD i true = true) → (∀ i ∈ C, listed.getD i true = false) → wpAny P .any all Q' (f + g) listed a w) :
    ∀ f E' Dn listed a w, leftOf k listed = f → HeadInv .any all k listed → ((Dn.map (·.1)) ++ E').Perm E → (∀ p ∈ Dn, Rf p.1 p.2.1 p.2.2) → MidC n w0 mu all l ivS (fmD Dn) (blD Dn ++ hp) listed a w → (∀ p ∈ Dn, listed.getD p.1 true = true) → (∀ i ∈ E', listed.getD i true = false) → (∀ i ∈ C, listed.getD i true = false) → wpAny P .any all Q' (f + g) listed a w := by
  intro f
  induction f with
  | zero =>
    intro E' Dn listed a w hlf inv hper hR hm hDl hEl hCl
    cases E' with
    | nil =>
      rw [List.append_nil] at hper
      exact cont 0 Dn listed a w hlf inv hper hR hm (fun i hi => by
        obtain ⟨p, hp1, rfl⟩ := List.mem_map.1 (hper.mem_iff.2 hi)
        exact hDl p hp1) hCl
    | cons c r =>
      exfalso
      have hcE : c ∈ E := hper.mem_iff.1 (List.mem_append_right _ (List.mem_cons_self ..))
      have h1 := (hE c hcE).1
      have : c ∈ (List.range k).filter fun i => !listed.getD i true := List.mem_filter.2 ⟨List.mem_range.2 h1, by simp only [hEl c (List.mem_cons_self ..), Bool.not_false]⟩
      have h2 := List.length_pos_of_mem this
      unfold leftOf at hlf
      omega
  | succ f ih =>
    intro E' Dn listed a w hlf inv hper hR hm hDl hEl hCl
    cases E' with
    | nil =>
      rw [List.append_nil] at hper
      exact cont (f + 1) Dn listed a w hlf inv hper hR hm (fun i hi => by
        obtain ⟨p, hp1, rfl⟩ := List.mem_map.1 (hper.mem_iff.2 hi)
        exact hDl p hp1) hCl
    | cons c r =>
    generalize hEE : c :: r = E' at hper hEl
    have hcE' : c ∈ E' := by rw [← hEE]; exact List.mem_cons_self ..
    have hcE : c ∈ E := hper.mem_iff.1 (List.mem_append_right _ hcE')
    have hEk : ∀ i v, (i, v) ∈ fmD Dn → i < k := fun i v hiv => by
      obtain ⟨hn, h1⟩ := fmD_mem.1 hiv
      exact (hE i (hper.mem_iff.1 (List.mem_append_left _ (List.mem_map.2 ⟨_, h1, rfl⟩)))).1
    have hleD : HpLe hp (blD Dn ++ hp) := HpLe.right _ _
    have hleD0 : HpLe h0 (blD Dn ++ hp) := hpLe_cnt fun b => by have := hle0.cnt b; rw [cntB_app]; omega
    rw [show f + 1 + g = (f + g) + 1 by omega]
    obtain ⟨i0, hi0k, hi0⟩ : ∃ i, i < k ∧ listed.getD i true = false := ⟨c, (hE c hcE).1, hEl c hcE'⟩
    refine ⟨fun hnil => ?_, fun i hi => ?_⟩
    · exfalso
      obtain ⟨i, ⟨hik, hil⟩, hmin⟩ := exists_least (p := fun i => i < k ∧ listed.getD i true = false) ⟨i0, hi0k, hi0⟩
      have hr : i ∈ Region.ready .any all listed := by
        rw [mem_ready]
        have hs : i < all.size := by omega
        refine ⟨hil, all[i], by simp [hs], fun e he hb => ?_⟩
        have hb2 := List.all_eq_true.1 hback i (List.mem_range.2 hs)
        simp only [Array.getElem?_eq_getElem hs] at hb2
        have hb3 := (Array.all_eq_true_iff_forall_mem.1 hb2) e he
        simp only [hb, Bool.not_true, Bool.false_or, Nat.blt_eq] at hb3
        cases hc : listed.getD e.on false with
        | true => rfl
        | false =>
          have h5 := hmin e.on ⟨by omega, getD_in (by rw [inv.size]; omega) hc⟩
          omega
      rw [hnil] at hr; cases hr
    · have hik : i < k := by
        rcases Nat.lt_or_ge i k with h | h
        · exact h
        · exact absurd hi (hwait listed inv i0 hi0k hi0 i h)
      obtain ⟨hun, o, ho, hall⟩ := mem_ready.1 hi
      have hsz : i < listed.size := by rw [inv.size]; omega
      have hunf : listed.getD i false = false := getD_both hun
      have hleft : leftOf k (listed.setIfInBounds i true) = f := by have := left_set hik (by rw [inv.size]; omega) hun; omega
      have hwl : ∀ t, Region.waitsFor .any all i t = true → listed.getD t false = true := fun t ht => by
        obtain ⟨oj, h6, e, he, hb, heq⟩ := Region.waitsFor_spec ht
        rw [ho] at h6; cases h6
        rw [← heq]; exact hall e he hb
      unfold wpOp
      simp only [ho]
      cases hSi : lk ivS i with
      | some v =>
        obtain ⟨_, o', iv', ho', hmo, hy⟩ := hS i v hSi
        rw [ho] at ho'; cases ho'
        have hkn := midc_knows (o := o) hds hm (iv' := iv') (fun j u hu => .inr (hmo j u (by rw [← look_lk]; exact hu))) hall
        have hiE : i ∉ E := fun hm' => by rw [(hE i hm').2.1] at hSi; cases hSi
        have hnext : ∀ w', Good w0 mu (blD Dn ++ hp) w' → wpAny P .any all Q' (f + g) (listed.setIfInBounds i true) (a.put o.dst v) w' := fun w' hG' => by
          refine ih E' Dn _ _ _ hleft (inv.set hi hik) hper hR (midc_put hm ho hik hun hsz hd hf hG' (fun j u hu => (hS j u hu).1) hEk (.inl ⟨hSi, rfl⟩)) (fun p hp1 => getD_set_true' (hDl p hp1)) (fun j hj => ?_) (fun j hj => ?_)
          · have hji : i ≠ j := fun e => hiE (by rw [e]; exact hper.mem_iff.1 (List.mem_append_right _ hj))
            rw [getD_set_ne true hji]; exact hEl j hj
          · have hji : i ≠ j := fun e => by subst e; exact hCS _ hj hSi
            rw [getD_set_ne true hji]; exact hCl j hj
        obtain ⟨hx, h3, hper⟩ : ∃ hx, HyG P n w0 mu all (depFm ds iv' o.after.toList ++ l) hx o v ∧ hx.Perm (blD Dn ++ hp) := by
          cases hwt : Region.waitsFor .any all t0 i with
          | true =>
            have ht0 : listed.getD t0 false = false := by
              cases hc : listed.getD t0 false with
              | false => rfl
              | true =>
                obtain ⟨oj, h6, e, he, hb, heq⟩ := Region.waitsFor_spec hwt
                have := inv.closed t0 oj h6 hc e he hb
                rw [heq, hunf] at this; cases this
            obtain ⟨x, hxp⟩ := hleD.perm
            have h4 := hy x
            rw [hwt] at h4
            exact ⟨x ++ hp, h4, List.perm_append_comm.trans hxp⟩
          | false =>
            obtain ⟨x, hxp⟩ := hleD0.perm
            have h4 := hy x
            rw [hwt] at h4
            exact ⟨x ++ h0, h4, List.perm_append_comm.trans hxp⟩
        have hgd : Good w0 mu hx w := hm.good.perm hper
        replace hnext : ∀ w', Good w0 mu hx w' → wpAny P .any all Q' (f + g) (listed.setIfInBounds i true) (a.put o.dst v) w' := fun w' hG' => hnext w' (hG'.perm hper.symm)
        unfold HyG at h3
        cases hg : o.guard with
        | none =>
          rw [hg] at h3
          rw [if_pos (by simp [Region.wanted, hg])]
          exact .inl (h3 a w hkn hgd _ _ hnext)
        | some jw =>
          obtain ⟨j, want⟩ := jw
          rw [hg] at h3
          obtain ⟨dj, c0, b, u, hj, hb, hdj, hy, hvv⟩ := h3
          have hw := wanted_of hkn hg hj hb hdj
          cases hc : (c0 && wnt b want) with
          | true =>
            rw [hc] at hw hvv
            rw [if_pos hw]
            rw [Bool.and_eq_true] at hc
            rw [show v = u from hvv] at hnext
            exact .inl (hy hc.1 hc.2 a w hkn hgd _ _ hnext)
          | false =>
            rw [hc] at hw hvv
            rw [if_neg (by rw [hw]; decide)]
            rw [show v = undef from hvv] at hnext
            exact hnext w hgd
      | none =>
        rcases (hcov i hik).resolve_left (fun ⟨v, hv⟩ => by rw [hSi] at hv; cases hv) with hiE | hiC
        · have hiE' : i ∈ E' := by
            rcases List.mem_append.1 (hper.mem_iff.2 hiE) with h | h
            · obtain ⟨p, hp1, rfl⟩ := List.mem_map.1 h
              rw [hDl p hp1] at hun; cases hun
            · exact h
          obtain ⟨_, _, o', ho', hg, hEo⟩ := hE i hiE
          rw [ho] at ho'; cases ho'
          have hkn := midc_knows (o := o) hds hm (iv' := ivS) (fun j u hu => .inr (by rw [← look_lk]; exact hu)) hall
          rw [if_pos (hg _ hkn)]
          refine .inl (hEo a w (blD Dn) hkn hm.good _ _ fun v hn w' hRi hG' => ?_)
          obtain ⟨s, t, hst⟩ := List.append_of_mem hiE'
          have hper' : (((i, v, hn) :: Dn).map (·.1) ++ (s ++ t)).Perm E := by
            refine List.Perm.trans ?_ hper
            rw [hst, List.map_cons, List.cons_append, ← List.append_assoc, ← List.append_assoc]
            exact List.perm_middle.symm
          have hnd' : i ∉ s ++ t := fun hm' => by
            have h5 := hper.nodup_iff.2 hndE
            rw [List.nodup_append] at h5
            have h6 := h5.2.1
            rw [hst] at h6
            have h7 := (List.perm_middle (a := i) (l₁ := s) (l₂ := t)).nodup_iff.1 h6
            exact (List.nodup_cons.1 h7).1 hm'
          refine ih (s ++ t) ((i, v, hn) :: Dn) _ _ _ hleft (inv.set hi hik) hper' (fun p hp1 => ?_) (midc_put (ivE' := (i, v) :: fmD Dn) hm ho hik hun hsz hd hf (by rw [blD, List.append_assoc]; exact hG') (fun j u hu => (hS j u hu).1) hEk (.inr ⟨hSi, rfl⟩)) (fun p hp1 => ?_) (fun j hj => ?_) (fun j hj => ?_)
          · rcases List.mem_cons.1 hp1 with rfl | hp1
            · exact hRi
            · exact hR p hp1
          · rcases List.mem_cons.1 hp1 with rfl | hp1
            · simp [hsz]
            · exact getD_set_true' (hDl p hp1)
          · have hji : i ≠ j := fun e => hnd' (e ▸ hj)
            rw [getD_set_ne true hji]
            refine hEl j ?_
            rw [hst]
            rcases List.mem_append.1 hj with h | h
            · exact List.mem_append_left _ h
            · exact List.mem_append_right _ (List.mem_cons_of_mem _ h)
          · have hji : i ≠ j := fun e => by subst e; exact hCEd _ hiE hj
            rw [getD_set_ne true hji]; exact hCl j hj
        · exfalso
          have h5 := hCE i hiC listed hi hCl c hcE
          rw [getD_both (hEl c hcE')] at h5; cases h5
theorem blD_hpK : ∀ (Dn : List (Nat × Value × Hp)) (c : Ch), (∀ p ∈ Dn, c p.1 = p.2) → blD Dn = hpK c (Dn.map (·.1)) := by
  intro Dn
  induction Dn with
  | nil => intro c _; rfl
  | cons p r ih =>
    intro c h
    rw [blD, List.map_cons, hpK, ih c (fun q hq => h q (List.mem_cons_of_mem _ hq)), h p (List.mem_cons_self ..)]
theorem hpK_perm {c : Ch} {L M : List Nat} (h : L.Perm M) : (hpK c L).Perm (hpK c M) := by
  induction h with
  | nil => exact .refl _
  | cons x _ ih => exact List.Perm.append_left _ ih
  | swap x y l =>
    simp only [hpK]
    rw [← List.append_assoc, ← List.append_assoc]
    exact List.Perm.append_right _ List.perm_append_comm
  | trans _ _ h1 h2 => exact h1.trans h2
def drawECB (ops : Array Oper) (n k t0 : Nat) (S E C : List Nat) : Bool :=
  dstKB ops k n && backB ops && coverB k S (E ++ C) && linkB ops C && (match C with | [] => true | c :: _ => E.all fun j => Region.waitsFor .any ops c j) && tailB ops k && (List.range k).all fun i => (dstAt ops i).isSome || Nat.beq i t0 || Region.waitsFor .any ops i t0
/-- What was done, by its place. -/
def chD (Dn : List (Nat × Value × Hp)) : Ch := fun i => match lk Dn i with | some x => x | none => (undef, [])
theorem chD_mem : ∀ {Dn : List (Nat × Value × Hp)}, (Dn.map (·.1)).Nodup → ∀ p ∈ Dn, chD Dn p.1 = p.2 := by
  intro Dn
  induction Dn with
  | nil => intro _ p h; cases h
  | cons q r ih =>
    intro hnd p hp
    rw [List.map_cons, List.nodup_cons] at hnd
    unfold chD
    obtain ⟨j, x⟩ := q
    rw [lk_cons]
    rcases List.mem_cons.1 hp with rfl | hp
    · simp
    · have hne : j ≠ p.1 := fun e => hnd.1 (by simp only at e ⊢; rw [e]; exact List.mem_map.2 ⟨p, hp, rfl⟩)
      rw [if_neg hne]
      exact ih hnd.2 p hp
theorem st_drawEC {ops : List Oper} (k t0 : Nat) (S E C : List Nat) (h0 : Hp) (hB : drawECB ops.toArray n k t0 S E C = true) (hf : freshB l (dstsOf ops.toArray k) = true) (hle0 : HpLe h0 hp) (hds : dstTab ops 0 = ds)
    (h : DS P n w0 mu ops.toArray ds l h0 hp t0 (fun ivS => DE2 P n w0 mu ops.toArray ds l hp ivS (fun Rs => DN (fun iv bl => DCh P n w0 mu ops.toArray ds l h0 ivS (fun ivE hc => Ops P n w0 mu ops.toArray (ops.drop k) (headFm ds (ivE ++ ivS) ++ l) hc Q) C iv (bl ++ hp)) Rs) E []) S []) : StAny P n w0 mu ops.toArray l hp Q := by
  intro a w hkn hG
  simp only [drawECB, Bool.and_eq_true] at hB
  obtain ⟨⟨⟨⟨⟨⟨hd, hback⟩, hcover⟩, hlink⟩, hhead⟩, htailB⟩, hstb⟩ := hB
  simp only [coverB, Bool.and_eq_true, decide_eq_true_eq] at hcover
  obtain ⟨⟨hnd, hlt⟩, hcov⟩ := hcover
  have hlt' : ∀ i ∈ S ++ (E ++ C), i < k := fun i hi => by have := List.all_eq_true.1 hlt i hi; simpa using this
  rw [List.nodup_append, List.nodup_append] at hnd
  obtain ⟨hndS, ⟨hndE, hndC, hEC⟩, hSEC⟩ := hnd
  obtain ⟨ivS, hX, huS, hkS, hsS⟩ := ds_get S [] hndS (fun _ _ => rfl) (fun _ _ h => by cases h) h (fun i v hv => by cases hv)
  simp only [lk, reduceCtorEq, exists_false, or_false] at hkS
  have hX2 := de2_mono (Y := fun Rs => DN (fun iv bl => DCh P n w0 mu ops.toArray ds l h0 ivS (fun ivE hc => Ops P n w0 mu ops.toArray (ops.drop k) (headFm ds (ivE ++ ivS) ++ l) hc Q) C iv (bl ++ hp)) Rs ∧ Rs.map (·.1) = E.reverse) E [] (fun Rs' h1 h2 => ⟨h2, by simpa using h1⟩) hX
  obtain ⟨RE, ⟨hXE, hREr⟩, hkE, hsE⟩ := de2_get E [] hndE (fun _ _ => rfl) hX2 (fun i R hi => by cases hi)
  simp only [lk, reduceCtorEq, exists_false, or_false] at hkE
  have hks : k ≤ ops.toArray.size := by
    simp only [tailB, Bool.or_eq_true, Bool.and_eq_true, decide_eq_true_eq] at htailB
    rcases htailB with h | h <;> omega
  have hdsl : ∀ i d, lk ds i = some d → dstAt ops.toArray i = some d := fun i d h => by rw [← hds] at h; have := (dstTab_ok ops 0 i d h).2; simpa [dstAt] using this
  have inv0 : HeadInv .any ops.toArray k (Array.replicate ops.toArray.size false) :=
    ⟨by simp, fun j oj _ hl => (by rw [getD_replicate_false] at hl; cases hl), fun t _ ht => getD_in (by simpa using ht) (getD_replicate_false _ _)⟩
  have hun0 : ∀ i, i < k → (Array.replicate ops.toArray.size false).getD i true = false := fun i hi => getD_in (by simp at hks ⊢; omega) (getD_replicate_false _ _)
  have hleft : leftOf k (Array.replicate ops.toArray.size false) = k := by
    unfold leftOf
    rw [List.filter_eq_self.2]
    · simp
    · intro i hi
      simp only [hun0 i (by simpa using hi), Bool.not_false]
  have hnoS : ∀ i, i ∈ E ++ C → lk ivS i = none := fun i hi => by
    cases hv : lk ivS i with
    | none => rfl
    | some v => exact absurd rfl (hSEC i ((hkS i).1 ⟨v, hv⟩) i hi)
  have hS' : ∀ i v, lk ivS i = some v → i < k ∧ ∃ o iv', ops.toArray[i]? = some o ∧ Mono iv' ivS ∧ ∀ hx, HyG P n w0 mu ops.toArray (depFm ds iv' o.after.toList ++ l) (bif Region.waitsFor .any ops.toArray t0 i then hx ++ hp else hx ++ h0) o v := fun i v hv => ⟨hlt' i (List.mem_append_left _ ((hkS i).1 ⟨v, hv⟩)), hsS i v hv⟩
  have hwait : ∀ listed, HeadInv .any ops.toArray k listed → ∀ i, i < k → listed.getD i true = false → ∀ t, k ≤ t → t ∉ Region.ready .any ops.toArray listed := fun listed inv i hi hun t ht => by
    simp only [tailB, Bool.or_eq_true, Bool.and_eq_true, decide_eq_true_eq] at htailB
    rcases htailB with h | ⟨⟨⟨hltk, hs⟩, hc⟩, hseq⟩
    · intro hr
      obtain ⟨_, o, ho, _⟩ := mem_ready.1 hr
      have := (Array.getElem?_eq_some_iff.1 ho).1
      omega
    · exact tail_waits hs hc hltk inv _ i rfl hi hun t ht
  have hREE : (RE.map (·.1)).Perm E := by rw [hREr]; exact List.reverse_perm E
  have hE' : ∀ i ∈ E, i < k ∧ lk ivS i = none ∧ ∃ o, ops.toArray[i]? = some o ∧ EoR P n w0 mu ops.toArray (depFm ds ivS o.after.toList ++ l) hp o (match lk RE i with | some R => R | none => fun _ _ => False) := fun i hi => by
    obtain ⟨R, hR⟩ := (hkE i).2 hi
    obtain ⟨_, o, ho, he, _⟩ := hsE i R (lk_mem hR)
    refine ⟨hlt' i (List.mem_append_right _ (List.mem_append_left _ hi)), hnoS i (List.mem_append_left _ hi), o, ho, ?_⟩
    rw [hR]; exact he
  have hcovA : ∀ i, i < k → (∃ v, lk ivS i = some v) ∨ i ∈ E ∨ i ∈ C := fun i hi => by
    have := mem_mem (List.all_eq_true.1 hcov i (List.mem_range.2 hi))
    rcases List.mem_append.1 this with h | h
    · exact .inl ((hkS i).2 h)
    · exact .inr (List.mem_append.1 h)
  have hCE : ∀ i ∈ C, ∀ listed : Array Bool, i ∈ Region.ready .any ops.toArray listed → (∀ j ∈ C, listed.getD j true = false) → ∀ j ∈ E, listed.getD j false = true := fun i hi listed hr hCl j hj => by
    obtain ⟨hun, o, ho, hall⟩ := mem_ready.1 hr
    have hwl : ∀ t, Region.waitsFor .any ops.toArray i t = true → listed.getD t false = true := fun t ht => by
      obtain ⟨oj, h6, e, he, hb, heq⟩ := Region.waitsFor_spec ht
      rw [ho] at h6; cases h6
      rw [← heq]; exact hall e he hb
    cases C with
    | nil => cases hi
    | cons c r =>
      rcases List.mem_cons.1 hi with rfl | hir
      · exact hwl j (List.all_eq_true.1 hhead j hj)
      · exfalso
        obtain ⟨p, hp⟩ := linkB_head hlink hir
        rcases hp with ⟨h1, _, h3⟩ | ⟨_, h3⟩ | ⟨p, h1, h3⟩
        · have h5 := hwl p h3; rw [getD_both (hCl p h1)] at h5; cases h5
        · exact h3
        · have h5 := hwl p h3; rw [getD_both (hCl p h1)] at h5; cases h5
  have key := ep_run (g := ops.toArray.size - k) (Q' := QQ n w0 mu Q) hdsl hks hd hf hback hle0 hS' (C := C) hE' hndE (fun i hi v hv => by rw [hnoS i (List.mem_append_right _ hi)] at hv; cases hv) (fun i hi hc => hEC i hi i hc rfl) hcovA hCE hwait ?_ k E [] (Array.replicate ops.toArray.size false) a { w with drawn := w.drawn + 1 } hleft inv0 (by simp) (fun p hp => by cases hp)
    ⟨hkn.size, hkn.defers, hkn.has, hG.drawn _, fun i v _ hl => (by rw [getD_replicate_false] at hl; cases hl), fun i v hv => by cases hv⟩ (fun p hp => by cases hp) (fun i hi => hun0 i (hlt' i (List.mem_append_right _ (List.mem_append_left _ hi)))) (fun i hi => hun0 i (hlt' i (List.mem_append_right _ (List.mem_append_right _ hi))))
  · have e : k + (ops.toArray.size - k) = ops.toArray.size := by omega
    rw [e] at key
    exact key
  intro f Dn listed a w hlf inv hper hR hm hEl hCl
  have hndD : (Dn.map (·.1)).Nodup := hper.nodup_iff.2 hndE
  have hch := chD_mem hndD
  have hbl : blD Dn = hpK (chD Dn) (Dn.map (·.1)) := blD_hpK Dn _ hch
  have hperb : (hpK (chD Dn) (RE.map (·.1))).Perm (blD Dn) := by rw [hbl]; exact hpK_perm (hREE.trans hper.symm)
  have hval : ∀ i R, (i, R) ∈ RE → ∃ hn, (i, (chD Dn i).1, hn) ∈ Dn ∧ R (chD Dn i).1 (chD Dn i).2 := fun i R hi => by
    have h1 : i ∈ Dn.map (·.1) := hper.mem_iff.2 (hREE.mem_iff.1 (List.mem_map.2 ⟨_, hi, rfl⟩))
    obtain ⟨p, hp1, hp2⟩ := List.mem_map.1 h1
    subst hp2
    have h2 := hR p hp1
    rw [(hsE p.1 R hi).1] at h2
    rw [hch p hp1]
    exact ⟨p.2.2, hp1, h2⟩
  have hAll : AllR (chD Dn) RE := allR_of RE fun p hp => (hval p.1 p.2 hp).choose_spec.2
  have hD := dn_c RE _ (chD Dn) hXE hAll
  refine chain_run hdsl (P := P) (n := n) (w0 := w0) (mu := mu) (l := l) (hp := hp) (h0 := h0) (all := ops.toArray) (ivS := ivS) (k := k) (t0 := t0) (g := ops.toArray.size - k) (Q' := QQ n w0 mu Q) (X := fun ivE hc => Ops P n w0 mu ops.toArray (ops.drop k) (headFm ds (ivE ++ ivS) ++ l) hc Q) hks hd hf hback hle0
    (fun i hi hdn => by
      have := List.all_eq_true.1 hstb i (List.mem_range.2 hi)
      rw [hdn] at this
      simp only [Option.isSome_none, Bool.false_or, Bool.or_eq_true] at this
      rcases this with h | h
      · exact .inl (Nat.eq_of_beq_eq_true h)
      · exact .inr h)
    hS' (fun ivE h listed inv hall hX a w hmid hEk => ?_) hwait f C (chs (chD Dn) RE) (hpK (chD Dn) (RE.map (·.1)) ++ hp) listed a w hlf inv ⟨hm.size, hm.defers, hm.has, hm.good.perm (List.Perm.append_right _ hperb), hm.doneS, fun i v hv => ?_⟩ (fun i v hv => ?_) (fun i hi => ⟨hlt' i (List.mem_append_right _ (List.mem_append_right _ hi)), hCl i hi, hnoS i (List.mem_append_right _ hi)⟩) hndC hlink (fun i hi hl => ?_) (hpLe_cnt fun b => by have := hle0.cnt b; rw [cntB_app]; omega) (fun _ => HpLe.right _ _) hD
  · have hknows : Knows n (headFm ds (ivE ++ ivS) ++ l) a := by
      refine ⟨hmid.size, hmid.defers, fun t v ht => ?_⟩
      rcases look_append ht with ht | ⟨_, ht⟩
      · obtain ⟨j, h1, h2⟩ := headFm_mem (look_mem ht)
        rcases List.mem_append.1 h1 with h1 | h1
        · exact (hmid.doneE j v h1).2 t (hdsl _ _ h2)
        · have hj := huS j v h1
          have hjk := hlt' j (List.mem_append_left _ ((hkS j).1 ⟨v, hj⟩))
          refine hmid.doneS j v hj ?_ t (hdsl _ _ h2)
          have h5 := hall j hjk
          cases hcc : listed.getD j false with
          | true => rfl
          | false => rw [getD_in (by rw [inv.size]; omega) hcc] at h5; cases h5
      · exact hmid.has t v ht
    have hfin := hX a w hknows hmid.good
    simp only [tailB, Bool.or_eq_true, Bool.and_eq_true, decide_eq_true_eq] at htailB
    rcases htailB with hks2 | ⟨⟨⟨hltk, hs⟩, hc⟩, hseq⟩
    · have e0 : ops.drop k = [] := List.drop_eq_nil_of_le (by simp at hks2; omega)
      rw [e0] at hfin
      rw [show ops.toArray.size - k = 0 by omega]
      refine ⟨?_, hfin⟩
      rw [List.eq_nil_iff_forall_not_mem]
      intro i hi
      obtain ⟨hun, o, ho, _⟩ := mem_ready.1 hi
      have hi' : i < k := by rw [hks2]; exact (Array.getElem?_eq_some_iff.1 ho).1
      rw [hall i hi'] at hun; cases hun
    · have hl : listed = (Array.replicate k true) ++ (Array.replicate (ops.toArray.size - k) false) := by
        apply Array.ext
        · simp [inv.size]; simp at hltk; omega
        · intro i h1 h2
          by_cases hi : i < k
          · have := hall i hi
            simp [h1] at this
            rw [Array.getElem_append_left (by simpa using hi)]
            simpa using this
          · have h3 := inv.tail i (by omega) (by rw [inv.size] at h1; exact h1)
            simp [h1] at h3
            rw [Array.getElem_append_right (by simp; omega)]
            simpa using h3
      have hdl : (ops.drop k).length = ops.toArray.size - k := by simp
      rw [← hdl]
      exact wpAny_of_seq (ops.drop k) k listed a w (fun j => by simp) (by rw [hl, hdl]; exact hseq) hfin
  · obtain ⟨h1, R, hR1⟩ := chs_mem RE hv
    obtain ⟨hn, h2, _⟩ := hval i R hR1
    rw [h1]
    exact hm.doneE i _ (fmD_mem.2 ⟨hn, h2⟩)
  · obtain ⟨h1, R, hR1⟩ := chs_mem RE hv
    exact (hE' i (hREE.mem_iff.1 (List.mem_map.2 ⟨_, hR1, rfl⟩))).1
  · rcases hcovA i hi with h | h | h
    · exact .inl h
    · rw [hEl i h] at hl; cases hl
    · exact .inr h
end
set_option maxRecDepth 20000
attribute [local irreducible] Hy St Ops DH DHF DE1 DE2 DE3
section
variable {n : Nat} {w0 : World} {mu : List Nat} {l : Fm} {h0 hp : Hp} {Q : Exit → Fm → Hp → Prop} {ds : List (Nat × Nat)}
/-- A region that draws its order: makers E, in whatever order, then a chain C, the others S; t0 the first write, h0 the blocks that nothing is written to. -/
theorem drawECA {ops tl : List Oper} (k t0 : Nat) (S E C : List Nat) (h0 : Hp) (h : DS Tryz.prog n w0 mu ops.toArray ds l h0 hp t0 (fun ivS => DE2 Tryz.prog n w0 mu ops.toArray ds l hp ivS (fun Rs => DN (fun iv bl => DCh Tryz.prog n w0 mu ops.toArray ds l h0 ivS (fun ivE hc => Ops Tryz.prog n w0 mu ops.toArray tl (headFm ds (ivE ++ ivS) ++ l) hc Q) C iv (bl ++ hp)) Rs) E []) S [])
    (hle0 : HpLe h0 hp := by (exact clcntL)) (hds : dstTab ops 0 = ds := by (simp only [dstTab, Nat.reduceAdd, Nat.zero_add]; rfl)) (htl : ops.drop k = tl := by (simp only [List.drop_succ_cons, List.drop_zero, List.drop_nil]; rfl)) (hB : drawECB ops.toArray n k t0 S E C = true := by decide +kernel) (hf : freshB l (dstsOf ops.toArray k) = true := by rfl) : StAny Tryz.prog n w0 mu ops.toArray l hp Q :=
  st_drawEC k t0 S E C h0 hB hf hle0 hds (by rw [htl]; exact h)
theorem drawEC {id : Nat} {ops tl : List Oper} (k t0 : Nat) (S E C : List Nat) (h0 : Hp) (h : DS Tryz.prog n w0 mu ops.toArray ds l h0 hp t0 (fun ivS => DE2 Tryz.prog n w0 mu ops.toArray ds l hp ivS (fun Rs => DN (fun iv bl => DCh Tryz.prog n w0 mu ops.toArray ds l h0 ivS (fun ivE hc => Ops Tryz.prog n w0 mu ops.toArray tl (headFm ds (ivE ++ ivS) ++ l) hc Q) C iv (bl ++ hp)) Rs) E []) S [])
    (hle0 : HpLe h0 hp := by (exact clcntL)) (hds : dstTab ops 0 = ds := by (simp only [dstTab, Nat.reduceAdd, Nat.zero_add]; rfl)) (htl : ops.drop k = tl := by (simp only [List.drop_succ_cons, List.drop_zero, List.drop_nil]; rfl)) (hm : Tryz.prog.follows .mixedOrders = true := by kernel_rfl) (hB : drawECB ops.toArray n k t0 S E C = true := by decide +kernel) (hf : freshB l (dstsOf ops.toArray k) = true := by rfl) : St Tryz.prog n w0 mu (.region id ops.toArray true) l hp Q :=
  st_any hm (st_drawEC k t0 S E C h0 hB hf hle0 hds (by rw [htl]; exact h))
end
section
variable {n : Nat} {w0 : World} {mu : List Nat} {l : Fm} {h0 hp : Hp} {all : Array Oper} {iv : Fm} {t0 i d : Nat} {ds : List (Nat × Nat)} {S : List Nat} {X : Fm → Prop} {ty : TypeId} {pos : String} {af : Array Edge} {v : Value}
theorem sCallA {f : FuncId} {xs : List Operand} {vs : List Value} {tys : Array TypeId} (hc : ∀ w hx, Good w0 mu (hx ++ hp) w → Fn Tryz.prog f vs.toArray w [] (fun u _ => u = v)) (h : DS Tryz.prog n w0 mu all ds l h0 hp t0 X S ((i, v) :: iv)) (ho : all[i]? = some ⟨some d, .call { callee := .value (.func f), args := xs.toArray, argTypes := tys }, ty, pos, af, none⟩ := by rfl) (hwt : Region.waitsFor .any all t0 i = true := by decide +kernel) (hcal : mem calN f = true := by rfl) (hv : evs (depFm ds iv af.toList ++ l) xs = some vs := by rfl) : DS Tryz.prog n w0 mu all ds l h0 hp t0 X (i :: S) iv :=
  ds_a ho hwt (fun hx => x_call (calOk f hcal) hv (fun w hG => hc w hx hG)) h
theorem sCallB {f : FuncId} {xs : List Operand} {vs : List Value} {tys : Array TypeId} (hc : ∀ w hx, Good w0 mu (hx ++ h0) w → Fn Tryz.prog f vs.toArray w [] (fun u _ => u = v)) (h : DS Tryz.prog n w0 mu all ds l h0 hp t0 X S ((i, v) :: iv)) (ho : all[i]? = some ⟨some d, .call { callee := .value (.func f), args := xs.toArray, argTypes := tys }, ty, pos, af, none⟩ := by rfl) (hwt : Region.waitsFor .any all t0 i = false := by decide +kernel) (hcal : mem calN f = true := by rfl) (hv : evs (depFm ds iv af.toList ++ l) xs = some vs := by rfl) : DS Tryz.prog n w0 mu all ds l h0 hp t0 X (i :: S) iv :=
  ds_b ho hwt (fun hx => x_call (calOk f hcal) hv (fun w hG => hc w hx hG)) h
end
section
variable {n : Nat} {w0 : World} {mu : List Nat} {l : Fm} {h0 hc : Hp} {all : Array Oper} {ivS ivE : Fm} {i d : Nat} {ds : List (Nat × Nat)} {r : List Nat} {Y : Fm → Hp → Prop} {ty : TypeId} {pos : String} {af : Array Edge}
theorem cBuild {t : TypeId} {ps : List (Nat × Operand)} {vs : List (Nat × Value)} {z : Value} {pl : List (Nat × Nat)} {zc out out' : Array Value} (h : DCh Tryz.prog n w0 mu all ds l h0 ivS Y r ((i, .agg out') :: ivE) hc) (ho : all[i]? = some ⟨some d, .build t ps.toArray, ty, pos, af, none⟩ := by rfl) (hz : lk Tb.zs t = some z := by rfl) (hzc : z.cells = zc := by (first | ((simp only [Value.cells]) <;> rfl) | rfl)) (hpl : lk Tb.pl t = some pl := by rfl) (hv : evp (depFm ds (ivE ++ ivS) af.toList ++ l) ps = some vs := by rfl) (hf : fl pl zc vs = some out := by rfl) (hn : out = out' := by (first | ((simp only [putAt, Value.cells, List.toList_toArray, List.setIfInBounds_toArray, List.set_cons_zero, List.set_cons_succ, List.drop_succ_cons, List.drop_zero, List.take_succ_cons, List.take_zero, List.cons_append, List.nil_append, List.append_nil]) <;> rfl) | rfl)) : DCh Tryz.prog n w0 mu all ds l h0 ivS Y (i :: r) ivE hc :=
  dc_v ho (fun hx => x_build tb_ok hz hzc hpl hv hf hn) h
theorem cSame {t : TypeId} {x y : Operand} {b sz : Nat} {v : Value} {vs : List Value} {cs : Array Value} {tb : TypeId} (h : DCh Tryz.prog n w0 mu all ds l h0 ivS Y r ivE hc) (ho : all[i]? = some ⟨none, .store t x y, ty, pos, af, none⟩ := by rfl)
    (hx : ev (depFm ds (ivE ++ ivS) af.toList ++ l) x = some (.pointer (some ⟨b, 0, none⟩)) := by rfl) (hm : (⟨b, cs, tb⟩ : Blk) ∈ hc := by (first | (with_reducible apply mh) | (focus ((repeat (first | (with_reducible apply mh) | (with_reducible apply mt) | (with_reducible apply List.mem_append_right))); done)))) (hy : ev (depFm ds (ivE ++ ivS) af.toList ++ l) y = some v := by rfl) (hvc : v.cells = vs.toArray := by (first | ((simp only [Value.cells]) <;> rfl) | rfl)) (hs : lk Tb.sz t = some sz := by rfl) (hl : vs.length = sz := by rfl) (hv1 : vs.all (·.oneCell') = true := by first | rfl | (focus (simp; done))) (hlt : 0 + vs.length ≤ cs.size := by first | omega | (focus (simp; done)) | (focus (simp; omega))) (hput : putAt cs 0 vs = cs := by (first | ((simp only [putAt, Value.cells, List.toList_toArray, List.setIfInBounds_toArray, List.set_cons_zero, List.set_cons_succ, List.drop_succ_cons, List.drop_zero, List.take_succ_cons, List.take_zero, List.cons_append, List.nil_append, List.append_nil]) <;> rfl) | rfl))
    (hle : HpLe h0 hc := by (exact clcntL)) : DCh Tryz.prog n w0 mu all ds l h0 ivS Y (i :: r) ivE hc := by
  refine ⟨_, ho, .inr ⟨rfl, hc, ⟨rfl, rfl, fun a w hk hG K Q' hK => ?_⟩, hle, h⟩⟩
  obtain ⟨s, t', rfl⟩ := List.append_of_mem hm
  have hG' := hG.perm (hp' := ⟨b, cs, tb⟩ :: (s ++ t')) List.perm_middle.symm
  have hb := hG'.here _ (List.mem_cons_self ..)
  have hst := run_storeCells_cells (P := Tryz.prog) b 0 vs 0 w
    (fun j hj => by rw [cell_of_block hb]; have h3 : j < cs.size := by omega
                    simp [h3])
    (fun j _ => free_of_block hb) (fun u hu => (List.all_eq_true.1 hv1) u hu)
  unfold Oper.wp
  have hrun : (execOp a.eval ⟨none, .store t x y, ty, pos, af, none⟩).run Tryz.prog w = .ok .skip (w.setCells b 0 vs) := by
    simp only [execOp, hk.ev hx, hk.ev hy]
    simp only [Nat.add_zero] at hst
    simp [Instr.storeAt, Instr.sureAddr, storeVar, hvc, run_sizeOf (show szOf Tryz.prog t = some vs.length by rw [hl]; exact tb_ok.gsz hs) w, hst]
  rw [hrun]
  have h2 := Good.sets (w := w) vs cs 0 w hG'
  rw [hput] at h2
  exact hK _ (h2.perm List.perm_middle)
end
section
variable {n : Nat} {w0 : World} {mu : List Nat} {l : Fm} {h0 hc : Hp} {all : Array Oper} {ivS ivE : Fm} {i d : Nat} {ds : List (Nat × Nat)} {r : List Nat} {Y : Fm → Hp → Prop} {ty : TypeId} {pos : String} {af : Array Edge}
theorem cPut {t : TypeId} {x y : Operand} {b off sz : Nat} {v : Value} {vs : List Value} {cs cs' : Array Value} {tb : TypeId} {hp' : Hp} (h : DCh Tryz.prog n w0 mu all ds l h0 ivS Y r ivE (⟨b, cs', tb⟩ :: hp')) (ho : all[i]? = some ⟨none, .store t x y, ty, pos, af, none⟩ := by rfl)
    (hx : ev (depFm ds (ivE ++ ivS) af.toList ++ l) x = some (.pointer (some ⟨b, off, none⟩)) := by rfl) (hy : ev (depFm ds (ivE ++ ivS) af.toList ++ l) y = some v := by rfl) (hvc : v.cells = vs.toArray := by (first | ((simp only [Value.cells]) <;> rfl) | rfl)) (hs : lk Tb.sz t = some sz := by rfl) (hl : vs.length = sz := by rfl) (hperm : (⟨b, cs, tb⟩ :: hp').Perm hc := by (first | (with_reducible apply p0) | (with_reducible apply p1) | (with_reducible apply p2) | (with_reducible apply p3) | (with_reducible apply p4) | (with_reducible apply p5))) (hv1 : vs.all (·.oneCell') = true := by first | rfl | (focus (simp; done))) (hlt : off + vs.length ≤ cs.size := by first | omega | (focus (simp; done)) | (focus (simp; omega))) (hput : putAt cs off vs = cs' := by (first | ((simp only [putAt, Value.cells, List.toList_toArray, List.setIfInBounds_toArray, List.set_cons_zero, List.set_cons_succ, List.drop_succ_cons, List.drop_zero, List.take_succ_cons, List.take_zero, List.cons_append, List.nil_append, List.append_nil]) <;> rfl) | rfl))
    (hle : HpLe h0 (⟨b, cs', tb⟩ :: hp') := by (exact clcntL)) : DCh Tryz.prog n w0 mu all ds l h0 ivS Y (i :: r) ivE hc := dc_s tb_ok ho hx hy hvc hs hl hperm hv1 hlt hput hle h
end
section
variable {n : Nat} {w0 : World} {mu : List Nat} {l : Fm} {hp : Hp} {all : Array Oper} {iv : Fm} {i d : Nat} {ds : List (Nat × Nat)} {S : List Nat} {X : Fm → Prop} {ty : TypeId} {pos : String} {af : Array Edge} {v : Value}
theorem s1Call {f : FuncId} {xs : List Operand} {vs : List Value} {tys : Array TypeId} (hc : ∀ w hx, Good w0 mu (hx ++ hp) w → Fn Tryz.prog f vs.toArray w [] (fun u _ => u = v)) (h : DE1 Tryz.prog n w0 mu all ds l hp X S ((i, v) :: iv)) (ho : all[i]? = some ⟨some d, .call { callee := .value (.func f), args := xs.toArray, argTypes := tys }, ty, pos, af, none⟩ := by rfl) (hcal : mem calN f = true := by rfl) (hv : evs (depFm ds iv af.toList ++ l) xs = some vs := by rfl) : DE1 Tryz.prog n w0 mu all ds l hp X (i :: S) iv :=
  de1_s ho (fun hx => x_call (calOk f hcal) hv (fun w hG => hc w hx hG)) h
end
end Go.Proofs.YtiaelhhmlbfkmaaGreat

/- The engine: a drawn region: makers of memory (E), what hangs on them (D and D2, without memory), a chain (C) behind all makers; D and D2 come whenever they may. No program in sight. -/
namespace Go.Proofs.YtiaelhhmlbfkmaaGreat
open Go.RowKit
set_option linter.unusedVariables false
set_option linter.unusedSimpArgs false
section
variable {P : Program} {n : Nat} {w0 : World} {mu : List Nat} {l : Fm} {hp : Hp} {Q : Exit → Fm → Hp → Prop} {all : Array Oper} {kd : Nat → Kd} {val : Ch → Nat → Value} {k : Nat}
theorem headE_run2 {ds : List (Nat × Nat)} (hds : ∀ k d, lk ds k = some d → dstAt all k = some d) {g : Nat} {Q' : Exit → Act → World → Prop} (hk : k ≤ all.size) (hd : dstB all k n = true) (hf : freshB l (dstsOf all k) = true) (hback : backB all = true)
    (hS : ∀ i o v, i < k → all[i]? = some o → kd i = .s v → (∀ c, val c i = v) ∧ ∃ iv', (∀ j u, look iv' j = some u → j < k ∧ ∀ c, val c j = u) ∧ ∀ hx, HyG P n w0 mu all (depFm ds iv' o.after.toList ++ l) (hx ++ hp) o v)
    (hE : ∀ i o R, i < k → all[i]? = some o → kd i = .e R → (∀ c, val c i = (c i).1) ∧ ∃ iv', (∀ j u, look iv' j = some u → j < k ∧ ∀ c, val c j = u) ∧ EoR P n w0 mu all (depFm ds iv' o.after.toList ++ l) hp o R)
    (hD : ∀ c, Valid kd k c → ∀ i o, i < k → all[i]? = some o → kd i = .d → ∃ iv', (∀ j u, look iv' j = some u → j < k ∧ val c j = u) ∧ HyR P n w0 mu (depFm ds iv' o.after.toList ++ l) hp o (val c i))
    (htail : ∀ f c listed, leftOf k listed = f → HeadInv .any all k listed → (∀ i, i < k → isE (kd i) = true → listed.getD i true = true) → ∀ a w, MidE n w0 mu all l hp kd val k c listed a w → wpAny P .any all Q' (f + g) listed a w)
    (hwait : ∀ listed, HeadInv .any all k listed → ∀ i, i < k → isE (kd i) = true → listed.getD i true = false → ∀ t, k ≤ t → t ∉ Region.ready .any all listed) :
    ∀ f c listed a w, leftOf k listed = f → HeadInv .any all k listed → MidE n w0 mu all l hp kd val k c listed a w → wpAny P .any all Q' (f + g) listed a w := by
  intro f
  induction f with
  | zero =>
    intro c listed a w hlf inv hm
    refine htail 0 c listed hlf inv (fun i hi _ => ?_) a w hm
    cases hc : listed.getD i true with
    | true => rfl
    | false =>
      exfalso
      have : i ∈ (List.range k).filter fun i => !listed.getD i true := List.mem_filter.2 ⟨List.mem_range.2 hi, by simp only [hc, Bool.not_false]⟩
      have h2 := List.length_pos_of_mem this
      unfold leftOf at hlf
      omega
  | succ f ih =>
    intro c listed a w hlf inv hm
    by_cases hallE : ∀ i, i < k → isE (kd i) = true → listed.getD i true = true
    · exact htail (f + 1) c listed hlf inv hallE a w hm
    obtain ⟨i0, hi0k, hi0e, hi0⟩ : ∃ i, i < k ∧ isE (kd i) = true ∧ listed.getD i true = false := by
      refine Classical.byContradiction fun hno => hallE fun i hi he => ?_
      cases hc : listed.getD i true with
      | true => rfl
      | false => exact absurd ⟨i, hi, he, hc⟩ hno
    rw [show f + 1 + g = (f + g) + 1 by omega]
    refine ⟨fun hnil => ?_, fun i hi => ?_⟩
    · exfalso
      obtain ⟨i, ⟨hik, hil⟩, hmin⟩ := exists_least (p := fun i => i < k ∧ listed.getD i true = false) ⟨i0, hi0k, hi0⟩
      have hr : i ∈ Region.ready .any all listed := by
        rw [mem_ready]
        have hs : i < all.size := by omega
        refine ⟨hil, all[i], by simp [hs], fun e he hb => ?_⟩
        have hb2 := List.all_eq_true.1 hback i (List.mem_range.2 hs)
        simp only [Array.getElem?_eq_getElem hs] at hb2
        have hb3 := (Array.all_eq_true_iff_forall_mem.1 hb2) e he
        simp only [hb, Bool.not_true, Bool.false_or, Nat.blt_eq] at hb3
        cases hc : listed.getD e.on false with
        | true => rfl
        | false =>
          have h5 := hmin e.on ⟨by omega, getD_in (by rw [inv.size]; omega) hc⟩
          omega
      rw [hnil] at hr; cases hr
    · have hik : i < k := by
        rcases Nat.lt_or_ge i k with h | h
        · exact h
        · exact absurd hi (hwait listed inv i0 hi0k hi0e hi0 i h)
      obtain ⟨hun, o, ho, hall⟩ := mem_ready.1 hi
      have hsz : i < listed.size := by rw [inv.size]; omega
      have hself : ∀ j, j < k → listed.getD j false = true → isE (kd j) = true → c j = c j := fun _ _ _ _ => rfl
      have hgo : ∀ c2 a' w', MidE n w0 mu all l hp kd val k c2 (listed.setIfInBounds i true) a' w' → wpAny P .any all Q' (f + g) (listed.setIfInBounds i true) a' w' := fun c2 a' w' h =>
        ih c2 _ _ _ (by have := left_set hik (by rw [inv.size]; omega) hun; omega) (inv.set hi hik) h
      have hweak : Good w0 mu hp w := hm.good.sub (List.sublist_append_right _ _)
      unfold wpOp
      simp only [ho]
      cases hkd : kd i with
      | s v =>
        obtain ⟨hvc, iv', hiv, hy⟩ := hS i o v hik ho hkd
        have hkn := depFm_lookE (i := i) hds hm hm.valid hself (fun j u hu => ⟨(hiv j u hu).1, (hiv j u hu).2 c⟩) hall
        have hE0 : isE (kd i) = false := by rw [hkd]; rfl
        have hnext : ∀ w', Good w0 mu (blks kd c listed k ++ hp) w' → wpAny P .any all Q' (f + g) (listed.setIfInBounds i true) (a.put o.dst v) w' := fun w' hG' =>
          hgo c _ _ (mide_step hm ho hik hun hsz hd hf hm.valid (fun _ _ => rfl) (by rw [blks_same hE0]; exact hG') (fun c' _ _ => hvc c'))
        have h3 := hy (blks kd c listed k)
        unfold HyG at h3
        cases hg : o.guard with
        | none =>
          rw [hg] at h3
          rw [if_pos (by simp [Region.wanted, hg])]
          exact .inl (h3 a w hkn hm.good _ _ hnext)
        | some jw =>
          obtain ⟨j, want⟩ := jw
          rw [hg] at h3
          obtain ⟨dj, c0, b, u, hj, hb, hdj, hy, hvv⟩ := h3
          have hw := wanted_of hkn hg hj hb hdj
          cases hc : (c0 && wnt b want) with
          | true =>
            rw [hc] at hw hvv
            rw [if_pos hw]
            rw [Bool.and_eq_true] at hc
            rw [show v = u from hvv] at hnext
            exact .inl (hy hc.1 hc.2 a w hkn hm.good _ _ hnext)
          | false =>
            rw [hc] at hw hvv
            rw [if_neg (by rw [hw]; decide)]
            rw [show v = undef from hvv] at hnext
            exact hnext w hm.good
      | e R =>
        obtain ⟨hvc, iv', hiv, hg, hy⟩ := hE i o R hik ho hkd
        have hkn := depFm_lookE (i := i) hds hm hm.valid hself (fun j u hu => ⟨(hiv j u hu).1, (hiv j u hu).2 c⟩) hall
        rw [if_pos (hg _ hkn)]
        refine .inl (hy a w _ hkn hm.good _ _ fun v hn w' hR hG' => ?_)
        refine hgo (fun t => if t = i then (v, hn) else c t) _ _ (mide_step hm ho hik hun hsz hd hf ?_ (fun j hj => by simp [hj]) ?_ ?_)
        · intro j hj R' hR'
          by_cases hji : j = i
          · subst hji
            rw [hkd] at hR'
            cases hR'
            simpa using hR
          · simp only [hji, if_false]
            exact hm.valid j hj R' hR'
        · refine hG'.perm ?_
          rw [← List.append_assoc]
          exact (blks_set (by rw [hkd]; rfl) hun hsz k hik).symm.append_right _
        · intro c' hc' hag
          rw [hvc c', hag i hik (by simp [hsz]) (by rw [hkd]; rfl)]
          simp
      | d =>
        obtain ⟨iv', hiv, hg, hy⟩ := hD c hm.valid i o hik ho hkd
        have hE0 : isE (kd i) = false := by rw [hkd]; rfl
        have hkn := depFm_lookE (i := i) hds hm hm.valid hself hiv hall
        have hrun := hy a w hkn hweak
        rw [if_pos (by simp [Region.wanted, hg])]
        refine .inl ?_
        unfold Oper.wp
        rw [hrun]
        refine hgo c _ _ (mide_step hm ho hik hun hsz hd hf hm.valid (fun _ _ => rfl) (by rw [blks_same hE0]; exact hm.good) (fun c' hc' hag => ?_))
        obtain ⟨iv2, hiv2, hg2, hy2⟩ := hD c' hc' i o hik ho hkd
        have hag' : ∀ j, j < k → listed.getD j false = true → isE (kd j) = true → c' j = c j := fun j hj hl he => hag j hj (getD_set_true hl) he
        have hrun2 := hy2 a w (depFm_lookE (i := i) hds hm hc' hag' hiv2 hall) hweak
        rw [hrun] at hrun2
        simp only [Result.ok.injEq, Next.value.injEq, and_true] at hrun2
        exact hrun2.symm
end
section
variable {P : Program} {n : Nat} {w0 : World} {mu : List Nat} {l : Fm} {h0 hp : Hp} {Q : Exit → Fm → Hp → Prop} {all : Array Oper} {ivS : Fm} {k t0 : Nat} {ds : List (Nat × Nat)}
theorem chain_run2 (hds : ∀ k d, lk ds k = some d → dstAt all k = some d) {g : Nat} {Q' : Exit → Act → World → Prop} {X : Fm → Hp → Prop} (hk : k ≤ all.size) (hd : dstKB all k n = true) (hf : freshB l (dstsOf all k) = true) (hback : backB all = true) (hle0 : HpLe h0 hp)
    (hstb : ∀ i, i < k → dstAt all i = none → i = t0 ∨ Region.waitsFor .any all i t0 = true)
    {dn : Nat → Bool} (hS : ∀ i v, lk ivS i = some v → i < k ∧ (dn i = false → ∃ o iv', all[i]? = some o ∧ Mono iv' ivS ∧ ∀ hx, HyG P n w0 mu all (depFm ds iv' o.after.toList ++ l) (bif Region.waitsFor .any all t0 i then hx ++ hp else hx ++ h0) o v))
    (htail : ∀ ivE h listed, HeadInv .any all k listed → (∀ i, i < k → listed.getD i true = true) → X ivE h → ∀ a w, MidC n w0 mu all l ivS ivE h listed a w → (∀ i v, (i, v) ∈ ivE → i < k) → wpAny P .any all Q' g listed a w)
    (hwait : ∀ listed, HeadInv .any all k listed → ∀ i, i < k → listed.getD i true = false → ∀ t, k ≤ t → t ∉ Region.ready .any all listed) :
    ∀ f r ivE h listed a w, leftOf k listed = f → HeadInv .any all k listed → (∀ i, dn i = true → listed.getD i true = true) → MidC n w0 mu all l ivS ivE h listed a w → (∀ i v, (i, v) ∈ ivE → i < k) → (∀ i ∈ r, i < k ∧ listed.getD i true = false ∧ lk ivS i = none) → r.Nodup → linkB all r = true → (∀ i, i < k → listed.getD i true = false → (∃ v, lk ivS i = some v) ∨ i ∈ r) →
      HpLe h0 h → (listed.getD t0 false = false → HpLe hp h) → DCh P n w0 mu all ds l h0 ivS X r ivE h → wpAny P .any all Q' (f + g) listed a w := by
  intro f
  induction f with
  | zero =>
    intro r ivE h listed a w hlf inv hdone hm hEk hr hnd hlink hcov hle hlep hD
    have hall : ∀ i, i < k → listed.getD i true = true := by
      intro i hi
      cases hc : listed.getD i true with
      | true => rfl
      | false =>
        exfalso
        have : i ∈ (List.range k).filter fun i => !listed.getD i true := List.mem_filter.2 ⟨List.mem_range.2 hi, by simp only [hc, Bool.not_false]⟩
        have h2 := List.length_pos_of_mem this
        unfold leftOf at hlf
        omega
    cases r with
    | nil =>
      rw [Nat.zero_add]
      exact htail ivE h listed inv hall hD a w hm hEk
    | cons c r =>
      have h1 := hr c (List.mem_cons_self ..)
      rw [hall c h1.1] at h1
      exact absurd h1.2.1 (by decide)
  | succ f ih =>
    intro r ivE h listed a w hlf inv hdone hm hEk hr hnd hlink hcov hle hlep hD
    rw [show f + 1 + g = (f + g) + 1 by omega]
    have hex : ∃ i, i < k ∧ listed.getD i true = false := by
      have h2 : 0 < leftOf k listed := by omega
      obtain ⟨i, hi⟩ := List.exists_mem_of_length_pos h2
      rw [List.mem_filter] at hi
      exact ⟨i, List.mem_range.1 hi.1, by simpa using hi.2⟩
    obtain ⟨i0, hi0k, hi0⟩ := hex
    refine ⟨fun hnil => ?_, fun i hi => ?_⟩
    · exfalso
      obtain ⟨i, ⟨hik, hil⟩, hmin⟩ := exists_least (p := fun i => i < k ∧ listed.getD i true = false) ⟨i0, hi0k, hi0⟩
      have hr : i ∈ Region.ready .any all listed := by
        rw [mem_ready]
        have hs : i < all.size := by omega
        refine ⟨hil, all[i], by simp [hs], fun e he hb => ?_⟩
        have hb2 := List.all_eq_true.1 hback i (List.mem_range.2 hs)
        simp only [Array.getElem?_eq_getElem hs] at hb2
        have hb3 := (Array.all_eq_true_iff_forall_mem.1 hb2) e he
        simp only [hb, Bool.not_true, Bool.false_or, Nat.blt_eq] at hb3
        cases hc : listed.getD e.on false with
        | true => rfl
        | false =>
          have h5 := hmin e.on ⟨by omega, getD_in (by rw [inv.size]; omega) hc⟩
          omega
      rw [hnil] at hr; cases hr
    · have hik : i < k := by
        rcases Nat.lt_or_ge i k with h | h
        · exact h
        · exact absurd hi (hwait listed inv i0 hi0k hi0 i h)
      obtain ⟨hun, o, ho, hall⟩ := mem_ready.1 hi
      have hsz : i < listed.size := by rw [inv.size]; omega
      have hunf : listed.getD i false = false := getD_both hun
      have hleft : leftOf k (listed.setIfInBounds i true) = f := by have := left_set hik (by rw [inv.size]; omega) hun; omega
      have hwl : ∀ t, Region.waitsFor .any all i t = true → listed.getD t false = true := fun t ht => by
        obtain ⟨oj, h6, e, he, hb, heq⟩ := Region.waitsFor_spec ht
        rw [ho] at h6; cases h6
        rw [← heq]; exact hall e he hb
      unfold wpOp
      simp only [ho]
      cases hSi : lk ivS i with
      | some v =>
        obtain ⟨_, hyy⟩ := hS i v hSi
        have hdn : dn i = false := by
          cases hc : dn i with
          | false => rfl
          | true => rw [hdone i hc] at hun; cases hun
        obtain ⟨o', iv', ho', hmo, hy⟩ := hyy hdn
        rw [ho] at ho'; cases ho'
        have hkn := midc_knows (o := o) hds hm (iv' := iv') (fun j u hu => .inr (hmo j u (by rw [← look_lk]; exact hu))) hall
        have hir : i ∉ r := fun hm' => by rw [(hr i hm').2.2] at hSi; cases hSi
        have hnext : ∀ w', Good w0 mu h w' → wpAny P .any all Q' (f + g) (listed.setIfInBounds i true) (a.put o.dst v) w' := fun w' hG' => by
          refine ih r ivE h _ _ _ hleft (inv.set hi hik) (fun j hj => getD_set_true' (hdone j hj)) (midc_put hm ho hik hun hsz hd hf hG' (fun j u hu => (hS j u hu).1) hEk (.inl ⟨hSi, rfl⟩)) hEk (fun j hj => ?_) hnd hlink (fun j hj hl => ?_) hle (fun ht => ?_) hD
          · have hji : i ≠ j := fun e => hir (e ▸ hj)
            exact ⟨(hr j hj).1, by rw [getD_set_ne true hji]; exact (hr j hj).2.1, (hr j hj).2.2⟩
          · refine hcov j hj ?_
            by_cases hji : i = j
            · subst hji; simp [hsz] at hl
            · rwa [getD_set_ne true hji] at hl
          · refine hlep ?_
            by_cases hji : i = t0
            · subst hji; exact hunf
            · rwa [getD_set_ne false hji] at ht
        obtain ⟨hx, h3, hper⟩ : ∃ hx, HyG P n w0 mu all (depFm ds iv' o.after.toList ++ l) hx o v ∧ hx.Perm h := by
          cases hwt : Region.waitsFor .any all t0 i with
          | true =>
            have ht0 : listed.getD t0 false = false := by
              cases hc : listed.getD t0 false with
              | false => rfl
              | true =>
                obtain ⟨oj, h6, e, he, hb, heq⟩ := Region.waitsFor_spec hwt
                have := inv.closed t0 oj h6 hc e he hb
                rw [heq, hunf] at this; cases this
            obtain ⟨x, hxp⟩ := (hlep ht0).perm
            have h4 := hy x
            rw [hwt] at h4
            exact ⟨x ++ hp, h4, List.perm_append_comm.trans hxp⟩
          | false =>
            obtain ⟨x, hxp⟩ := hle.perm
            have h4 := hy x
            rw [hwt] at h4
            exact ⟨x ++ h0, h4, List.perm_append_comm.trans hxp⟩
        have hgd : Good w0 mu hx w := hm.good.perm hper
        replace hnext : ∀ w', Good w0 mu hx w' → wpAny P .any all Q' (f + g) (listed.setIfInBounds i true) (a.put o.dst v) w' := fun w' hG' => hnext w' (hG'.perm hper.symm)
        unfold HyG at h3
        cases hg : o.guard with
        | none =>
          rw [hg] at h3
          rw [if_pos (by simp [Region.wanted, hg])]
          exact .inl (h3 a w hkn hgd _ _ hnext)
        | some jw =>
          obtain ⟨j, want⟩ := jw
          rw [hg] at h3
          obtain ⟨dj, c0, b, u, hj, hb, hdj, hy, hvv⟩ := h3
          have hw := wanted_of hkn hg hj hb hdj
          cases hc : (c0 && wnt b want) with
          | true =>
            rw [hc] at hw hvv
            rw [if_pos hw]
            rw [Bool.and_eq_true] at hc
            rw [show v = u from hvv] at hnext
            exact .inl (hy hc.1 hc.2 a w hkn hgd _ _ hnext)
          | false =>
            rw [hc] at hw hvv
            rw [if_neg (by rw [hw]; decide)]
            rw [show v = undef from hvv] at hnext
            exact hnext w hgd
      | none =>
        have hir : i ∈ r := by
          rcases hcov i hik hun with ⟨v, hv⟩ | h
          · rw [hSi] at hv; cases hv
          · exact h
        cases r with
        | nil => cases hir
        | cons c r =>
          have hic : i = c := by
            rcases List.mem_cons.1 hir with h | h
            · exact h
            · exfalso
              obtain ⟨p, hp⟩ := linkB_head hlink h
              rcases hp with ⟨h1, _, h3⟩ | ⟨_, h3⟩ | ⟨p, h1, h3⟩
              · have := (hr p h1).2.1; have h5 := hwl p h3
                rw [getD_both this] at h5; cases h5
              · exact h3
              · have := (hr p h1).2.1; have h5 := hwl p h3
                rw [getD_both this] at h5; cases h5
          subst hic
          rw [List.nodup_cons] at hnd
          have hlink' : linkB all r = true := by
            cases r with
            | nil => rfl
            | cons j r => simp only [linkB, Bool.and_eq_true] at hlink; exact hlink.2
          have hr' : ∀ j ∈ r, j < k ∧ (listed.setIfInBounds i true).getD j true = false ∧ lk ivS j = none := fun j hj => by
            have h1 := hr j (List.mem_cons_of_mem _ hj)
            have hji : i ≠ j := fun e => hnd.1 (e ▸ hj)
            exact ⟨h1.1, by rw [getD_set_ne true hji]; exact h1.2.1, h1.2.2⟩
          have hcov' : ∀ j, j < k → (listed.setIfInBounds i true).getD j true = false → (∃ v, lk ivS j = some v) ∨ j ∈ r := fun j hj hl => by
            by_cases hji : i = j
            · subst hji; simp [hsz] at hl
            · rw [getD_set_ne true hji] at hl
              rcases hcov j hj hl with h | h
              · exact .inl h
              · exact .inr ((List.mem_cons.1 h).resolve_left (Ne.symm hji))
          have hkn := midc_knows (o := o) hds hm (iv' := ivE ++ ivS) (fun j u hu => by
            rw [look_lk, lk_app] at hu
            cases hE : lk ivE j with
            | some v => rw [hE] at hu; exact .inl hu
            | none => rw [hE] at hu; exact .inr hu) hall
          unfold DCh at hD
          obtain ⟨o', ho', hD⟩ := hD
          rw [ho] at ho'; cases ho'
          rcases hD with ⟨hds', R, ⟨hg, hE⟩, hD⟩ | ⟨hdn, h', ⟨hg, _, hSt⟩, hle', hD⟩
          · rw [if_pos (hg _ hkn)]
            refine .inl (hE a w [] hkn (by simpa using hm.good) _ _ fun v hn w' hR hG' => ?_)
            rw [List.nil_append] at hG'
            have hlen : ∀ x : Hp, HpLe x h → HpLe x (hn ++ h) := fun x hx => hpLe_cnt fun b => by have := hx.cnt b; rw [cntB_app]; omega
            refine ih r ((i, v) :: ivE) (hn ++ h) _ _ _ hleft (inv.set hi hik) (fun j hj => getD_set_true' (hdone j hj)) (midc_put hm ho hik hun hsz hd hf hG' (fun j u hu => (hS j u hu).1) hEk (.inr ⟨hSi, rfl⟩)) (fun j u hu => ?_) hr' hnd.2 hlink' hcov' (hlen _ hle) (fun ht => hlen _ (hlep ?_)) (hD v hn hR)
            · rcases List.mem_cons.1 hu with hu | hu
              · cases hu; exact hik
              · exact hEk j u hu
            · by_cases hji : i = t0
              · subst hji; exact hunf
              · rwa [getD_set_ne false hji] at ht
          · rw [if_pos (by simp [Region.wanted, hg])]
            refine .inl (hSt a w hkn hm.good _ _ fun w' hG' => ?_)
            have hmc : MidC n w0 mu all l ivS ivE h' (listed.setIfInBounds i true) a w' := by
              refine ⟨hm.size, hm.defers, hm.has, hG', fun j u hj hl d hdj => ?_, fun j u hj => ⟨getD_set_true (hm.doneE j u hj).1, (hm.doneE j u hj).2⟩⟩
              have hji : i ≠ j := fun e => by subst e; rw [hSi] at hj; cases hj
              exact hm.doneS j u hj (by rwa [getD_set_ne false hji] at hl) d hdj
            refine ih r ivE h' _ _ _ hleft (inv.set hi hik) (fun j hj => getD_set_true' (hdone j hj)) hmc hEk hr' hnd.2 hlink' hcov' hle' (fun ht => ?_) hD
            exfalso
            rcases hstb i hik (by simp [dstAt, ho, hdn]) with e | e
            · subst e
              rw [show (listed.setIfInBounds i true).getD i false = true by simp [hsz]] at ht; cases ht
            · have := getD_set_true (i := i) (hwl t0 e)
              rw [this] at ht; cases ht
end
def drawEDB (ops : Array Oper) (n k : Nat) (S E D D2 C : List Nat) : Bool :=
  match C with
  | [] => false
  | t0 :: _ => decide (k ≤ ops.size) && dstB ops k n && dstKB ops ops.size n && backB ops && coverB ops.size (S ++ E ++ D ++ D2) C && linkB ops C && (S.all fun j => Region.waitsFor .any ops t0 j) && (E.all fun j => Region.waitsFor .any ops t0 j) && (D2 ++ C).all (fun j => Nat.ble k j) &&
    ((List.range ops.size).all fun i => (dstAt ops i).isSome || Nat.beq i t0 || Region.waitsFor .any ops i t0) &&
    ((List.range ops.size).all fun i => Nat.blt i k || (E.all fun j => Region.waitsFor .any ops i j) || (List.range ops.size).any fun j => Nat.ble k j && Region.waitsFor .any ops i j)
theorem leftOf_more {k K : Nat} {listed : Array Bool} (hk : k ≤ K) (h : ∀ t, k ≤ t → t < K → listed.getD t true = false) : leftOf K listed = leftOf k listed + (K - k) := by
  induction K with
  | zero => have : k = 0 := by omega
            subst this; rfl
  | succ K ih =>
    by_cases e : k = K + 1
    · subst e; omega
    · have h1 := ih (by omega) (fun t h2 h3 => h t h2 (by omega))
      have h2 := h K (by omega) (by omega)
      unfold leftOf at h1 ⊢
      rw [List.range_succ, List.filter_append, List.length_append, h1]
      have : ([K].filter fun i => !listed.getD i true) = [K] := by simp only [List.filter_cons, h2, Bool.not_false, List.filter_nil, if_true]
      rw [this, List.length_singleton]
      omega
section
variable {P : Program} {n : Nat} {w0 : World} {mu : List Nat} {l : Fm} {hp : Hp} {Q : Exit → Fm → Hp → Prop} {ds : List (Nat × Nat)}
theorem hyr_lift {lf : Fm} {o : Oper} {v : Value} {h : Hp} (hy : HyR P n w0 mu lf [] o v) : HyR P n w0 mu lf h o v := ⟨hy.1, fun a w hk hG => hy.2 a w hk (hG.sub (List.nil_sublist _))⟩
theorem hyr_g {lf : Fm} {o : Oper} {v : Value} {h : Hp} {all : Array Oper} (hy : HyR P n w0 mu lf [] o v) : HyG P n w0 mu all lf h o v := by
  unfold HyG
  rw [hy.1]
  intro a w hk hG K Q' hK
  unfold Oper.wp
  rw [hy.2 a w hk (hG.sub (List.nil_sublist _))]
  exact hK _ hG
theorem st_drawED0 {ops : List Oper} (k : Nat) (S E D D2 C : List Nat) (hB : drawEDB ops.toArray n k S E D D2 C = true) (hf : freshB l (dstsOf ops.toArray ops.toArray.size) = true) (hf1 : freshB l (dstsOf ops.toArray k) = true) (hsp : splitB k S E D = true) (hds : dstTab ops 0 = ds)
    (h : DE1 P n w0 mu ops.toArray ds l hp (fun ivS => DE2 P n w0 mu ops.toArray ds l hp ivS (fun Rs => ∀ c, AllR c Rs → DE3 P n w0 mu ops.toArray ds l [] (fun iv1 => DE3 P n w0 mu ops.toArray ds l [] (fun iv2 => DCh P n w0 mu ops.toArray ds l [] iv2 (fun ivE hc => Ops P n w0 mu ops.toArray [] (headFm ds (ivE ++ iv2) ++ l) hc Q) C [] (blE E c k ++ hp)) D2 iv1) D (chs c Rs ++ ivS)) E []) S []) : StAny P n w0 mu ops.toArray l hp Q := by
  intro a w hk hG
  simp only [splitB, Bool.and_eq_true, decide_eq_true_eq] at hsp
  obtain ⟨⟨⟨_, hnd⟩, hlt⟩, hcov⟩ := hsp
  have hlt' : ∀ i ∈ S ++ E ++ D, i < k := fun i hi => by have := List.all_eq_true.1 hlt i hi; simpa using this
  have hcov' : ∀ i, i < k → i ∈ S ∨ i ∈ E ∨ i ∈ D := fun i hi => by
    have := mem_mem (List.all_eq_true.1 hcov i (List.mem_range.2 hi))
    simpa [or_assoc] using this
  rw [List.append_assoc, List.nodup_append] at hnd
  obtain ⟨hndS, hndED, hSx⟩ := hnd
  rw [List.nodup_append] at hndED
  obtain ⟨hndE, hndD, hEx⟩ := hndED
  obtain ⟨ivS, h2, huS, hkS, hsS⟩ := de1_get S [] hndS (fun _ _ => rfl) (fun _ _ h => by cases h) h (fun i v hv => by cases hv)
  obtain ⟨Rs, h3, hkE, hsE⟩ := de2_get E [] hndE (fun _ _ => rfl) h2 (fun i R hR => by cases hR)
  simp only [lk, reduceCtorEq, exists_false, or_false] at hkS hkE
  have hES : ∀ i R, lk Rs i = some R → lk ivS i = none := fun i R hR => by
    cases hv : lk ivS i with
    | none => rfl
    | some v => exact absurd rfl (hSx i ((hkS i).1 ⟨v, hv⟩) i (List.mem_append_left _ ((hkE i).1 ⟨R, hR⟩)))
  let kd : Nat → Kd := fun i => match lk Rs i with | some R => .e R | none => match lk ivS i with | some v => .s v | none => .d
  have hkdE : ∀ i R, kd i = .e R ↔ lk Rs i = some R := fun i R => by
    show (match lk Rs i with | some R => Kd.e R | none => match lk ivS i with | some v => .s v | none => .d) = _ ↔ _
    cases lk Rs i with
    | some R' => simp
    | none => cases lk ivS i <;> simp
  have hkdS : ∀ i v, kd i = .s v → lk Rs i = none ∧ lk ivS i = some v := fun i v => by
    show (match lk Rs i with | some R => Kd.e R | none => match lk ivS i with | some v => .s v | none => .d) = _ → _
    cases lk Rs i with
    | some R' => simp
    | none => cases lk ivS i <;> simp
  have hkdD : ∀ i, kd i = .d → lk Rs i = none ∧ lk ivS i = none := fun i => by
    show (match lk Rs i with | some R => Kd.e R | none => match lk ivS i with | some v => .s v | none => .d) = _ → _
    cases lk Rs i with
    | some R' => simp
    | none => cases lk ivS i <;> simp
  have hlkm : ∀ i R, lk Rs i = some R → (i, R) ∈ Rs := fun i R h => lk_mem h
  have hvalid : ∀ c, Valid kd k c → AllR c Rs := fun c hc => allR_of Rs fun p hp => by
    obtain ⟨i, R⟩ := p
    have h1 := (hsE i R hp).1
    exact hc i (hlt' i (List.mem_append_left _ (List.mem_append_right _ ((hkE i).1 ⟨R, h1⟩)))) R ((hkdE i R).2 h1)
  have hex : ∀ c, Valid kd k c → ∃ ivD, DE3 P n w0 mu ops.toArray ds l [] (fun iv2 => DCh P n w0 mu ops.toArray ds l [] iv2 (fun ivE hc => Ops P n w0 mu ops.toArray [] (headFm ds (ivE ++ iv2) ++ l) hc Q) C [] (blE E c k ++ hp)) D2 ivD ∧ Uq ivD ∧ Mono (chs c Rs ++ ivS) ivD ∧ (∀ i, (∃ v, lk ivD i = some v) ↔ i ∈ D ∨ ∃ v, lk (chs c Rs ++ ivS) i = some v) ∧ ∀ i v, lk ivD i = some v → lk (chs c Rs ++ ivS) i = some v ∨ ∃ o iv', ops.toArray[i]? = some o ∧ Mono iv' ivD ∧ HyR P n w0 mu (depFm ds iv' o.after.toList ++ l) [] o v := fun c hc =>
    de3_get D (chs c Rs ++ ivS) hndD (fun i hi => by
      rw [chs_lk]
      have e1 : lk Rs i = none := by
        cases hR : lk Rs i with
        | none => rfl
        | some R => exact absurd rfl (hEx i ((hkE i).1 ⟨R, hR⟩) i hi)
      rw [e1]
      cases hv : lk ivS i with
      | none => rfl
      | some v => exact absurd rfl (hSx i ((hkS i).1 ⟨v, hv⟩) i (List.mem_append_right _ hi))) (fun i v hv => by
      rw [chs_lk]
      rcases List.mem_append.1 hv with hv | hv
      · obtain ⟨rfl, R, hR⟩ := chs_mem Rs hv
        rw [(hsE i R hR).1]
      · have h1 := huS i v hv
        cases hR : lk Rs i with
        | none => exact h1
        | some R => rw [hES i R hR] at h1; cases h1) (fun _ _ h => h) (h3 c (hvalid c hc)) (fun i v hv => .inl hv)
  have hch : ∃ F : Ch → Fm, ∀ c, Valid kd k c → DE3 P n w0 mu ops.toArray ds l [] (fun iv2 => DCh P n w0 mu ops.toArray ds l [] iv2 (fun ivE hc => Ops P n w0 mu ops.toArray [] (headFm ds (ivE ++ iv2) ++ l) hc Q) C [] (blE E c k ++ hp)) D2 (F c) ∧ Uq (F c) ∧ Mono (chs c Rs ++ ivS) (F c) ∧ (∀ i, (∃ v, lk (F c) i = some v) ↔ i ∈ D ∨ ∃ v, lk (chs c Rs ++ ivS) i = some v) ∧ ∀ i v, lk (F c) i = some v → lk (chs c Rs ++ ivS) i = some v ∨ ∃ o iv', ops.toArray[i]? = some o ∧ Mono iv' (F c) ∧ HyR P n w0 mu (depFm ds iv' o.after.toList ++ l) [] o v := by
    classical
    refine ⟨fun c => if hc : Valid kd k c then Classical.choose (hex c hc) else [], fun c hc => ?_⟩
    simp only [hc, dif_pos]
    exact Classical.choose_spec (hex c hc)
  obtain ⟨F, hF⟩ := hch
  let val : Ch → Nat → Value := fun c i => match kd i with | .s v => v | .e _ => (c i).1 | .d => (lk (F c) i).getD undef
  have hvalF : ∀ c, Valid kd k c → ∀ i v, lk (F c) i = some v → val c i = v := fun c hc i v hv => by
    obtain ⟨_, _, hmo, _, _⟩ := hF c hc
    show (match kd i with | .s v => v | .e _ => (c i).1 | .d => (lk (F c) i).getD undef) = v
    cases hkd : kd i with
    | s u =>
      obtain ⟨e1, e2⟩ := hkdS i u hkd
      have := hmo i u (by rw [chs_lk, e1]; exact e2)
      rw [hv] at this; cases this; rfl
    | e R =>
      have e1 := (hkdE i R).1 hkd
      have := hmo i (c i).1 (by rw [chs_lk, e1])
      rw [hv] at this; cases this; rfl
    | d => rw [hv]; rfl
  have hFall : ∀ c, Valid kd k c → ∀ i, i < k → ∃ v, lk (F c) i = some v := fun c hc i hi => by
    obtain ⟨_, _, _, hkk, _⟩ := hF c hc
    rw [hkk i]
    rcases hcov' i hi with h | h | h
    · obtain ⟨v, hv⟩ := (hkS i).2 h
      right
      rw [chs_lk]
      cases lk Rs i with
      | some R => exact ⟨_, rfl⟩
      | none => exact ⟨v, hv⟩
    · obtain ⟨R, hR⟩ := (hkE i).2 h
      right
      rw [chs_lk, hR]
      exact ⟨_, rfl⟩
    · exact .inl h
  have hvalS : ∀ i v, lk ivS i = some v → i < k ∧ ∀ c, val c i = v := fun i v hv => by
    refine ⟨hlt' i (List.mem_append_left _ (List.mem_append_left _ ((hkS i).1 ⟨v, hv⟩))), fun c => ?_⟩
    show (match kd i with | .s v => v | .e _ => (c i).1 | .d => (lk (F c) i).getD undef) = v
    have : kd i = .s v := by
      show (match lk Rs i with | some R => Kd.e R | none => match lk ivS i with | some v => .s v | none => .d) = _
      cases hR : lk Rs i with
      | some R => rw [hES i R hR] at hv; cases hv
      | none => rw [hv]
    rw [this]
  cases C with
  | nil => simp [drawEDB] at hB
  | cons t0 C' =>
  simp only [drawEDB, Bool.and_eq_true, decide_eq_true_eq] at hB
  obtain ⟨⟨⟨⟨⟨⟨⟨⟨⟨⟨hks, hd⟩, hdK⟩, hback⟩, hcoverK⟩, hlink⟩, hSt⟩, hEt⟩, hge⟩, hstb⟩, hwt⟩ := hB
  simp only [coverB, Bool.and_eq_true, decide_eq_true_eq] at hcoverK
  obtain ⟨⟨hndK, hltK⟩, hcovK⟩ := hcoverK
  have hgeK : ∀ j, j ∈ D2 ++ t0 :: C' → k ≤ j := fun j hj => by have := List.all_eq_true.1 hge j hj; simpa using this
  have hdsl : ∀ i d, lk ds i = some d → dstAt ops.toArray i = some d := fun i d h => by rw [← hds] at h; have := (dstTab_ok ops 0 i d h).2; simpa [dstAt] using this
  have hinh : ∃ c0 : Ch, Valid kd k c0 := by
    have h1 : ∀ i, ∃ x : Value × Hp, ∀ R, kd i = .e R → R x.1 x.2 := fun i => by
      cases hR : lk Rs i with
      | none => exact ⟨(undef, []), fun R h => by rw [(hkdE i R).1 h] at hR; cases hR⟩
      | some R =>
        obtain ⟨_, o, _, _, v, hn, hv⟩ := hsE i R (hlkm i R hR)
        exact ⟨(v, hn), fun R' h => by rw [(hkdE i R').1 h] at hR; cases hR; exact hv⟩
    exact ⟨fun i => Classical.choose (h1 i), fun i hi R hR => Classical.choose_spec (h1 i) R hR⟩
  obtain ⟨c0, hc0⟩ := hinh
  have inv0 : HeadInv .any ops.toArray k (Array.replicate ops.toArray.size false) :=
    ⟨by simp, fun j oj _ hl => (by rw [getD_replicate_false] at hl; cases hl), fun t _ ht => getD_in (by simpa using ht) (getD_replicate_false _ _)⟩
  have hleft : leftOf k (Array.replicate ops.toArray.size false) = k := by
    unfold leftOf
    rw [List.filter_eq_self.2]
    · simp
    · intro i hi
      have hi' : i < k := by simpa using hi
      have : (Array.replicate ops.toArray.size false).getD i true = false := getD_in (by simp at hks ⊢; omega) (getD_replicate_false _ _)
      simp only [this, Bool.not_false]
  have hbl0 : ∀ m, blks kd c0 (Array.replicate ops.toArray.size false) m = [] := by
    intro m
    induction m with
    | zero => rfl
    | succ m ih => simp only [blks, ih, blkAt, getD_replicate_false, Bool.and_false, cond_false, List.append_nil]
  have hisE : ∀ i, i < k → isE (kd i) = mem E i := fun i hi => by
    cases hkd : kd i with
    | e R => rw [mem_of ((hkE i).1 ⟨R, (hkdE i R).1 hkd⟩)]; rfl
    | s v =>
      cases hmm : mem E i with
      | false => rfl
      | true => obtain ⟨R, hR⟩ := (hkE i).2 (mem_mem hmm); rw [(hkdE i R).2 hR] at hkd; cases hkd
    | d =>
      cases hmm : mem E i with
      | false => rfl
      | true => obtain ⟨R, hR⟩ := (hkE i).2 (mem_mem hmm); rw [(hkdE i R).2 hR] at hkd; cases hkd
  have key := headE_run2 hdsl (P := P) (n := n) (w0 := w0) (mu := mu) (l := l) (hp := hp) (all := ops.toArray) (kd := kd) (val := val) (k := k) (g := ops.toArray.size - k) (Q' := QQ n w0 mu Q) hks hd hf1 hback
    (fun i o v hi ho hkd => by
      obtain ⟨e1, e2⟩ := hkdS i v hkd
      obtain ⟨o', iv', h1, h2, h3⟩ := hsS i v e2
      rw [ho] at h1; cases h1
      exact ⟨(hvalS i v e2).2, iv', fun j u hu => hvalS j u (h2 j u (by rw [← look_lk]; exact hu)), h3⟩)
    (fun i o R hi ho hkd => by
      have e1 := (hkdE i R).1 hkd
      obtain ⟨_, o', h1, h2, _⟩ := hsE i R (hlkm i R e1)
      rw [ho] at h1; cases h1
      refine ⟨fun c => ?_, ivS, fun j u hu => hvalS j u (by rw [← look_lk]; exact hu), h2⟩
      show (match kd i with | .s v => v | .e _ => (c i).1 | .d => (lk (F c) i).getD undef) = _
      rw [hkd])
    (fun c hcv i o hi ho hkd => by
      obtain ⟨e1, e2⟩ := hkdD i hkd
      obtain ⟨v, hv⟩ := hFall c hcv i hi
      obtain ⟨_, _, _, _, hsp⟩ := hF c hcv
      rw [hvalF c hcv i v hv]
      rcases hsp i v hv with h0 | ⟨o', iv', h1, h2, h3⟩
      · rw [chs_lk, e1] at h0; rw [e2] at h0; cases h0
      · rw [ho] at h1; cases h1
        refine ⟨iv', fun j u hu => ?_, hyr_lift h3⟩
        have hj := h2 j u (by rw [← look_lk]; exact hu)
        refine ⟨?_, hvalF c hcv j u hj⟩
        obtain ⟨_, _, _, hkk, _⟩ := hF c hcv
        rcases (hkk j).1 ⟨u, hj⟩ with h | ⟨v', h⟩
        · exact hlt' j (List.mem_append_right _ h)
        · rw [chs_lk] at h
          cases hR : lk Rs j with
          | some R => exact hlt' j (List.mem_append_left _ (List.mem_append_right _ ((hkE j).1 ⟨R, hR⟩)))
          | none => rw [hR] at h; exact (hvalS j v' h).1)
    (fun f c listed hlf inv hallE a w hmid => ?_)
    (fun listed inv i hi hie hun t ht => ?_)
    k c0 _ a { w with drawn := w.drawn + 1 } hleft inv0 ⟨hk.size, hk.defers, hk.has, hc0, by rw [hbl0]; exact hG.drawn _, fun i _ hl => (by rw [getD_replicate_false] at hl; cases hl)⟩
  · have e : k + (ops.toArray.size - k) = ops.toArray.size := by omega
    rw [e] at key
    exact key
  · obtain ⟨hX, huq, hmo, hkk, hsp1⟩ := hF c hmid.valid
    have hFk : ∀ i v, lk (F c) i = some v → i < k := fun i v hv => by
      rcases (hkk i).1 ⟨v, hv⟩ with h | ⟨v', h⟩
      · exact hlt' i (List.mem_append_right _ h)
      · rw [chs_lk] at h
        cases hR : lk Rs i with
        | some R => exact hlt' i (List.mem_append_left _ (List.mem_append_right _ ((hkE i).1 ⟨R, hR⟩)))
        | none => rw [hR] at h; exact (hvalS i v' h).1
    have hndK' := hndK
    rw [List.nodup_append, List.nodup_append] at hndK'
    obtain ⟨⟨_, hndD2, hD2x⟩, hndC, hCx⟩ := hndK'
    obtain ⟨iv2, hY, hu2, hmo2, hkk2, hsp2⟩ := de3_get (base := F c) D2 (F c) hndD2 (fun i hi => by
      cases hv : lk (F c) i with
      | none => rfl
      | some v =>
        have h1 := hFk i v hv
        have h2 := hgeK i (List.mem_append_left _ hi)
        omega) huq (fun _ _ h => h) hX (fun i v hv => .inl hv)
    have hgetK : ∀ j, k ≤ j → j < ops.toArray.size → listed.getD j true = false := fun j h1 h2 => inv.tail j h1 h2
    have hltK' : ∀ i ∈ (S ++ E ++ D ++ D2) ++ t0 :: C', i < ops.toArray.size := fun i hi => by have := List.all_eq_true.1 hltK i hi; simpa using this
    have hiv2 : ∀ i v, lk iv2 i = some v → i < ops.toArray.size := fun i v hv => by
      rcases (hkk2 i).1 ⟨v, hv⟩ with h | ⟨v', h⟩
      · exact hltK' i (List.mem_append_left _ (List.mem_append_right _ h))
      · have := hFk i v' h; omega
    have invK : HeadInv .any ops.toArray ops.toArray.size listed := ⟨inv.size, inv.closed, fun t h1 h2 => by omega⟩
    have hlfK : leftOf ops.toArray.size listed = f + (ops.toArray.size - k) := by rw [leftOf_more hks hgetK, hlf]
    have hbe : ∀ m, m ≤ k → blks kd c listed m = blE E c m := by
      intro m
      induction m with
      | zero => intro _; rfl
      | succ m ih =>
        intro hm
        simp only [blks, blE, blkAt]
        rw [ih (by omega), hisE m (by omega)]
        cases hme : mem E m with
        | false => rfl
        | true =>
          have h1 := hallE m (by omega) (by rw [hisE m (by omega)]; exact hme)
          have h2 : listed.getD m false = true := by
            cases hcc : listed.getD m false with
            | true => rfl
            | false => rw [getD_in (by rw [inv.size]; omega) hcc] at h1; cases h1
          rw [h2]; rfl
    have hgood : Good w0 mu (blE E c k ++ hp) w := by rw [← hbe k (Nat.le_refl _)]; exact hmid.good
    have hmidC : MidC n w0 mu ops.toArray l iv2 [] (blE E c k ++ hp) listed a w := by
      refine ⟨hmid.size, hmid.defers, hmid.has, hgood, fun i v hv hl d hdd => ?_, fun i v hv => by cases hv⟩
      have hik : i < k := by
        rcases Nat.lt_or_ge i k with h | h
        · exact h
        · have h1 := hgetK i h (hiv2 i v hv)
          rw [getD_both h1] at hl; cases hl
      obtain ⟨v', hv'⟩ := hFall c hmid.valid i hik
      have h1 := hmo2 i v' hv'
      rw [hv] at h1; cases h1
      rw [hmid.done i hik hl c hmid.valid (fun _ _ _ _ => rfl) d hdd]
      exact hvalF c hmid.valid i v hv'
    have key2 := chain_run2 hdsl (P := P) (n := n) (w0 := w0) (mu := mu) (l := l) (hp := hp) (h0 := []) (all := ops.toArray) (ivS := iv2) (k := ops.toArray.size) (t0 := t0) (g := 0) (Q' := QQ n w0 mu Q) (X := fun ivE hc => Ops P n w0 mu ops.toArray [] (headFm ds (ivE ++ iv2) ++ l) hc Q) (dn := mem E) (Nat.le_refl _) hdK hf hback (hpLe_cnt fun b => by simp [cntB])
      (fun i hi hdn => by
        have := List.all_eq_true.1 hstb i (List.mem_range.2 hi)
        rw [hdn] at this
        simp only [Option.isSome_none, Bool.false_or, Bool.or_eq_true] at this
        rcases this with h | h
        · exact .inl (Nat.eq_of_beq_eq_true h)
        · exact .inr h)
      (fun i v hv => ⟨hiv2 i v hv, fun hne => ?_⟩)
      (fun ivE h listed inv hall hX a w hmid hEk => ?_)
      (fun listed inv i hi hun t ht hr => by
        obtain ⟨_, o, ho, _⟩ := mem_ready.1 hr
        have := (Array.getElem?_eq_some_iff.1 ho).1
        omega)
      (f + (ops.toArray.size - k)) (t0 :: C') [] (blE E c k ++ hp) listed a w hlfK invK (fun i hi => hallE i (hlt' i (List.mem_append_left _ (List.mem_append_right _ (mem_mem hi)))) (by rw [hisE i (hlt' i (List.mem_append_left _ (List.mem_append_right _ (mem_mem hi))))]; exact hi)) hmidC (fun i v hv => by cases hv)
      (fun i hi => ⟨hltK' i (List.mem_append_right _ hi), hgetK i (hgeK i (List.mem_append_right _ hi)) (hltK' i (List.mem_append_right _ hi)), ?_⟩) hndC hlink (fun i hi hl => ?_) (hpLe_cnt fun b => by simp [cntB]) (fun _ => HpLe.right _ _) hY
    · exact key2
    · rcases hsp2 i v hv with h0 | ⟨o, iv', h1, h2, h3⟩
      · rcases hsp1 i v h0 with h0 | ⟨o, iv', h1, h2, h3⟩
        · rw [chs_lk] at h0
          cases hR : lk Rs i with
          | some R =>
            rw [mem_of ((hkE i).1 ⟨R, hR⟩)] at hne; cases hne
          | none =>
            rw [hR] at h0
            obtain ⟨o, iv', h1, h2, h3⟩ := hsS i v h0
            refine ⟨o, iv', h1, fun j u hu => ?_, fun hx => ?_⟩
            · refine hmo2 j u (hmo j u ?_)
              have h4 := h2 j u hu
              rw [chs_lk]
              cases hR2 : lk Rs j with
              | some R2 => rw [hES j R2 hR2] at h4; cases h4
              | none => exact h4
            · rw [List.all_eq_true.1 hSt i ((hkS i).1 ⟨v, h0⟩)]
              exact h3 hx
        · exact ⟨o, iv', h1, fun j u hu => hmo2 j u (h2 j u hu), fun hx => hyr_g h3⟩
      · exact ⟨o, iv', h1, h2, fun hx => hyr_g h3⟩
    · have hknows : Knows n (headFm ds (ivE ++ iv2) ++ l) a := by
        refine ⟨hmid.size, hmid.defers, fun t v ht => ?_⟩
        rcases look_append ht with ht | ⟨_, ht⟩
        · obtain ⟨j, h1, h2⟩ := headFm_mem (look_mem ht)
          rcases List.mem_append.1 h1 with h1 | h1
          · exact (hmid.doneE j v h1).2 t (hdsl _ _ h2)
          · have hj := hu2 j v h1
            have hjk := hiv2 j v hj
            refine hmid.doneS j v hj ?_ t (hdsl _ _ h2)
            have h5 := hall j hjk
            cases hcc : listed.getD j false with
            | true => rfl
            | false => rw [getD_in (by rw [inv.size]; omega) hcc] at h5; cases h5
        · exact hmid.has t v ht
      refine ⟨?_, hX a w hknows hmid.good⟩
      rw [List.eq_nil_iff_forall_not_mem]
      intro i hi
      obtain ⟨hun, o, ho, _⟩ := mem_ready.1 hi
      rw [hall i (Array.getElem?_eq_some_iff.1 ho).1] at hun; cases hun
    · cases hv : lk iv2 i with
      | none => rfl
      | some v =>
        exfalso
        have h2 := hgeK i (List.mem_append_right _ hi)
        rcases (hkk2 i).1 ⟨v, hv⟩ with h | ⟨v', h⟩
        · exact hCx i (List.mem_append_right _ h) i hi rfl
        · have := hFk i v' h; omega
    · have h1 := mem_mem (List.all_eq_true.1 hcovK i (List.mem_range.2 hi))
      rcases List.mem_append.1 h1 with h1 | h1
      · left
        rcases List.mem_append.1 h1 with h1 | h1
        · obtain ⟨v, hv⟩ := hFall c hmid.valid i (hlt' i h1)
          exact ⟨v, hmo2 i v hv⟩
        · exact (hkk2 i).2 (.inl h1)
      · exact .inr h1
  · intro hr
    obtain ⟨_, o, ho, hall⟩ := mem_ready.1 hr
    have hts : t < ops.toArray.size := (Array.getElem?_eq_some_iff.1 ho).1
    have hwl : ∀ j, Region.waitsFor .any ops.toArray t j = true → listed.getD j false = true := fun j hj => by
      obtain ⟨oj, h6, e, he, hb, heq⟩ := Region.waitsFor_spec hj
      rw [ho] at h6; cases h6
      rw [← heq]; exact hall e he hb
    have h1 := List.all_eq_true.1 hwt t (List.mem_range.2 hts)
    simp only [Bool.or_eq_true] at h1
    rcases h1 with (h1 | h1) | h1
    · have : t < k := by simpa using h1
      omega
    · have h2 := hwl i (List.all_eq_true.1 h1 i (mem_mem (by rw [← hisE i hi]; exact hie)))
      rw [getD_both hun] at h2; cases h2
    · obtain ⟨j, hj, h2⟩ := List.any_eq_true.1 h1
      rw [Bool.and_eq_true] at h2
      have h3 := hwl j h2.2
      rw [getD_both (inv.tail j (by simpa using h2.1) (List.mem_range.1 hj))] at h3; cases h3
theorem st_drawED {ops : List Oper} (k : Nat) (S E D D2 C : List Nat) (hB : drawEDB ops.toArray n k S E D D2 C = true) (hf : freshB l (dstsOf ops.toArray ops.toArray.size) = true) (hf1 : freshB l (dstsOf ops.toArray k) = true) (hsp : splitB k S E D = true) (hds : dstTab ops 0 = ds)
    (h : DE1 P n w0 mu ops.toArray ds l hp (fun ivS => DE2 P n w0 mu ops.toArray ds l hp ivS (fun Rs => DN (fun iv bl => DE3 P n w0 mu ops.toArray ds l [] (fun iv1 => DE3 P n w0 mu ops.toArray ds l [] (fun iv2 => DCh P n w0 mu ops.toArray ds l [] iv2 (fun ivE hc => Ops P n w0 mu ops.toArray [] (headFm ds (ivE ++ iv2) ++ l) hc Q) C [] (bl ++ hp)) D2 iv1) D (iv ++ ivS)) Rs) E []) S []) : StAny P n w0 mu ops.toArray l hp Q := by
  refine st_drawED0 k S E D D2 C hB hf hf1 hsp hds (de1_mono (fun ivS h2 => de2_mono E [] (fun Rs e h3 c hc => ?_) h2) S [] h)
  have := dn_c Rs _ c h3 hc
  have he : blE E c k = hpK c (Rs.map (·.1)) := by
    simp only [splitB, Bool.and_eq_true, decide_eq_true_eq] at hsp
    rw [blE_hpK, ← hsp.1.1.1, e]; simp
  rw [he]
  exact this
end
set_option maxRecDepth 20000
section
variable {n : Nat} {w0 : World} {mu : List Nat} {l : Fm} {hp : Hp} {Q : Exit → Fm → Hp → Prop} {ds : List (Nat × Nat)}
/-- A region that draws its order: makers E, what hangs on them D, behind all makers a chain C; D2 behind it. -/
theorem drawED {id : Nat} {ops : List Oper} (k : Nat) (S E D D2 C : List Nat) (h : DE1 Tryz.prog n w0 mu ops.toArray ds l hp (fun ivS => DE2 Tryz.prog n w0 mu ops.toArray ds l hp ivS (fun Rs => DN (fun iv bl => DE3 Tryz.prog n w0 mu ops.toArray ds l [] (fun iv1 => DE3 Tryz.prog n w0 mu ops.toArray ds l [] (fun iv2 => DCh Tryz.prog n w0 mu ops.toArray ds l [] iv2 (fun ivE hc => Ops Tryz.prog n w0 mu ops.toArray [] (headFm ds (ivE ++ iv2) ++ l) hc Q) C [] (bl ++ hp)) D2 iv1) D (iv ++ ivS)) Rs) E []) S [])
    (hds : dstTab ops 0 = ds := by (simp only [dstTab, Nat.reduceAdd, Nat.zero_add]; rfl)) (hm : Tryz.prog.follows .mixedOrders = true := by kernel_rfl) (hB : drawEDB ops.toArray n k S E D D2 C = true := by decide +kernel) (hf : freshB l (dstsOf ops.toArray ops.toArray.size) = true := by rfl) (hf1 : freshB l (dstsOf ops.toArray k) = true := by rfl) (hsp : splitB k S E D = true := by decide +kernel) : St Tryz.prog n w0 mu (.region id ops.toArray true) l hp Q :=
  st_any hm (st_drawED k S E D D2 C hB hf hf1 hsp hds h)
end
end Go.Proofs.YtiaelhhmlbfkmaaGreat
