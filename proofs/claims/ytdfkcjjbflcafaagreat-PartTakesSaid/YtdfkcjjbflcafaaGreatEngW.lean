/- The engine: slices of one's own that are written: nil, or rows in a block of their own. -/
import Derived.Test.YtdfkcjjbflcafaaGreatPartQ
namespace Go.Proofs.YtdfkcjjbflcafaaGreat
open Go.RowKit
set_option linter.unusedVariables false
set_option linter.unusedSimpArgs false
set_option maxRecDepth 20000
theorem putAt_size : ∀ (vs : List Value) (cs : Array Value) (o : Nat), (putAt cs o vs).size = cs.size := by
  intro vs
  induction vs with
  | nil => intro cs o; rfl
  | cons v r ih => intro cs o; rw [putAt, ih]; simp
theorem putAt_list : ∀ (vs : List Value) (cs : Array Value) (o : Nat), o + vs.length ≤ cs.size → (putAt cs o vs).toList = cs.toList.take o ++ vs ++ cs.toList.drop (o + vs.length) := by
  intro vs
  induction vs with
  | nil => intro cs o h; simp [putAt]
  | cons v r ih =>
    intro cs o h
    simp only [List.length_cons] at h
    rw [putAt, ih _ _ (by simp; omega)]
    simp only [Array.toList_setIfInBounds]
    have ho : o < cs.toList.length := by simp; omega
    have h1 : (cs.toList.take o).length = o := by simp; omega
    rw [List.set_eq_take_append_cons_drop, if_pos ho, List.take_append, List.drop_append, h1]
    have e1 : o + 1 - o = 1 := by omega
    have e2 : o + 1 + r.length - o = r.length + 1 := by omega
    rw [e1, e2, List.take_of_length_le (show (cs.toList.take o).length ≤ o + 1 by omega), List.drop_eq_nil_of_le (show (cs.toList.take o).length ≤ o + 1 + r.length by omega)]
    simp only [List.take_succ_cons, List.take_zero, List.nil_append, List.drop_succ_cons, List.drop_drop, List.append_assoc, List.cons_append, List.length_cons]
    rw [show o + 1 + r.length = o + (r.length + 1) by omega]
theorem flatten_len {α : Type} {sz : Nat} : ∀ (xs : List (List α)), (∀ c ∈ xs, c.length = sz) → xs.flatten.length = xs.length * sz := by
  intro xs
  induction xs with
  | nil => intro _; simp
  | cons x r ih =>
    intro h
    rw [List.flatten_cons, List.length_append, ih (fun c hc => h c (List.mem_cons_of_mem _ hc)), h x (List.mem_cons_self ..), List.length_cons, Nat.succ_mul, Nat.add_comm]
/-- A row's cell. -/
theorem Row.nth {g cap sz n : Nat} {cur : Array Value} {xs : List (List Value)} (h : Row g cap cur sz n xs.flatten) (hall : ∀ c ∈ xs, c.length = sz) {i k : Nat} {c : List Value} {u : Value} (hi : xs[i]? = some c) (hk : c[k]? = some u) : Proofs.YtdfkcjjbflcafaaGreat.nth cur.toList (i * sz + k) = some u := by
  refine nth_of_row (n := sz) (c := c) ?_ hk
  have hf := flatten_row hall hi
  rw [← h.take] at hf
  have hlt : i < xs.length := (List.getElem?_eq_some_iff.1 hi).1
  have hn : xs.length * sz = n * sz := by rw [← flatten_len xs hall, h.len]
  have hle : i * sz + sz ≤ n * sz := by rw [← hn, ← Nat.succ_mul]; exact Nat.mul_le_mul_right _ hlt
  rw [List.drop_take, List.take_take, Nat.min_eq_left (by omega)] at hf
  exact hf
/-- Some cells of a row written. -/
theorem Row.put {g cap sz n : Nat} {cur : Array Value} {xs : List (List Value)} (h : Row g cap cur sz n xs.flatten) (hall : ∀ c ∈ xs, c.length = sz) {i k : Nat} {c vs : List Value} (hi : xs[i]? = some c) (hk : k + vs.length ≤ sz) :
    Row g cap (putAt cur (i * sz + k) vs) sz n (xs.set i (c.take k ++ vs ++ c.drop (k + vs.length))).flatten := by
  have hlt : i < xs.length := (List.getElem?_eq_some_iff.1 hi).1
  have hc : xs[i] = c := (List.getElem?_eq_some_iff.1 hi).2
  have hcl : c.length = sz := hall c (List.mem_of_getElem? hi)
  have hn : xs.length * sz = n * sz := by rw [← flatten_len xs hall, h.len]
  have hle : i * sz + sz ≤ n * sz := by rw [← hn, ← Nat.succ_mul]; exact Nat.mul_le_mul_right _ hlt
  have hcap : n * sz ≤ cap * sz := Nat.mul_le_mul_right _ h.le
  have hsz := h.size
  have hxs : xs = xs.take i ++ c :: xs.drop (i + 1) := by
    rw [← hc]; simp
  have hset : xs.set i (c.take k ++ vs ++ c.drop (k + vs.length)) = xs.take i ++ (c.take k ++ vs ++ c.drop (k + vs.length)) :: xs.drop (i + 1) := by
    rw [List.set_eq_take_append_cons_drop, if_pos hlt]
  have hA : ((xs.take i).flatten).length = i * sz := by
    rw [flatten_len (xs.take i) (fun c hc => hall c (List.mem_of_mem_take hc)), List.length_take, Nat.min_eq_left (by omega)]
  have hcur : cur.toList = (xs.take i).flatten ++ (c ++ ((xs.drop (i + 1)).flatten ++ cur.toList.drop (n * sz))) := by
    have h1 := List.take_append_drop (n * sz) cur.toList
    rw [h.take] at h1
    conv => lhs; rw [← h1, hxs]
    rw [List.flatten_append, List.flatten_cons, List.append_assoc, List.append_assoc]
  have hfl : (xs.set i (c.take k ++ vs ++ c.drop (k + vs.length))).flatten = (xs.take i).flatten ++ ((c.take k ++ vs ++ c.drop (k + vs.length)) ++ (xs.drop (i + 1)).flatten) := by
    rw [hset, List.flatten_append, List.flatten_cons]
  have hdl : ((xs.drop (i + 1)).flatten).length = n * sz - (i * sz + sz) := by
    rw [flatten_len (xs.drop (i + 1)) (fun c hc => hall c (List.mem_of_mem_drop hc)), List.length_drop, Nat.sub_mul, hn, Nat.succ_mul]
  refine ⟨?_, h.le, h.max, by rw [putAt_size]; exact hsz, ?_⟩
  · rw [hfl]
    simp only [List.length_append, hA, hdl, List.length_take, List.length_drop, hcl]
    omega
  · rw [putAt_list _ _ _ (by omega), hfl]
    conv => lhs; rw [hcur]
    have hB : (c ++ ((xs.drop (i + 1)).flatten ++ cur.toList.drop (n * sz))).take k = c.take k := by rw [List.take_append, show k - c.length = 0 by omega]; simp
    have hC : (c ++ ((xs.drop (i + 1)).flatten ++ cur.toList.drop (n * sz))).drop (k + vs.length) = c.drop (k + vs.length) ++ ((xs.drop (i + 1)).flatten ++ cur.toList.drop (n * sz)) := by rw [List.drop_append, show k + vs.length - c.length = 0 by omega]; simp
    have hT : ((xs.take i).flatten ++ (c ++ ((xs.drop (i + 1)).flatten ++ cur.toList.drop (n * sz)))).take (i * sz + k) = (xs.take i).flatten ++ c.take k := by
      rw [List.take_append, hA, List.take_of_length_le (by omega), show i * sz + k - i * sz = k by omega, hB]
    have hD : ((xs.take i).flatten ++ (c ++ ((xs.drop (i + 1)).flatten ++ cur.toList.drop (n * sz)))).drop (i * sz + k + vs.length) = c.drop (k + vs.length) ++ ((xs.drop (i + 1)).flatten ++ cur.toList.drop (n * sz)) := by
      rw [List.drop_append, hA, List.drop_eq_nil_of_le (by omega), show i * sz + k + vs.length - i * sz = k + vs.length by omega, hC]; simp
    rw [hT, hD]
    have : (xs.take i).flatten ++ c.take k ++ vs ++ (c.drop (k + vs.length) ++ ((xs.drop (i + 1)).flatten ++ cur.toList.drop (n * sz))) = ((xs.take i).flatten ++ (c.take k ++ vs ++ c.drop (k + vs.length) ++ (xs.drop (i + 1)).flatten)) ++ cur.toList.drop (n * sz) := by simp
    rw [this]
    refine List.take_left' ?_
    simp only [List.length_append, hA, hdl, List.length_take, List.length_drop, hcl]
    omega
/-! Blocks counted: what is a permutation, what is a part. -/
open Classical in
noncomputable def oneB (a e : Blk) : Nat := if e = a then 1 else 0
noncomputable def cntB (a : Blk) : Hp → Nat
  | [] => 0
  | e :: r => oneB a e + cntB a r
theorem cntB_nil (a : Blk) : cntB a [] = 0 := rfl
theorem cntB_cons (a e : Blk) (r : Hp) : cntB a (e :: r) = oneB a e + cntB a r := rfl
theorem cntB_app (a : Blk) : ∀ (h r : Hp), cntB a (h ++ r) = cntB a h + cntB a r := by
  intro h
  induction h with
  | nil => intro r; simp [cntB]
  | cons e h ih => intro r; rw [List.cons_append, cntB_cons, cntB_cons, ih]; omega
theorem oneB_self (a : Blk) : oneB a a = 1 := by simp [oneB]
theorem cntB_pos {a : Blk} : ∀ {h : Hp}, 0 < cntB a h → a ∈ h := by
  intro h
  induction h with
  | nil => intro h; simp [cntB] at h
  | cons e r ih =>
    intro h
    by_cases he : e = a
    · subst he; exact List.mem_cons_self ..
    · rw [cntB_cons, show oneB a e = 0 by simp [oneB, he]] at h
      exact List.mem_cons_of_mem _ (ih (by omega))
theorem mem_perm {a : Blk} : ∀ {h : Hp}, a ∈ h → ∃ r, (a :: r).Perm h := by
  intro h hm
  obtain ⟨s, t, rfl⟩ := List.append_of_mem hm
  exact ⟨s ++ t, List.perm_middle.symm⟩
theorem cntB_perm {a : Blk} {h r : Hp} (hp : h.Perm r) : cntB a h = cntB a r := by
  induction hp with
  | nil => rfl
  | cons x _ ih => rw [cntB_cons, cntB_cons, ih]
  | swap x y l => rw [cntB_cons, cntB_cons, cntB_cons, cntB_cons]; omega
  | trans _ _ h1 h2 => rw [h1, h2]
theorem hpLe_cnt : ∀ {r h : Hp}, (∀ a, cntB a r ≤ cntB a h) → HpLe r h := by
  intro r
  induction r with
  | nil => intros; trivial
  | cons e r ih =>
    intro h hc
    have h1 := hc e
    rw [cntB_cons, oneB_self] at h1
    obtain ⟨h', hp⟩ := mem_perm (cntB_pos (a := e) (h := h) (by omega))
    refine ⟨h', hp, ih fun a => ?_⟩
    have h2 := hc a
    rw [← cntB_perm hp, cntB_cons, cntB_cons] at h2
    omega
theorem HpLe.cnt {r h : Hp} (hl : HpLe r h) (a : Blk) : cntB a r ≤ cntB a h := by
  obtain ⟨x, hx⟩ := hl.perm
  have := cntB_perm (a := a) hx
  rw [cntB_app] at this
  omega
theorem perm_cnt : ∀ {r h : Hp}, (∀ a, cntB a r = cntB a h) → r.Perm h := by
  intro r
  induction r with
  | nil =>
    intro h hc
    cases h with
    | nil => exact .refl _
    | cons e h => have := hc e; rw [cntB_cons, oneB_self, cntB_nil] at this; omega
  | cons e r ih =>
    intro h hc
    have h1 := hc e
    rw [cntB_cons, oneB_self] at h1
    obtain ⟨h', hp⟩ := mem_perm (cntB_pos (a := e) (h := h) (by omega))
    refine ((ih fun a => ?_).cons e).trans hp
    have h2 := hc a
    rw [← cntB_perm hp, cntB_cons, cntB_cons] at h2
    omega
/-- A slice of one's own: nil, or in a block of its own. -/
def Own (e : TypeId) (sz : Nat) (v : Value) (h : Hp) (xs : List (List Value)) : Prop :=
  (∀ c ∈ xs, c.length = sz ∧ c.all (·.oneCell') = true) ∧ ((xs = [] ∧ v = .slice none 0 0 ∧ h = []) ∨ ∃ g cap cur, v = .slice (some ⟨g, 0, none⟩) xs.length cap ∧ h = [⟨g, cur, e⟩] ∧ Row g cap cur sz xs.length xs.flatten)
theorem Acc.own {e sz : Nat} {v : Value} {h : Hp} {xs : List (List Value)} (hA : Acc e sz v h xs) : Own e sz v h xs := ⟨hA.1, hA.2.imp id fun h => h.2⟩
theorem Own.opened {e sz : Nat} {v : Value} {h : Hp} {xs : List (List Value)} (hA : Own e sz v h xs) : ∃ p cap, v = .slice p xs.length cap := by
  rcases hA.2 with ⟨rfl, rfl, rfl⟩ | ⟨g, cap, cur, rfl, rfl, hrow⟩
  · exact ⟨_, _, rfl⟩
  · exact ⟨_, _, rfl⟩
theorem Row.range {g cap cur sz n t} {w : World} {xs : List (List Value)} (h : Row g cap cur sz n xs.flatten) (hall : ∀ c ∈ xs, c.length = sz) (hb : w.heap[g]? = some (.cells cur t (0, 0))) {i : Nat} {c : List Value} (hi : xs[i]? = some c) : w.rangeAt g (0 + i * sz) c := by
  intro j u hj
  rw [Nat.zero_add, cell_of_block hb]
  have := h.nth hall hi hj
  rw [nth_eq] at this
  simpa using this
theorem Own.lie {e sz : Nat} {v : Value} {h : Hp} {xs : List (List Value)} {w : World} (hA : Own e sz v h xs) (hh : Here h w) (hle : xs.length ≤ 281474976710656) : SlAt w v sz xs := by
  rcases hA.2 with ⟨rfl, rfl, rfl⟩ | ⟨g, cap, cur, rfl, rfl, hrow⟩
  · exact ⟨⟨none, 0, rfl, fun h => absurd rfl h⟩, hle⟩
  · exact ⟨⟨_, _, rfl, fun _ => ⟨g, 0, rfl, fun i c hc => hrow.range (fun c hc => (hA.1 c hc).1) (hh _ (List.mem_singleton.2 rfl)) hc⟩⟩, hle⟩
/-- A slice's rows as one. -/
theorem range_flatten {w : World} {b sz : Nat} : ∀ (xs : List (List Value)) (o : Nat), (∀ c ∈ xs, c.length = sz) → (∀ i c, xs[i]? = some c → w.rangeAt b (o + i * sz) c) → w.rangeAt b o xs.flatten := by
  intro xs
  induction xs with
  | nil => intro o _ _ j v hj; simp at hj
  | cons x r ih =>
    intro o hs h j v hj
    have hx := hs x (List.mem_cons_self ..)
    rw [List.flatten_cons] at hj
    rcases Nat.lt_or_ge j x.length with hlt | hge
    · rw [List.getElem?_append_left hlt] at hj
      have := h 0 x rfl j v hj
      simpa using this
    · rw [List.getElem?_append_right hge] at hj
      have := ih (o + sz) (fun c hc => hs c (List.mem_cons_of_mem _ hc)) (fun i c hc => by
        have := h (i + 1) c (by simpa using hc)
        rwa [Nat.succ_mul, show o + (i * sz + sz) = o + sz + i * sz by omega] at this) (j - x.length) v hj
      rwa [show o + sz + (j - x.length) = o + j by omega] at this
section
variable {P : Program} {T : Tab} {n : Nat} {w0 : World} {mu : List Nat} {l : Fm} {hp : Hp} {dd : Option Tmp} {ty : TypeId} {pos : String} {af : Array Edge} {gg : Option (Nat × Bool)} {Q : Exit → Fm → Hp → Prop} {all : Array Oper} {rest : List Oper}
/-- A slice without elements, appended: nothing comes. -/
theorem x_append0 (ok : TabOk P T) {t e sz by_ k cap c : Nat} {q : Addr} {p : Option Addr} {x y : Operand} (hx : ev l x = some (.slice (some q) k cap)) (hy : ev l y = some (.slice p 0 c)) (ht : lk T.sl t = some (e, sz)) (hk : k ≤ cap) :
    Hy P n w0 mu l hp ⟨dd, .call { callee := .builtin .append, args := #[x, y], argTypes := #[t, t] }, ty, pos, af, gg⟩ (.slice (some q) k cap) := by
  obtain ⟨hu, hsz⟩ := ok.gsl ht
  refine hy_run fun a w hk' _ => ?_
  have hst : ∀ q : Addr, (storeCells q []).run P w = .ok () w := fun q => by simp [storeCells]
  have hf : (Builtin.firstCells sz 0 (.slice p 0 c)).run P w = .ok #[] w := by
    cases p with
    | none => simp [Builtin.firstCells]
    | some b => exact run_firstCells_some (P := P) w sz 0 b 0 c [] (by simp) (by simp)
  simp only [execOp, resolve, invoke, builtin, Sem.run_bind, Sem.run_pure, Result.andThen_ok, List.map_toArray, List.map_cons, List.map_nil, hk'.ev hx, hk'.ev hy]
  simp [Builtin.append_, run_underlying hu, run_sizeOf hsz w, Builtin.lenOf, hk, hf, hst]
/-- One element appended to a slice of one's own. -/
theorem z_appendW (ok : TabOk P T) {t d e sz by_ cc a : Nat} {x y : Operand} {z v : Value} {c : List Value} {ha hp' : Hp} {xs : List (List Value)} (hA : Own e sz v ha xs) (hd : Nat.blt d n = true) (hx : ev l x = some v) (hy : ev l y = some (.slice (some ⟨a, 0, none⟩) 1 cc)) (ht : lk T.sl t = some (e, sz))
    (hz : lk T.zs e = some z) (hzs : z.cells.size = sz) (hb : lk T.eb e = some by_) (hby : Nat.ble by_ 4096 = true) (hperm : (ha ++ hp').Perm hp) (hl : c.length = sz) (hnews : NewsAt w0 mu hp a 0 c) (h1 : c.all (·.oneCell') = true) (h63 : xs.length < 1000000)
    (h : ∀ v' ha', Own e sz v' ha' (xs ++ [c]) → Ops P n w0 mu all rest ((d, v') :: l) (ha' ++ hp') Q) : Ops P n w0 mu all (⟨some d, .call { callee := .builtin .append, args := #[x, y], argTypes := #[t, t] }, ty, pos, af, none⟩ :: rest) l hp Q := by
  have hby' : by_ ≤ 4096 := Nat.le_of_ble_eq_true hby
  have hall : ∀ c' ∈ xs ++ [c], c'.length = sz ∧ c'.all (·.oneCell') = true := by
    intro c' hc'
    rcases List.mem_append.1 hc' with hc' | hc'
    · exact hA.1 c' hc'
    · obtain rfl := List.mem_singleton.1 hc'; exact ⟨hl, h1⟩
  rcases hA.2 with ⟨rfl, rfl, rfl⟩ | ⟨g, cap, cur, rfl, rfl, hrow⟩
  · refine z_appendN ok hd hx hy ht hz hzs hb (by omega) (by rw [hl, Nat.one_mul]) hnews (by omega) (by omega) fun g cap cur hr => ?_
    have := h (.slice (some ⟨g, 0, none⟩) 1 cap) [⟨g, cur, e⟩] ⟨hall, .inr ⟨g, cap, cur, rfl, rfl, by simpa using hr⟩⟩
    refine ops_perm _ ?_ this
    exact (hperm.cons _ : (⟨g, cur, e⟩ :: ([] ++ hp')).Perm (⟨g, cur, e⟩ :: hp))
  · refine z_appendO ok hd hx hy ht hz hzs hb hperm hrow (by rw [hl, Nat.one_mul]) hnews h1 (by omega) ?_ fun g cap cur hr => ?_
    · have h2 : (xs.length + 1 + (xs.length + 1) / 4 + 192) ≤ 2000000 := by omega
      calc _ ≤ 2000000 * by_ := Nat.mul_le_mul_right _ h2
        _ ≤ 2000000 * 4096 := Nat.mul_le_mul_left _ hby'
        _ ≤ _ := by decide
    · have := h (.slice (some ⟨g, 0, none⟩) (xs.length + 1) cap) [⟨g, cur, e⟩] ⟨hall, .inr ⟨g, cap, cur, by simp, rfl, by simpa using hr⟩⟩
      exact this
/-- All of a slice appended to an empty one of one's own. -/
theorem z_appendAll (ok : TabOk P T) {t d e sz by_ g cap a o m cc : Nat} {cur : Array Value} {x y : Operand} {z : Value} {hp' : Hp} {xs : List (List Value)} (hd : Nat.blt d n = true) (hx : ev l x = some (.slice (some ⟨g, 0, none⟩) 0 cap)) (hg : Row g cap cur sz 0 []) (hy : ev l y = some (.slice (some ⟨a, o, none⟩) m cc)) (ht : lk T.sl t = some (e, sz))
    (hz : lk T.zs e = some z) (hzs : z.cells.size = sz) (hb : lk T.eb e = some by_) (hby : Nat.ble by_ 4096 = true) (hperm : (⟨g, cur, e⟩ :: hp').Perm hp) (hm : m = xs.length) (hall : ∀ c ∈ xs, c.length = sz ∧ c.all (·.oneCell') = true) (hr : ∀ i c, xs[i]? = some c → w0.rangeAt a (o + i * sz) c) (hmu : a ∉ mu) (h63 : xs.length < 1000000)
    (h : ∀ v' ha', Own e sz v' ha' xs → Ops P n w0 mu all rest ((d, v') :: l) (ha' ++ hp') Q) : Ops P n w0 mu all (⟨some d, .call { callee := .builtin .append, args := #[x, y], argTypes := #[t, t] }, ty, pos, af, none⟩ :: rest) l hp Q := by
  have hby' : by_ ≤ 4096 := Nat.le_of_ble_eq_true hby
  have hfl := flatten_len xs (fun c hc => (hall c hc).1)
  refine z_appendO ok hd hx hy ht hz hzs hb hperm hg (news := xs.flatten) (by rw [hm, hfl]) (news_old (range_flatten xs o (fun c hc => (hall c hc).1) hr) hmu) ?_ (by omega) ?_ fun g cap cur hr => ?_
  · rw [List.all_flatten, List.all_eq_true]
    exact fun c hc => (hall c hc).2
  · have h2 : (0 + m + (0 + m) / 4 + 192) ≤ 2000000 := by omega
    calc _ ≤ 2000000 * by_ := Nat.mul_le_mul_right _ h2
      _ ≤ 2000000 * 4096 := Nat.mul_le_mul_left _ hby'
      _ ≤ _ := by decide
  · rw [Nat.zero_add, List.nil_append, hm] at hr
    have := h (.slice (some ⟨g, 0, none⟩) xs.length cap) [⟨g, cur, e⟩] ⟨hall, .inr ⟨g, cap, cur, rfl, rfl, hr⟩⟩
    rw [Nat.zero_add, hm]
    exact this
/-- A slice built of nothing. -/
theorem z_bslice0 (ok : TabOk P T) {t d e sz : Nat} (hd : Nat.blt d n = true) (ht : lk T.sl t = some (e, sz)) (h : ∀ b, Ops P n w0 mu all rest ((d, .slice (some ⟨b, 0, none⟩) 0 0) :: l) (⟨b, #[], e⟩ :: hp) Q) : Ops P n w0 mu all (⟨some d, .buildSlice t 0 #[], ty, pos, af, none⟩ :: rest) l hp Q := by
  refine ops_new (b := 0) rfl hd #[] e rfl (fun b => .slice (some ⟨b, 0, none⟩) 0 0) (fun a w hk _ => ?_) h
  obtain ⟨hu, hs⟩ := ok.gsl ht
  simp [execOp, Instr.buildSlice, run_underlying hu w, run_sizeOf hs w, Instr.fill, go_sem]
/-- Is a slice nil? -/
theorem x_nilS (ok : TabOk P T) {t u e sz m c : Nat} {p : Option Addr} {x : Operand} (hx : ev l x = some (.slice p m c)) (ht : lk T.sl t = some (e, sz)) : Hy P n w0 mu l hp ⟨dd, .binOp .eql t x (.const (.slice none 0 0)) u, ty, pos, af, gg⟩ (.bool p.isNone) := by
  obtain ⟨hu, hsz⟩ := ok.gsl ht
  refine hy_run fun a w hk' _ => ?_
  have h1 := Lib.run_eql_slice_nil (P := P) w t e p m c 0 0 hu
  have h2 := hk'.ev hx
  have h3 : a.eval (.const (.slice none 0 0)) = .slice none 0 0 := rfl
  simp only [execOp, h2, h3]
  cases p <;> simp [eqGuard, h1]
/-- What is left of a division. -/
theorem x_rem {hh : Hp} {t u : TypeId} {x y : Operand} {p q : Int} (hx : ev l x = some (.int .i64 p)) (hy : ev l y = some (.int .i64 q)) (hp : 0 ≤ p) (hq : 0 < q) : Hy P n w0 mu l hh ⟨dd, .binOp .rem t x y u, ty, pos, af, gg⟩ (.int .i64 (p % q)) :=
  hy_run fun ac w hk _ => by
    have h1 : p.tmod q = p % q := Int.tmod_eq_emod_of_nonneg hp
    have h2 : ¬ (q = 0) := by omega
    simp only [execOp, hk.ev hx, hk.ev hy]
    simp [eqGuard_rem, binOp_rem, Op.intDiv, h1, h2]
end
end Go.Proofs.YtdfkcjjbflcafaaGreat
