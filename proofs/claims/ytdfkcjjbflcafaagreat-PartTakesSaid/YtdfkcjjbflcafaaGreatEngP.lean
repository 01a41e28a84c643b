/- The engine: append to a slice of one's own (nil, or the head of a block of its own). No program in sight. -/
import Derived.Test.YtdfkcjjbflcafaaGreatEngT
import Derived.Deep.DeepAppendWide
namespace Go.Proofs.YtdfkcjjbflcafaaGreat
open Go.RowKit
set_option linter.unusedVariables false
set_option linter.unusedSimpArgs false
theorem Good.row {w0 w : World} {mu : List Nat} {hp : Hp} {b : Nat} {cs : Array Value} {t : TypeId} (h : Good w0 mu (⟨b, cs, t⟩ :: hp) w) (cs' : Array Value) : Good w0 mu (⟨b, cs', t⟩ :: hp) (w.setRow b cs') := by
  have hnd := h.nodup
  simp only [List.map_cons, List.nodup_cons] at hnd
  refine ⟨h.os, h.tape, h.output, by have := h.size; simpa [World.setRow] using this, by simpa using hnd, ?_, ?_, ?_⟩
  · intro e he
    rcases List.mem_cons.1 he with rfl | he
    · exact setRow_heap w b cs _ t _ (h.here _ (List.mem_cons_self ..))
    · exact (setRow_other w b e.b _ (fun hb => hnd.1 (List.mem_map.2 ⟨e, he, hb⟩))).trans (h.here e (List.mem_cons_of_mem _ he))
  · intro e he
    rcases List.mem_cons.1 he with rfl | he
    · exact h.own ⟨b, cs, t⟩ (List.mem_cons_self ..)
    · exact h.own e (List.mem_cons_of_mem _ he)
  · intro k hk hm
    refine (setRow_other w b k _ (fun hb => ?_)).trans (h.old k hk hm)
    rcases h.own ⟨b, cs, t⟩ (List.mem_cons_self ..) with h1 | h1
    · exact hm (hb ▸ h1)
    · simp only at hb h1; omega
/-- The head of a block of its own: n elements, the cells xs. -/
structure Row (g cap : Nat) (cur : Array Value) (sz n : Nat) (xs : List Value) : Prop where
  len : xs.length = n * sz
  le : n ≤ cap
  max : cap ≤ maxLen
  size : cur.size = cap * sz
  take : cur.toList.take (n * sz) = xs
/-- m elements of a slice, as any world beside the elder one holds them. -/
def NewsAt (w0 : World) (mu : List Nat) (hp : Hp) (a o : Nat) (news : List Value) : Prop := ∀ w, Good w0 mu hp w → ∀ j u, news[j]? = some u → w.cell? ⟨a, o + j, none⟩ = some u
theorem news_own {w0 : World} {mu : List Nat} {hp : Hp} {a o m : Nat} {cs : Array Value} {t : TypeId} {news : List Value} (hm : (⟨a, cs, t⟩ : Blk) ∈ hp) (h : (cs.toList.drop o).take m = news) : NewsAt w0 mu hp a o news := by
  intro w hG j u hu
  subst h
  rw [cell_of_block (hG.here _ hm)]
  rw [List.getElem?_take] at hu
  split at hu
  · rw [List.getElem?_drop] at hu; simpa using hu
  · cases hu
theorem news_old {w0 : World} {mu : List Nat} {hp : Hp} {a o : Nat} {news : List Value} (hr : w0.rangeAt a o news) (hmu : a ∉ mu) : NewsAt w0 mu hp a o news := fun w hG j u hu => hG.cell (hr j u hu) hmu
section
variable {P : Program} {T : Tab} {n : Nat} {w0 : World} {mu : List Nat} {l : Fm} {hp : Hp} {ty : TypeId} {pos : String} {af : Array Edge} {Q : Exit → Fm → Hp → Prop} {all : Array Oper} {rest : List Oper}
theorem info_of {e sz by_ : Nat} {z : Value} (hs : szOf P e = some sz) (hb : (P.info? e).map (·.bytes) = some by_) (hz : zeroOf P e = some z) : ∃ i, P.info? e = some i ∧ i.zero = some z ∧ i.size = sz ∧ i.bytes = by_ := by
  unfold szOf at hs
  unfold zeroOf at hz
  cases hi : P.info? e with
  | none => rw [hi] at hs; cases hs
  | some i =>
    rw [hi] at hs hb hz
    exact ⟨i, rfl, by simpa using hz, by simpa using hs, by simpa using hb⟩
theorem row_new {w : World} {z : Value} {sz k m old : Nat} {e : TypeId} {xs news : List Value} (hzs : z.cells.size = sz) (hx : xs.length = k * sz) (hl : news.length = m * sz) (hmax : k + m ≤ maxLen) :
    Row w.heap.size (grownCap w (k + m) old e) (xs.toArray ++ news.toArray ++ Builtin.zeroCells z.cells (grownCap w (k + m) old e - (k + m))) sz (k + m) (xs ++ news) := by
  have hge := grownCap_ge w (k + m) old e
  have hcm : grownCap w (k + m) old e ≤ maxLen := grownCap_le_maxLen w (k + m) old e hmax
  refine ⟨by rw [List.length_append, hx, hl, Nat.add_mul], hge, hcm, ?_, ?_⟩
  · simp only [Array.size_append, List.size_toArray, size_zeroCells, hzs, hx, hl, ← Nat.add_mul]
    congr 1
    omega
  · simp only [Array.toList_append, List.append_assoc]
    rw [← List.append_assoc, show (k + m) * sz = (xs ++ news).length by rw [List.length_append, hx, hl, Nat.add_mul]]
    exact List.take_left
/-- Append to nil. -/
theorem z_appendN (ok : TabOk P T) {t d e sz by_ m c a o : Nat} {x y : Operand} {z : Value} {news : List Value} (hd : Nat.blt d n = true) (hx : ev l x = some (.slice none 0 0)) (hy : ev l y = some (.slice (some ⟨a, o, none⟩) m c)) (ht : lk T.sl t = some (e, sz))
    (hz : lk T.zs e = some z) (hzs : z.cells.size = sz) (hb : lk T.eb e = some by_) (hm : 0 < m) (hl : news.length = m * sz) (hnews : NewsAt w0 mu hp a o news) (h63 : m ≤ 1048576) (h48 : m * by_ ≤ 281474976710656)
    (h : ∀ g cap cur, Row g cap cur sz m news → Ops P n w0 mu all rest ((d, .slice (some ⟨g, 0, none⟩) m cap) :: l) (⟨g, cur, e⟩ :: hp) Q) : Ops P n w0 mu all (⟨some d, .call { callee := .builtin .append, args := #[x, y], argTypes := #[t, t] }, ty, pos, af, none⟩ :: rest) l hp Q := by
  intro ac w hk hG
  have hput : ∀ v, Knows n ((d, v) :: l) (ac.put (some d) v) := fun v => Knows.put (d := some d) hk (fun t ht => by cases ht; simpa using hd) v
  obtain ⟨hu, hsz⟩ := ok.gsl ht
  have hbb := List.all_eq_true.1 ok.eb _ (lk_mem hb)
  simp only [beq_iff_eq] at hbb
  obtain ⟨i, hi, hiz, his, hib⟩ := info_of hsz hbb (ok.gzs hz)
  subst his hib
  refine wpList_plain rfl fun K hK => ?_
  have hr := run_append_nil (P := P) w t ty e i z hu hi hiz ⟨a, o, none⟩ m c news hl (fun j u hj => by rw [Addr.add_mid]; exact hnews w hG j u hj) hm (by omega) h48
  unfold Oper.wp execOp
  simp only [resolve, invoke, builtin, Sem.run_bind, Sem.run_pure, Result.andThen_ok, List.map_toArray, List.map_cons, List.map_nil, hk.ev hx, hk.ev hy, hr]
  have hrow := row_new (w := w) (z := z) (sz := i.size) (k := 0) (m := m) (old := 0) (e := e) (xs := []) (news := news) hzs (by simp) hl (by unfold maxLen; omega)
  simp only [Nat.zero_add, List.nil_append, Array.empty_append] at hrow
  have hG' := (hG.drawn (w.drawn + 1)).alloc (news.toArray ++ Builtin.zeroCells z.cells (grownCap w m 0 e - m)) e
  exact hK _ _ (h _ _ _ hrow _ _ (hput _) hG')
/-- Append to a row of its own. -/
theorem z_appendO (ok : TabOk P T) {t d e sz by_ k m c a o g cap : Nat} {cur : Array Value} {x y : Operand} {z : Value} {xs news : List Value} {hp' : Hp} (hd : Nat.blt d n = true) (hx : ev l x = some (.slice (some ⟨g, 0, none⟩) k cap)) (hy : ev l y = some (.slice (some ⟨a, o, none⟩) m c)) (ht : lk T.sl t = some (e, sz))
    (hz : lk T.zs e = some z) (hzs : z.cells.size = sz) (hb : lk T.eb e = some by_) (hperm : (⟨g, cur, e⟩ :: hp').Perm hp) (hown : Row g cap cur sz k xs) (hl : news.length = m * sz) (hnews : NewsAt w0 mu hp a o news) (h1 : news.all (·.oneCell') = true) (h63 : k + m ≤ 1048576) (h48 : (k + m + (k + m) / 4 + 192) * by_ ≤ 281474976710656)
    (h : ∀ g cap cur, Row g cap cur sz (k + m) (xs ++ news) → Ops P n w0 mu all rest ((d, .slice (some ⟨g, 0, none⟩) (k + m) cap) :: l) (⟨g, cur, e⟩ :: hp') Q) : Ops P n w0 mu all (⟨some d, .call { callee := .builtin .append, args := #[x, y], argTypes := #[t, t] }, ty, pos, af, none⟩ :: rest) l hp Q := by
  intro ac w hk hG
  have hput : ∀ v, Knows n ((d, v) :: l) (ac.put (some d) v) := fun v => Knows.put (d := some d) hk (fun t ht => by cases ht; simpa using hd) v
  obtain ⟨hu, hsz⟩ := ok.gsl ht
  have hbb := List.all_eq_true.1 ok.eb _ (lk_mem hb)
  simp only [beq_iff_eq] at hbb
  obtain ⟨i, hi, hiz, his, hib⟩ := info_of hsz hbb (ok.gzs hz)
  subst his hib
  have hG' := hG.perm hperm
  have hg := hG'.here _ (List.mem_cons_self ..)
  have hn : ∀ j u, news[j]? = some u → w.cell? ((⟨a, o, none⟩ : Addr).add j) = some u := fun j u hj => by rw [Addr.add_mid]; exact hnews w hG j u hj
  refine wpList_plain rfl fun K hK => ?_
  by_cases hroom : k + m ≤ cap
  · have hfit : k * i.size + news.length ≤ cur.size := by rw [hl, hown.size, ← Nat.add_mul]; exact Nat.mul_le_mul_right _ hroom
    have hr := run_append_room (P := P) w t ty e i hu hi g k cap cur hg ⟨a, o, none⟩ m c news hl hn (fun u hu => List.all_eq_true.1 h1 u hu) hroom hfit
    unfold Oper.wp execOp
    simp only [resolve, invoke, builtin, Sem.run_bind, Sem.run_pure, Result.andThen_ok, List.map_toArray, List.map_cons, List.map_nil, hk.ev hx, hk.ev hy, hr]
    refine hK _ _ (h _ _ _ ⟨?_, hroom, hown.max, ?_, ?_⟩ _ _ (hput _) (hG'.row _))
    · rw [List.length_append, hown.len, hl, Nat.add_mul]
    · have := hown.size
      simp only [List.size_toArray, List.length_append, List.length_take, List.length_drop, Array.length_toList]
      omega
    · rw [hown.take, show (k + m) * i.size = (xs ++ news).length by rw [List.length_append, hown.len, hl, Nat.add_mul]]
      exact List.take_left
  · have holds : ∀ j u, xs[j]? = some u → w.cell? ((⟨g, 0, none⟩ : Addr).add j) = some u := by
      intro j u hj
      rw [Addr.add_mid, cell_of_block hg]
      rw [← hown.take, List.getElem?_take] at hj
      split at hj
      · simpa using hj
      · cases hj
    have hr := run_append_grow (P := P) w t ty e i z hu hi hiz ⟨g, 0, none⟩ k cap xs hown.len holds ⟨a, o, none⟩ m c news hl hn (by omega) (by omega) (growslice_fits_wide (by omega) h48)
    unfold Oper.wp execOp
    simp only [resolve, invoke, builtin, Sem.run_bind, Sem.run_pure, Result.andThen_ok, List.map_toArray, List.map_cons, List.map_nil, hk.ev hx, hk.ev hy, hr]
    have hG2 := ((hG'.sub (hp' := hp') (List.sublist_cons_self _ _)).drawn (w.drawn + 1)).alloc (xs.toArray ++ news.toArray ++ Builtin.zeroCells z.cells (grownCap w (k + m) cap e - (k + m))) e
    have hrow := row_new (w := w) (k := k) (m := m) (old := cap) (e := e) hzs hown.len hl (by unfold maxLen; omega)
    exact hK _ _ (h _ _ _ hrow _ _ (hput _) hG2)
end
end Go.Proofs.YtdfkcjjbflcafaaGreat
