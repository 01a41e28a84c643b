/- The engine: parts of slices, copy, clear, zeros appended, library functions of the model's own. No program in sight. -/
import Derived.Test.YtdfkcjjbflcafaaGreatEngW
import Derived.Lib.Overlaps
import Derived.Lib.AppendZerosOnto
import Derived.Lib.SliceRun
namespace Go.Proofs.YtdfkcjjbflcafaaGreat
open Go.RowKit
set_option linter.unusedVariables false
set_option linter.unusedSimpArgs false
set_option maxRecDepth 20000
section
variable {P : Program} {T : Tab} {n : Nat} {w0 : World} {mu : List Nat} {l : Fm} {hp : Hp} {dd : Option Tmp} {ty : TypeId} {pos : String} {af : Array Edge} {gg : Option (Nat × Bool)} {Q : Exit → Fm → Hp → Prop} {all : Array Oper} {rest : List Oper}
theorem elem_of {t e : TypeId} (hu : P.underlying t = some (.slice e)) : P.underlying t = some (.slice (P.elem t)) := by
  have : P.elem t = e := by simp [Program.elem, hu]
  rw [this]; exact hu
theorem slice_add {b off k : Nat} : (⟨b, off, none⟩ : Addr).add k = ⟨b, off + k, none⟩ := Addr.add_lit ..
/-- A part of a slice, from one place to another. -/
theorem x_sliceLH (ok : TabOk P T) {t e sz b off m cap : Nat} {kl kh : IntKind} {x lo hi : Operand} {i j : Int} {o' m' c' : Nat} (hx : ev l x = some (.slice (some ⟨b, off, none⟩) m cap)) (hlo : ev l lo = some (.int kl i)) (hhi : ev l hi = some (.int kh j)) (ht : lk T.sl t = some (e, sz))
    (h0 : 0 ≤ i) (h1 : i ≤ j) (h2 : j ≤ cap) (h3 : i < cap) (ho : off + i.toNat * sz = o') (hm : j.toNat - i.toNat = m') (hc : cap - i.toNat = c') :
    Hy P n w0 mu l hp ⟨dd, .slice t x (some lo) (some hi) none, ty, pos, af, gg⟩ (.slice (some ⟨b, o', none⟩) m' c') := by
  obtain ⟨hu, hsz⟩ := ok.gsl ht
  subst ho hm hc
  refine hy_run fun a w hk _ => ?_
  have he : P.elem t = e := by simp [Program.elem, hu]
  have hs := run_sizeOf hsz w
  have hne : ¬ (cap = i.toNat) := by omega
  simp only [execOp, Option.map_some, Option.map_none, hk.ev hx, hk.ev hlo, hk.ev hhi]
  simp only [Sem.run_bind]
  rw [run_sliceAt_slice (w := w) t _ _ _ _ (elem_of hu), run_slice_lh (w := w) t _ m cap (elem_of hu) kl kh i j h0 h1 h2, he, hs]
  simp [sliced, hne, slice_add]
/-- .. from its beginning. -/
theorem x_sliceH (ok : TabOk P T) {t e sz m cap : Nat} {p : Option Addr} {kh : IntKind} {x hi : Operand} {j : Int} {m' : Nat} (hx : ev l x = some (.slice p m cap)) (hhi : ev l hi = some (.int kh j)) (ht : lk T.sl t = some (e, sz))
    (h0 : 0 ≤ j) (h2 : j ≤ cap) (hm : j.toNat = m') (hp0 : p = none ∨ ∃ b off, p = some ⟨b, off, none⟩) :
    Hy P n w0 mu l hp ⟨dd, .slice t x none (some hi) none, ty, pos, af, gg⟩ (.slice p m' cap) := by
  obtain ⟨hu, hsz⟩ := ok.gsl ht
  subst hm
  refine hy_run fun a w hk _ => ?_
  have he : P.elem t = e := by simp [Program.elem, hu]
  have hs := run_sizeOf hsz w
  simp only [execOp, Option.map_some, Option.map_none, hk.ev hx, hk.ev hhi]
  simp only [Sem.run_bind]
  rw [run_sliceAt_slice (w := w) t _ _ _ _ (elem_of hu), run_slice_h (w := w) t _ m cap (elem_of hu) kh j h0 h2, he, hs]
  rcases hp0 with rfl | ⟨b, off, rfl⟩
  · simp [sliced]
  · simp [sliced, slice_add]
/-- .. to its end. -/
theorem x_sliceL (ok : TabOk P T) {t e sz b off m cap : Nat} {kl : IntKind} {x lo : Operand} {i : Int} {o' m' c' : Nat} (hx : ev l x = some (.slice (some ⟨b, off, none⟩) m cap)) (hlo : ev l lo = some (.int kl i)) (ht : lk T.sl t = some (e, sz))
    (h0 : 0 ≤ i) (h1 : i ≤ m) (h3 : i < cap) (ho : off + i.toNat * sz = o') (hm : m - i.toNat = m') (hc : cap - i.toNat = c') :
    Hy P n w0 mu l hp ⟨dd, .slice t x (some lo) none none, ty, pos, af, gg⟩ (.slice (some ⟨b, o', none⟩) m' c') := by
  obtain ⟨hu, hsz⟩ := ok.gsl ht
  subst ho hm hc
  refine hy_run fun a w hk _ => ?_
  have he : P.elem t = e := by simp [Program.elem, hu]
  have hs := run_sizeOf hsz w
  have hne : ¬ (cap = i.toNat) := by omega
  simp only [execOp, Option.map_some, Option.map_none, hk.ev hx, hk.ev hlo]
  simp only [Sem.run_bind]
  rw [run_sliceAt_slice (w := w) t _ _ _ _ (elem_of hu), run_slice_l (w := w) t _ m cap (elem_of hu) kl i h0 h1, he, hs]
  simp [sliced, hne, slice_add]
/-- .. whatever its place: what is behind it is not looked at. -/
theorem x_sliceLV (ok : TabOk P T) {t e sz m cap : Nat} {p : Option Addr} {kl : IntKind} {x lo : Operand} {i : Int} (hx : ev l x = some (.slice p m cap)) (hlo : ev l lo = some (.int kl i)) (ht : lk T.sl t = some (e, sz))
    (h0 : 0 ≤ i) (h1 : i ≤ m) : Hy P n w0 mu l hp ⟨dd, .slice t x (some lo) none none, ty, pos, af, gg⟩ (sliced p i.toNat m cap sz) := by
  obtain ⟨hu, hsz⟩ := ok.gsl ht
  refine hy_run fun a w hk _ => ?_
  have he : P.elem t = e := by simp [Program.elem, hu]
  have hs := run_sizeOf hsz w
  simp only [execOp, Option.map_some, Option.map_none, hk.ev hx, hk.ev hlo]
  simp only [Sem.run_bind]
  rw [run_sliceAt_slice (w := w) t _ _ _ _ (elem_of hu), run_slice_l (w := w) t _ m cap (elem_of hu) kl i h0 h1, he, hs]
  simp
theorem min_cells {k d : Nat} : Nat.min k d = min k d := rfl
/-- Cells of one slice copied into one's own block. -/
theorem z_copy (ok : TabOk P T) {t t' e sz d b o dl dc a so sl sc : Nat} {cs : Array Value} {tb : TypeId} {x y : Operand} {news : List Value} {hp' : Hp} (hd : Nat.blt d n = true) (hx : ev l x = some (.slice (some ⟨b, o, none⟩) dl dc)) (hy : ev l y = some (.slice (some ⟨a, so, none⟩) sl sc)) (ht : lk T.sl t = some (e, sz))
    (hperm : (⟨b, cs, tb⟩ :: hp').Perm hp) (hl : news.length = min sl dl * sz) (hnews : NewsAt w0 mu hp a so news) (h1 : news.all (·.oneCell') = true) (hfit : o + news.length ≤ cs.size)
    (h : Ops P n w0 mu all rest ((d, .int .i64 (min sl dl : Nat)) :: l) (⟨b, putAt cs o news, tb⟩ :: hp') Q) : Ops P n w0 mu all (⟨some d, .call { callee := .builtin .copy, args := #[x, y], argTypes := #[t, t'] }, ty, pos, af, none⟩ :: rest) l hp Q := by
  intro ac w hk hG
  have hput : ∀ v, Knows n ((d, v) :: l) (ac.put (some d) v) := fun v => Knows.put (d := some d) hk (fun t ht => by cases ht; simpa using hd) v
  obtain ⟨hu, hsz⟩ := ok.gsl ht
  have hG' := hG.perm hperm
  have hb := hG'.here _ (List.mem_cons_self ..)
  have hsrc : ∀ j u, news[j]? = some u → w.cell? ((⟨a, so, none⟩ : Addr).add j) = some u := fun j u hj => by rw [Addr.add_mid]; exact hnews w hG j u hj
  have hld := run_loadCells_list (P := P) w ⟨a, so, none⟩ news hsrc
  have hst := run_storeCells_cells (P := P) b o news 0 w
    (fun j hj => by rw [cell_of_block hb]; simp [show o + j < cs.size by omega])
    (fun j _ => free_of_block hb) (fun u hu => (List.all_eq_true.1 h1) u hu)
  simp only [Nat.add_zero] at hst
  refine wpList_plain rfl fun K hK => ?_
  unfold Oper.wp execOp
  have hs := run_sizeOf hsz w
  have hr : (Builtin.copy_ #[t, t'] ty #[.slice (some ⟨b, o, none⟩) dl dc, .slice (some ⟨a, so, none⟩) sl sc]).run P w = .ok (goInt (min sl dl : Nat)) (w.setCells b o news) := by
    simp [Builtin.copy_, run_underlying hu, Builtin.lenOf, Builtin.firstCells, hs, min_cells, ← hl, hld, hst]
  simp only [resolve, invoke, builtin, Sem.run_bind, Sem.run_pure, Result.andThen_ok, List.map_toArray, List.map_cons, List.map_nil, hk.ev hx, hk.ev hy, hr]
  exact hK _ _ (h _ _ (hput _) (Good.sets (w := w) news cs o w hG'))
/-- A part of one's own block cleared. -/
theorem z_clear (ok : TabOk P T) {t e sz b o m c d : Nat} {cs : Array Value} {tb : TypeId} {x : Operand} {z : Value} {hp' : Hp} (hd : Nat.blt d n = true) (hx : ev l x = some (.slice (some ⟨b, o, none⟩) m c)) (ht : lk T.sl t = some (e, sz)) (hz : lk T.zs e = some z) (hzs : z.cells.size = sz) (hz1 : z.cells.toList.all (·.oneCell') = true) (hm : 0 < m)
    (hperm : (⟨b, cs, tb⟩ :: hp').Perm hp) (hfit : o + m * sz ≤ cs.size)
    (h : ∀ vs : List Value, vs.length = m * sz → Ops P n w0 mu all rest ((d, .tuple #[]) :: l) (⟨b, putAt cs o vs, tb⟩ :: hp') Q) : Ops P n w0 mu all (⟨some d, .call { callee := .builtin .clear, args := #[x], argTypes := #[t] }, ty, pos, af, none⟩ :: rest) l hp Q := by
  intro ac w hk hG
  have hput : ∀ v, Knows n ((d, v) :: l) (ac.put (some d) v) := fun v => Knows.put (d := some d) hk (fun t ht => by cases ht; simpa using hd) v
  obtain ⟨hu, hsz⟩ := ok.gsl ht
  have hG' := hG.perm hperm
  have hb := hG'.here _ (List.mem_cons_self ..)
  have hlen : (Builtin.zeroCells z.cells m).toList.length = m * sz := by rw [Array.length_toList, size_zeroCells, hzs]
  have hst := run_storeCells_cells (P := P) b o (Builtin.zeroCells z.cells m).toList 0 w
    (fun j hj => by rw [cell_of_block hb]; simp [show o + j < cs.size by omega])
    (fun j _ => free_of_block hb) (fun u hu => by
      refine (List.all_eq_true.1 hz1) u ?_
      simp only [Builtin.zeroCells, Array.mem_toList_iff, Array.mem_map, Array.mem_range] at hu
      obtain ⟨i, hi, rfl⟩ := hu
      have hpos : 0 < z.cells.size := by
        rcases Nat.eq_zero_or_pos z.cells.size with h0 | h0
        · rw [h0] at hi; omega
        · exact h0
      rw [getElem!_pos z.cells _ (Nat.mod_lt _ hpos)]
      simp)
  simp only [Nat.add_zero] at hst
  refine wpList_plain rfl fun K hK => ?_
  unfold Oper.wp execOp
  have hr : (Builtin.clear_ #[t] ty #[.slice (some ⟨b, o, none⟩) m c]).run P w = .ok (.tuple #[]) (w.setCells b o (Builtin.zeroCells z.cells m).toList) := by
    obtain ⟨m', rfl⟩ : ∃ m', m = m' + 1 := ⟨m - 1, by omega⟩
    simp [Builtin.clear_, run_underlying hu, run_zero (ok.gzs hz) w, hst]
  simp only [resolve, invoke, builtin, Sem.run_bind, Sem.run_pure, Result.andThen_ok, List.map_toArray, List.map_cons, List.map_nil, hk.ev hx, hr]
  exact hK _ _ (h _ hlen _ _ (hput _) (Good.sets (w := w) _ cs o w hG'))
/-- Zeros appended where there is no room: a new row. -/
theorem z_appendZ (ok : TabOk P T) {t tn e sz by_ s k cap b off d : Nat} {kq kn : IntKind} {x y : Operand} {z : Value} {olds : List Value} (hd : Nat.blt d n = true) (hx : ev l x = some (.slice (some ⟨b, off, none⟩) s cap)) (hy : ev l y = some (.int kq (k : Int))) (ht : lk T.sl t = some (e, sz)) (htn : lk T.ik tn = some kn)
    (hz : lk T.zs e = some z) (hzs : z.cells.size = sz) (hb : lk T.eb e = some by_) (hby : Nat.ble by_ 4096 = true) (hl : olds.length = s * sz) (hnews : NewsAt w0 mu hp b off olds) (hs0 : 0 < sz) (hk0 : 0 < k) (hroom : cap < s + k) (hsmall : s + k ≤ 1000000)
    (h : ∀ g cap' cur, cur.size = cap' * sz → s + k ≤ cap' → cap' ≤ maxLen → cur.toList.take (s * sz) = olds → Ops P n w0 mu all rest ((d, .slice (some ⟨g, 0, none⟩) (s + k) cap') :: l) (⟨g, cur, e⟩ :: hp) Q) : Ops P n w0 mu all (⟨some d, .call { callee := .builtin .append, args := #[x, y], argTypes := #[t, tn] }, ty, pos, af, none⟩ :: rest) l hp Q := by
  intro ac w hk hG
  have hput : ∀ v, Knows n ((d, v) :: l) (ac.put (some d) v) := fun v => Knows.put (d := some d) hk (fun t ht => by cases ht; simpa using hd) v
  obtain ⟨hu, hsz⟩ := ok.gsl ht
  have hun := ok.gik htn
  have hby' : by_ ≤ 4096 := Nat.le_of_ble_eq_true hby
  have hbb := List.all_eq_true.1 ok.eb _ (lk_mem hb)
  simp only [beq_iff_eq] at hbb
  obtain ⟨i, hi, hiz, his, hib⟩ := info_of hsz hbb (ok.gzs hz)
  subst his hib
  have hold : (Builtin.firstCells i.size s (.slice (some ⟨b, off, none⟩) s cap)).run P w.drew = .ok olds.toArray w.drew :=
    run_firstCells_some w.drew i.size s ⟨b, off, none⟩ s cap olds (by rw [hl]) (fun j u hj => by rw [Addr.add_mid]; exact hnews w hG j u hj)
  have h48 : k * i.bytes ≤ 281474976710656 := by
    calc k * i.bytes ≤ 1000000 * 4096 := Nat.mul_le_mul (by omega) hby'
      _ ≤ _ := by decide
  have hfit : Builtin.nextslicecap (s + k) cap * i.bytes ≤ 281474976710656 := by
    refine growslice_fits_wide (by omega) ?_
    have h2 : (s + k + (s + k) / 4 + 192) ≤ 2000000 := by omega
    calc _ ≤ 2000000 * i.bytes := Nat.mul_le_mul_right _ h2
      _ ≤ 2000000 * 4096 := Nat.mul_le_mul_left _ hby'
      _ ≤ _ := by decide
  have hr := Lib.run_append_grow_zeros (P := P) w t tn ty e i z kq kn hu hun hi hiz (some ⟨b, off, none⟩) s cap olds hold k hk0 hs0 hroom (by omega) h48 hfit
  refine wpList_plain rfl fun K hK => ?_
  unfold Oper.wp execOp
  simp only [resolve, invoke, builtin, Sem.run_bind, Sem.run_pure, Result.andThen_ok, List.map_toArray, List.map_cons, List.map_nil, hk.ev hx, hk.ev hy, hr]
  have hge := grownCap_ge w (s + k) cap e
  have hcm : grownCap w (s + k) cap e ≤ maxLen := grownCap_le_maxLen w (s + k) cap e (by unfold maxLen; omega)
  have hG2 := (hG.drawn (w.drawn + 1)).alloc (olds.toArray ++ Builtin.zeroCells z.cells k ++ Builtin.zeroCells z.cells (grownCap w (s + k) cap e - (s + k))) e
  refine hK _ _ (h _ _ _ ?_ hge hcm ?_ _ _ (hput _) hG2)
  · simp only [Array.size_append, List.size_toArray, size_zeroCells, hzs, hl, ← Nat.add_mul]
    congr 1
    omega
  · simp only [Array.toList_append, List.append_assoc]
    rw [← hl]
    exact List.take_left
/-- Shifted to the right, by a given count. -/
theorem x_shrU {t u : TypeId} {x y : Operand} {p : Int} {ky : IntKind} {c : Int} {q : Int} (hx : ev l x = some (.int .u64 p)) (hy : ev l y = some (.int ky c)) (h0 : 0 ≤ c) (h1 : c ≤ 64) (hq : p / 2 ^ c.toNat = q) : Hy P n w0 mu l hp ⟨dd, .binOp .shr t x y u, ty, pos, af, gg⟩ (.int .u64 q) :=
  hy_run fun ac w hk _ => by
    subst hq
    simp only [execOp, hk.ev hx, hk.ev hy]
    simp [eqGuard_shr, binOp_shr, shift_shr_u64 (yk := ky) (h₀ := h0) (h₁ := h1)]
/-- A function of the model's own that yields a value. -/
theorem x_ext {f : FuncId} {xs : List Operand} {vs : List Value} {tys : Array TypeId} {v : Value} (hv : evs l xs = some vs) (hr : ∀ w, Good w0 mu hp w → (callFunc f vs.toArray).run P w = .ok (.value v) w) : Hy P n w0 mu l hp ⟨dd, .call { callee := .value (.func f), args := xs.toArray, argTypes := tys }, ty, pos, af, gg⟩ v := by
  refine hy_run fun a w hk hG => ?_
  have e : xs.toArray.map a.eval = vs.toArray := by rw [← hk.evs hv]; simp
  rw [Conc.execOp_call_func rfl, e]
  exact hr w hG
end
/-! Cells put beside each other. -/
theorem putAt_two {cs : Array Value} {A c D : List Value} (hA : cs.toList.take A.length = A) (hs : A.length + c.length + D.length ≤ cs.size) :
    (putAt (putAt cs (A.length + c.length) D) A.length c).toList.take (A.length + c.length + D.length) = A ++ c ++ D := by
  have h1 : (putAt cs (A.length + c.length) D).size = cs.size := putAt_size ..
  rw [putAt_list _ _ _ (by omega), putAt_list _ _ _ (by omega)]
  have ht : cs.toList.length = cs.size := Array.length_toList
  have e1 : ((cs.toList.take (A.length + c.length) ++ D ++ cs.toList.drop (A.length + c.length + D.length)).take A.length) = A := by
    rw [List.append_assoc, List.take_append, List.take_take, List.length_take, show A.length - min (A.length + c.length) cs.toList.length = 0 by omega, show min A.length (A.length + c.length) = A.length by omega, hA]; simp
  have e2 : ((cs.toList.take (A.length + c.length) ++ D ++ cs.toList.drop (A.length + c.length + D.length)).drop (A.length + c.length)) = D ++ cs.toList.drop (A.length + c.length + D.length) := by
    rw [List.append_assoc, List.drop_append, List.drop_eq_nil_of_le (by rw [List.length_take]; omega), List.length_take, show A.length + c.length - min (A.length + c.length) cs.toList.length = 0 by omega]; simp
  rw [e1, e2]
  have : A ++ c ++ (D ++ cs.toList.drop (A.length + c.length + D.length)) = (A ++ c ++ D) ++ cs.toList.drop (A.length + c.length + D.length) := by simp
  rw [this]
  exact List.take_left' (by simp; omega)
theorem putAt_two' {cs : Array Value} {A c D : List Value} (hA : cs.toList.take A.length = A) (hs : A.length + c.length + D.length ≤ cs.size) :
    (putAt (putAt cs A.length c) (A.length + c.length) D).toList.take (A.length + c.length + D.length) = A ++ c ++ D := by
  have h1 : (putAt cs A.length c).size = cs.size := putAt_size ..
  rw [putAt_list _ _ _ (by omega), putAt_list _ _ _ (by omega), hA]
  have e1 : ((A ++ c ++ cs.toList.drop (A.length + c.length)).take (A.length + c.length)) = A ++ c := List.take_left' (by simp)
  rw [e1]
  exact List.take_left' (by simp; omega)
end Go.Proofs.YtdfkcjjbflcafaaGreat
