/- Layer 10: what is deleted: slices.DeleteFunc, the closures of Apply. -/
import Derived.Test.YtcjbpdejlfomkaaTlF
namespace Go.Proofs.Ytcjbpdejlfomkaa
open Go.RowKit
set_option linter.unusedVariables false
set_option linter.unusedSimpArgs false
set_option maxRecDepth 20000
section
variable {P : Program} {T : Tab} {n : Nat} {w0 : World} {mu : List Nat} {l : Fm} {hp : Hp} {dd : Option Tmp} {ty : TypeId} {pos : String} {af : Array Edge} {gg : Option (Nat × Bool)} {Q : Exit → Fm → Hp → Prop} {all : Array Oper} {rest : List Oper}
/-- A part of one's own block cleared: what stands there then is as long. -/
theorem z_clearC (ok : TabOk P T) {t e sz b o m c : Nat} {cs : Array Value} {tb : TypeId} {x : Operand} {z : Value} {hp' : Hp} (hx : ev l x = some (.slice (some ⟨b, o, none⟩) m c)) (ht : lk T.sl t = some (e, sz)) (hz : lk T.zs e = some z) (hzs : z.cells.size = sz) (hz1 : z.cells.toList.all (·.oneCell') = true) (h0 : 0 < sz) (hm : 0 < m)
    (hperm : (⟨b, cs, tb⟩ :: hp').Perm hp) (hfit : o + m * sz ≤ cs.size)
    (h : ∀ zs : List Value, zs.length = m * sz → Ops P n w0 mu all rest l (⟨b, putAt cs o zs, tb⟩ :: hp') Q) : Ops P n w0 mu all (⟨none, .call { callee := .builtin .clear, args := #[x], argTypes := #[t] }, ty, pos, af, none⟩ :: rest) l hp Q := by
  intro ac w hk hG
  obtain ⟨hu, hsz⟩ := ok.gsl ht
  have hG' := hG.perm hperm
  have hb := hG'.here _ (List.mem_cons_self ..)
  obtain ⟨zs, hrep⟩ : ∃ zs, zs = (Builtin.zeroCells z.cells m).toList := ⟨_, rfl⟩
  have hlen : zs.length = m * sz := by rw [hrep, Array.length_toList, size_zeroCells, hzs, Nat.mul_comm]
  have hall : ∀ u ∈ zs, u.oneCell' = true := fun u hu => by
    rw [hrep] at hu
    simp only [Builtin.zeroCells, Array.mem_toList_iff, Array.mem_map, Array.mem_range] at hu
    obtain ⟨i, hi, rfl⟩ := hu
    have hlt : i % z.cells.size < z.cells.size := Nat.mod_lt _ (by omega)
    have h2 := (List.all_eq_true.1 hz1) (z.cells[i % z.cells.size]) (by simp)
    simpa [hlt] using h2
  have hst := run_storeCells_cells (P := P) b o zs 0 w
    (fun j hj => by rw [hlen] at hj; rw [cell_of_block hb]; simp [show o + j < cs.size by omega])
    (fun j _ => free_of_block hb) hall
  simp only [Nat.add_zero] at hst
  refine wpList_plain rfl fun K hK => ?_
  unfold Oper.wp execOp
  have hr : (Builtin.clear_ #[t] ty #[.slice (some ⟨b, o, none⟩) m c]).run P w = .ok (.tuple #[]) (w.setCells b o zs) := by
    obtain ⟨m', rfl⟩ : ∃ m', m = m' + 1 := ⟨m - 1, by omega⟩
    simp [Builtin.clear_, run_underlying hu, run_zero (ok.gzs hz) w, ← hrep, hst]
  simp only [resolve, invoke, builtin, Sem.run_bind, Sem.run_pure, Result.andThen_ok, List.map_toArray, List.map_cons, List.map_nil, hk.ev hx, hr]
  exact hK _ _ (h zs hlen _ _ hk (Good.sets (w := w) _ cs o w hG'))
end
/-- What is left of a row whose end is written over. -/
theorem Row.cut_end {g cap n i sz : Nat} {cur : Array Value} {xs : List (List Value)} (h : Row g cap cur sz n xs.flatten) (hall : ∀ c ∈ xs, c.length = sz) (hi : i ≤ n) (hn : xs.length = n) {zs : List Value} (hz : i * sz + zs.length ≤ cur.size) : Row g cap (putAt cur (i * sz) zs) sz i (xs.take i).flatten := by
  have hle : i * sz ≤ n * sz := Nat.mul_le_mul_right _ hi
  refine ⟨by rw [flatten_len (xs.take i) (fun c hc => hall c (List.mem_of_mem_take hc)), List.length_take, Nat.min_eq_left (by omega)], Nat.le_trans hi h.le, h.max, by rw [putAt_size]; exact h.size, ?_⟩
  have hl : (cur.toList.take (i * sz)).length = i * sz := by
    rw [List.length_take, Nat.min_eq_left]; simp; omega
  rw [putAt_list _ _ _ hz, List.append_assoc, List.take_left' hl]
  have h1 := congrArg (List.take (i * sz)) h.take
  rw [List.take_take, Nat.min_eq_left hle] at h1
  rw [h1]
  conv => lhs; rw [← List.take_append_drop i xs]
  rw [List.flatten_append, List.take_left']
  rw [flatten_len (xs.take i) (fun c hc => hall c (List.mem_of_mem_take hc)), List.length_take, Nat.min_eq_left (by omega)]
attribute [local irreducible] Hy St Ops DH DHF DE1 DE2 DE3 DS DCh
theorem range_of_here {w : World} {b : Nat} {cs : List Value} {t : TypeId} (h : w.heap[b]? = some (.cells cs.toArray t (0, 0))) : w.rangeAt b 0 cs := by
  intro j u hu
  rw [cell_of_block h]
  simpa using hu
theorem apply11_e (i : IvD) (e : EnD) (hi : i.may = true) (he : e.may = true) (E : Nat) (w : World) (hE : w.rangeAt E 0 (enV e)) : Fn Try.prog 102 ([] ++ [Value.agg (ivV i).toArray] ++ [Value.pointer (some ⟨E, 0, none⟩)]).toArray w [] (fun u _ => u = .bool (i.takes e)) := by
  refine enter Try.func102 ?_
  refine run ?_
  intro B
  refine callE (fun wc hG => takes_e i e hi he wc) ?_
  refine run ?_
  exact fin1 rfl
theorem apply1_e (ds : List IvD) (hds : ∀ i ∈ ds, i.may = true) (e : EnD) (he : e.may = true) (L : Nat) {w : World} {lv : Value} (hL : w.cell? ⟨L, 0, none⟩ = some lv) (hl : SlAt w lv 4 (ds.map ivV)) : Fn Try.prog 101 ([] ++ [Value.agg (enV e).toArray] ++ [Value.pointer (some ⟨L, 0, none⟩)]).toArray w [] (fun u _ => u = .bool (ds.any fun i => i.takes e)) := by
  obtain ⟨q, cap, rfl, _, _⟩ := hl.opened
  refine enter Try.func101 ?_
  refine run ?_
  intro E
  refine callE (fun wc hG => containsFIv_e (us := [.pointer (some ⟨E, 0, none⟩)]) (fun i => i.takes e) ds _ (hl.good hG) (fun x hx w' ha => apply11_e x e (hds x hx) he E w' ?_)) ?_
  · obtain ⟨hp, hg⟩ := ha
    intro j u hu
    refine hg.cell (range_of_here (cs := enV e) (hG.here _ mh) j u hu) (by simp)
  refine run ?_
  exact fin1 rfl
def keepL (p : EnD → Bool) (es : List EnD) : List EnD := es.filter fun x => !p x
theorem keep_next (p : EnD → Bool) (es : List EnD) {j : Nat} (hj : j < es.length) : keepL p (es.take (j + 1)) = keepL p (es.take j) ++ bif p (es.getD j default) then [] else [es.getD j default] := by
  rw [take_next hj]
  unfold keepL
  rw [List.filter_append]
  cases h : p (es.getD j default) <;> simp only [List.filter_cons, List.filter_nil, h, Bool.not_false, Bool.not_true, if_true, cond_true, cond_false, Bool.false_eq_true, if_false]
theorem row_set {g cap n i : Nat} {cur : Array Value} {ys : List EnD} (h : Row g cap cur 14 n (ys.map enV).flatten) (hi : i < ys.length) (e : EnD) : Row g cap (putAt cur (i * 14) (enV e)) 14 n ((ys.set i e).map enV).flatten := by
  have hput := h.put (fun c hc => (en_all c hc).1) (i := i) (k := 0) (c := enV (ys.getD i default)) (vs := enV e) (by rw [List.getElem?_map, List.getElem?_eq_getElem hi, List.getD_eq_getElem?_getD, List.getElem?_eq_getElem hi]; rfl) (Nat.le_refl 14)
  rw [show (enV (ys.getD i default)).take 0 ++ enV e ++ (enV (ys.getD i default)).drop (0 + (enV e).length) = enV e from rfl, ← List.map_set, Nat.add_zero] at hput
  exact hput
theorem keep_none (p : EnD → Bool) (es : List EnD) {k : Nat} (hk : k ≤ es.length) (h : ∀ j, j < k → p (es.getD j default) = false) : keepL p (es.take k) = es.take k := by
  refine List.filter_eq_self.2 fun x hx => ?_
  obtain ⟨j, hj, rfl⟩ := List.mem_take_iff_getElem.1 hx
  have := h j (by omega)
  rw [List.getD_eq_getElem?_getD, List.getElem?_eq_getElem (by omega), Option.getD_some] at this
  simp [this]
structure DlS where
  i : Nat
  j : Nat
  cur : Array Value
  ys : List EnD
theorem deleteEn_e {w : World} {F : Nat} {us : List Value} (p : EnD → Bool) (es : List EnD) {v : Value} {ha : Hp} (hA : Own 50 14 v ha (es.map enV)) (hN : HereN ha w) (hl : es.length < 100000) (hF : ∀ x, x ∈ es → ∀ w', (∃ hp, Good w (ha.map (·.b)) hp w') → Fn Try.prog F ([] ++ [Value.agg (enV x).toArray] ++ us).toArray w' [] (fun u _ => u = .bool (p x))) (hcal : mem calN F = true := by rfl) :
    Fn Try.prog 100 [v, .func (.func F) [].toArray us.toArray].toArray w (ha.map (·.b)) (fun u hn => Own 50 14 u hn ((keepL p es).map enV)) := by
  have hA0 := hA
  obtain ⟨q, cap, ev⟩ := hA.opened
  rw [List.length_map] at ev
  subst ev
  refine enterM _ hN Try.func100 ?_
  refine run ?_
  refine callE (fun wc hG => indexFEn_e p es _ (hA.lie (fun b hb => hG.here b (by simpa using hb)) (by rw [List.length_map]; omega)) (fun x hx w' ha => hF x hx w' ?_) hcal) ?_
  · obtain ⟨hp, hg⟩ := ha
    exact ⟨_, hG.trans hg⟩
  refine run ?_
  by_cases hex : ∃ j, j < es.length ∧ p (es.getD j default) = true
  · obtain ⟨j1, hj1, hp1⟩ := hex
    obtain ⟨k0, hk0, hp0, hno0⟩ := idx_least p es j1 hp1
    have hlt0 : k0 < es.length := by omega
    rw [idxI_at hlt0 hp0 hno0]
    refine st_cond _ rfl (fun hc => absurd hc (by simp)) (fun hc => ?_)
    obtain ⟨g, cap', cur, ev, rfl, hrow⟩ := hA0.row (n := es.length) (by simp) (by omega)
    cases ev
    refine run ?_
    refine loopS (σ := DlS) (fun s => [(5, .int .i64 (s.i : Int)), (6, .int .i64 (s.j : Int))]) (fun s => [⟨g, s.cur, 50⟩]) (fun s => s.i < s.j ∧ s.j ≤ es.length ∧ s.ys.length = es.length ∧ s.ys.take s.i = keepL p (es.take s.j) ∧ (∀ t, s.j ≤ t → t < es.length → s.ys.getD t default = es.getD t default) ∧ Row g cap s.cur 14 es.length (s.ys.map enV).flatten) (fun s => es.length - s.j) ⟨k0, k0 + 1, cur, es⟩ ⟨by dsimp only; omega, hlt0, rfl, ?_, fun _ _ _ => rfl, hrow⟩ ?_
    · dsimp only
      rw [keep_next p es hlt0, hp0, keep_none p es (by omega) hno0]; simp
    rintro ⟨i, j, cur, ys⟩ m hm ⟨hij, hj, hyl, hyt, hyd, hrow⟩
    dsimp only at hm hij hj hyl hyt hyd hrow ⊢
    have hO : Own 50 14 (.slice (some ⟨g, 0, none⟩) es.length cap) [⟨g, cur, 50⟩] (ys.map enV) := ⟨en_all, .inr ⟨g, cap, cur, by rw [List.length_map, hyl], rfl, by rw [List.length_map, hyl]; exact hrow⟩⟩
    refine run ?_
    refine st_cond _ rfl (fun hc => ?_) (fun hc => ?_)
    · have hlt : j < es.length := by simp at hc; omega
      have hyj := hyd j (Nat.le_refl _) hlt
      have hcut : (cur.toList.drop (j * 14)).take 14 = enV (es.getD j default) := by
        rw [← hyj]
        exact hrow.cut (fun c hc => (en_all c hc).1) (by rw [List.getElem?_map, List.getElem?_eq_getElem (by omega), List.getD_eq_getElem?_getD, List.getElem?_eq_getElem (by omega)]; rfl)
      refine run ?_
      intro V
      refine callF (fun wc hG => hF (es.getD j default) (getD_mem hlt) wc ⟨_, hG⟩) (hcal := hcal) ?_
      refine run ?_
      refine st_cond _ rfl (fun hp => ?_) (fun hp => ?_)
      · have hsz := hrow.size
        have hle := hrow.le
        refine run ?_
        have hpf : p (es.getD j default) = false := by simpa using hp
        have hput := row_set hrow (i := i) (by omega) (es.getD j default)
        generalize hcur : putAt cur (i * 14) (enV (es.getD j default)) = cur' at hput
        simp only [putAt] at hcur
        refine nextS ⟨i + 1, j + 1, cur', ys.set i (es.getD j default)⟩ ⟨by dsimp only; omega, hlt, by dsimp only; rw [List.length_set]; exact hyl, ?_, fun t h1 h2 => ?_, hput⟩ (hm := by dsimp only; omega) (h2 := by dsimp only; rw [hcur]; (refine hpLe_cnt fun a => ?_; simp only [cntB_app, cntB_cons, cntB_nil]; omega))
        · dsimp only
          rw [keep_next p es hlt, hpf, ← hyt]
          have hset : (ys.set i (es.getD j default)).take (i + 1) = ys.take i ++ [es.getD j default] := by
            rw [List.set_eq_take_append_cons_drop, if_pos (by omega), List.take_append, List.length_take, Nat.min_eq_left (by omega), List.take_of_length_le (by rw [List.length_take]; omega), show i + 1 - i = 1 by omega]
            rfl
          rw [hset]; rfl
        · dsimp only at h1 h2 ⊢
          rw [List.getD_eq_getElem?_getD, List.getElem?_set_ne (by omega), ← List.getD_eq_getElem?_getD]
          exact hyd t (by omega) h2
      · refine run ?_
        have hpf : p (es.getD j default) = true := by simpa using hp
        refine nextS ⟨i, j + 1, cur, ys⟩ ⟨by dsimp only; omega, hlt, hyl, ?_, fun t h1 h2 => hyd t (by dsimp only at h1; omega) h2, hrow⟩ (hm := by dsimp only; omega) (h2 := by (refine hpLe_cnt fun a => ?_; simp only [cntB_app, cntB_cons, cntB_nil]; omega))
        dsimp only
        rw [keep_next p es hlt, hpf, ← hyt]; simp
    · have hge : j = es.length := by simp at hc; omega
      subst hge
      refine run ?_
      have hle := hrow.le
      have hsz := hrow.size
      refine op1 (by rfl) (x_sliceL tb_ok rfl rfl (by rfl) (by omega) (by omega) (by omega) (o' := i * 14) (m' := es.length - i) (c' := cap - i) (by omega) (by omega) (by omega)) ?_
      refine z_clearC tb_ok (hp' := []) rfl (by rfl) (by rfl) (by rfl) (by rfl) (by decide) (by omega) (.refl _) (by rw [hsz, Nat.sub_mul]; omega) (fun zs hzs => ?_)
      refine run ?_
      refine op1 (by rfl) (x_sliceH tb_ok rfl rfl (by rfl) (by omega) (by omega) (m' := i) (by simp) (.inr ⟨_, _, rfl⟩)) ?_
      refine run ?_
      refine fin1 ?_
      rw [List.take_length] at hyt
      rw [← hyt]
      refine ⟨en_all, .inr ⟨g, cap, putAt cur (i * 14) zs, by rw [List.length_map, List.length_take, Nat.min_eq_left (by omega)], rfl, ?_⟩⟩
      rw [List.length_map, List.length_take, Nat.min_eq_left (by omega), List.map_take]
      exact hrow.cut_end (fun c hc => (en_all c hc).1) (by omega) (by rw [List.length_map]; exact hyl) (by rw [hzs, hsz, Nat.sub_mul]; omega)
  · have hno : ∀ j, j < es.length → p (es.getD j default) = false := fun j hj => by
      cases hp : p (es.getD j default) with
      | false => rfl
      | true => exact absurd ⟨j, hj, hp⟩ hex
    rw [idxI_none hno]
    refine st_cond _ rfl (fun hc => ?_) (fun hc => absurd hc (by simp))
    refine run ?_
    refine fin1 ?_
    have : keepL p es = es := List.filter_eq_self.2 fun x hx => by
      obtain ⟨j, hj, rfl⟩ := List.getElem_of_mem hx
      have := hno j hj
      rw [List.getD_eq_getElem?_getD, List.getElem?_eq_getElem hj, Option.getD_some] at this
      simp [this]
    rw [this]
    exact hA0
end Go.Proofs.Ytcjbpdejlfomkaa
