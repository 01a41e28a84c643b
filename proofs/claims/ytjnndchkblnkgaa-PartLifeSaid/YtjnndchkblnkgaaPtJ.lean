/- Library: slices.Insert, slices.DeleteFunc of maps. -/
import Derived.Test.YtjnndchkblnkgaaPtI
import Derived.Test.YtjnndchkblnkgaaEngJ
namespace Go.Proofs.Ytjnndchkblnkgaa
open Go.RowKit
set_option linter.unusedVariables false
set_option linter.unusedSimpArgs false
set_option maxRecDepth 20000
attribute [local irreducible] Hy St Ops DH DHF
theorem insert_e {w : World} {v : Value} {ha : Hp} (xs : List MpD) (i : Nat) (x : MpD) (vb tv : Nat) (hA : Own 75 2 v ha (xs.map mpV)) (hN : HereN ha w) (hvb : w.heap[vb]? = some (.cells (mpV x).toArray tv (0, 0))) (hne : vb ∉ ha.map (·.b)) (hi : i ≤ xs.length) (hl : xs.length < 100000) :
    Fn Try.prog 80 [v, .int .i64 (i : Int), .slice (some ⟨vb, 0, none⟩) 1 1].toArray w (ha.map (·.b)) (fun u hn => Own 75 2 u hn ((xs.take i ++ x :: xs.drop i).map mpV)) := by
  obtain ⟨q, cap, ev⟩ := hA.opened
  rw [List.length_map] at ev
  subst ev
  refine enterM _ hN Try.func80 ?_
  have hrv : w.rangeAt vb 0 (mpV x) := fun j u hj => by rw [Nat.zero_add, cell_of_block hvb]; simpa using hj
  refine runC ?_
  refine op1 (by rfl) (x_sliceLV tb_ok rfl rfl rfl (by omega) (by omega)) ?_
  refine runC ?_
  refine st_cond _ rfl (fun hc => ?_) (fun hc => ?_)
  · have hin : i = xs.length := by simp at hc; omega
    subst hin
    refine runC ?_
    refine appendW (c := mpV x) [] hA (fun v' ha' hA' => ?_) (by rw [List.length_map]; omega) (news_old hrv hne) (by rw [List.append_nil])
    refine runC ?_
    refine fin1 ?_
    rw [List.append_nil, List.take_length, List.drop_length, List.map_append]
    exact hA'
  have hlt : i < xs.length := by simp at hc; omega
  obtain ⟨g, cap', cur, ev, rfl, hr⟩ := hA.row (n := xs.length) (by simp) (by omega)
  cases ev
  have hsz := hr.size
  have hcap := hr.le
  have hmax := hr.max
  have hall := hA.1
  have hlen : (xs.map mpV).flatten.length = xs.length * 2 := hr.len
  simp only [List.map_cons, List.map_nil, List.mem_singleton] at hne
  have hxs : (xs.map mpV).flatten = ((xs.take i).map mpV).flatten ++ ((xs.drop i).map mpV).flatten := by rw [← List.flatten_append, ← List.map_append, List.take_append_drop]
  have hTl : ((xs.take i).map mpV).flatten.length = i * 2 := by rw [flatten_len (sz := 2) _ (fun c hc => (mp_all c hc).1), List.length_map, List.length_take, Nat.min_eq_left (by omega)]
  have hDl : ((xs.drop i).map mpV).flatten.length = (xs.length - i) * 2 := by rw [flatten_len (sz := 2) _ (fun c hc => (mp_all c hc).1), List.length_map, List.length_drop]
  have hA0 : cur.toList.take (i * 2) = ((xs.take i).map mpV).flatten := by
    rw [← Nat.min_eq_left (show i * 2 ≤ xs.length * 2 by omega), ← List.take_take, hr.take, hxs]
    exact List.take_left' hTl
  have hD : (cur.toList.drop (i * 2)).take ((xs.length - i) * 2) = ((xs.drop i).map mpV).flatten := by
    have h1 := hr.take
    rw [hxs] at h1
    have h2 : (cur.toList.take (xs.length * 2)).drop (i * 2) = ((xs.drop i).map mpV).flatten := by rw [h1]; exact List.drop_left' hTl
    rw [List.drop_take] at h2
    rw [← h2]; congr 1; omega
  have hD1 : (((xs.drop i).map mpV).flatten).all (·.oneCell') = true := by
    rw [List.all_flatten, List.all_eq_true]
    exact fun c hc => (mp_all c hc).2
  have hlen2 : ((xs.take i ++ x :: xs.drop i).map mpV).length = xs.length + 1 := by
    simp only [List.length_map, List.length_append, List.length_take, List.length_cons, List.length_drop]; omega
  have hall' : ∀ c ∈ (xs.take i ++ x :: xs.drop i).map mpV, c.length = 2 ∧ c.all (·.oneCell') = true := mp_all
  refine runC ?_
  refine op1 (by rfl) (x_cap tb_ok rfl rfl) ?_
  refine runC ?_
  refine st_cond _ rfl (fun hroom => ?_) (fun hroom => ?_)
  · have hroom' : cap < xs.length + 1 := by simp at hroom; omega
    refine runC ?_
    refine op1 (by rfl) (x_sliceH tb_ok rfl rfl rfl (by omega) (by omega) (m' := i) (by simp) (.inr ⟨_, _, rfl⟩)) ?_
    refine runC ?_
    rw [show ((xs.length + 1 : Nat) : Int) - (i : Int) = ((xs.length + 1 - i : Nat) : Int) by omega]
    refine z_appendZ (olds := ((xs.take i).map mpV).flatten) tb_ok (by rfl) rfl rfl rfl rfl rfl rfl rfl rfl hTl (news_own (m := i * 2) mh (by rw [List.drop_zero]; exact hA0)) (by omega) (by omega) (by omega) (by omega) (fun g2 cap2 cur2 hs2 hc2 hm2 ht2 => ?_)
    have hts : i + (xs.length + 1 - i) = xs.length + 1 := by omega
    rw [hts] at hc2 ⊢
    refine runC ?_
    refine op1 (by rfl) (x_sliceL tb_ok rfl rfl rfl (by omega) (by omega) (by omega) (o' := i * 2) (m' := xs.length + 1 - i) (c' := cap2 - i) (by simp) (by simp) (by simp)) ?_
    refine runC ?_
    refine z_copy (news := mpV x) (cs := cur2) tb_ok (by rfl) rfl rfl rfl (.refl _) ?_ ?_ rfl ?_ ?_
    · show 2 = _; omega
    · exact news_old hrv (by simpa using hne)
    · show i * 2 + 2 ≤ _; omega
    refine runC ?_
    refine drawN 8 ?_
    refine runD ?_
    refine opD (x_sliceL tb_ok rfl rfl rfl (by omega) (by omega) (by omega) (o' := i * 2 + 2) (m' := xs.length - i) (c' := cap2 - (i + 1)) (by omega) (by omega) (by omega)) ?_
    refine runD ?_
    refine opD (x_sliceL tb_ok rfl rfl rfl (by omega) (by omega) (by omega) (o' := i * 2) (m' := xs.length - i) (c' := cap - i) (by omega) (by omega) (by omega)) ?_
    refine runD ?_
    refine runC ?_
    refine z_copy (news := ((xs.drop i).map mpV).flatten) tb_ok (by rfl) rfl rfl rfl (.refl _) ?_ (news_own (m := (xs.length - i) * 2) (mt mh) hD) ?_ ?_ ?_
    · rw [hDl]; omega
    · exact hD1
    · rw [putAt_size, hDl]; omega
    refine ops_le [⟨g2, putAt (putAt cur2 (i * 2) (mpV x)) (i * 2 + 2) ((xs.drop i).map mpV).flatten, 75⟩] (by (refine hpLe_cnt fun a => ?_; simp only [cntB_app, cntB_cons, cntB_nil]; omega)) ?_
    refine runC ?_
    refine fin1 ?_
    have hfl : ((xs.take i ++ x :: xs.drop i).map mpV).flatten = ((xs.take i).map mpV).flatten ++ mpV x ++ ((xs.drop i).map mpV).flatten := by simp
    have hb := putAt_two' (cs := cur2) (A := ((xs.take i).map mpV).flatten) (c := mpV x) (D := ((xs.drop i).map mpV).flatten) (by rw [hTl]; exact ht2) (by rw [hTl, hDl]; show i * 2 + 2 + _ ≤ _; omega)
    rw [hTl, hDl, show (mpV x).length = 2 from rfl] at hb
    refine ⟨hall', .inr ⟨g2, cap2, _, by rw [hlen2], rfl, ?_⟩⟩
    rw [hlen2]
    refine ⟨by rw [hfl, List.length_append, List.length_append, hTl, hDl]; show i * 2 + 2 + _ = _; omega, hc2, hm2, by rw [putAt_size, putAt_size]; exact hs2, ?_⟩
    rw [hfl, ← hb]
    congr 1; omega
  · have hroom' : xs.length + 1 ≤ cap := by simp at hroom; omega
    refine runC ?_
    refine op1 (by rfl) (x_sliceH tb_ok rfl rfl rfl (by omega) (by omega) (m' := xs.length + 1) (by omega) (.inr ⟨_, _, rfl⟩)) ?_
    refine runC ?_
    refine op1 (by rfl) (x_sliceL tb_ok rfl rfl rfl (by omega) (by omega) (by omega) (o' := i * 2 + 2) (m' := xs.length - i) (c' := cap - (i + 1)) (by omega) (by omega) (by omega)) ?_
    refine runC ?_
    refine op1 (by rfl) (x_ext (v := .bool false) rfl (fun w' hG => ?_)) ?_
    · have hg := hG.here ⟨g, cur, 75⟩ (by simp)
      have hv' : w'.heap[vb]? = some (.cells (mpV x).toArray tv (0, 0)) := by
        rw [hG.old vb ?_ (by simpa using hne)]
        · exact hvb
        · exact (Array.getElem?_eq_some_iff.1 hvb).1
      have hr := Lib.run_overlaps_apart (P := Try.prog) w' 55 4 75 (tb_ok.gsl (t := 55) (e := 75) (s := 2) rfl).1 2 (fun w => run_sizeOf (tb_ok.gsl (t := 55) (e := 75) (s := 2) rfl).2 w) ⟨vb, 0, none⟩ ⟨g, i * 2 + 2, none⟩ 1 1 (xs.length - i) (cap - (i + 1)) (by simpa using hne) tv 75 2 cur.size (by simp only [World.shape?, hv']; rfl) (by simp only [World.shape?, hg]) (by omega) (free_of_block hv') (free_of_block hv')
      rw [run_callFunc_extern Try.func86 (by kernel_rfl) (by kernel_rfl) (by kernel_rfl) (e := Extern.SlicesOverlaps.overlaps #[55, 55] #[4]) (by kernel_rfl)]
      rw [show ([Value.slice (some ⟨vb, 0, none⟩) 1 1, .slice (some ⟨g, i * 2 + 2, none⟩) (xs.length - i) (cap - (i + 1))] : List Value).toArray = #[Value.slice (some ⟨vb, 0, none⟩) 1 1, .slice (some ⟨g, i * 2 + 2, none⟩) (xs.length - i) (cap - (i + 1))] from rfl, hr]
      rfl
    refine runC ?_
    refine drawN 8 ?_
    refine runD ?_
    refine opD (x_sliceL tb_ok rfl rfl rfl (by omega) (by omega) (by omega) (o' := i * 2 + 2) (m' := xs.length - i) (c' := cap - (i + 1)) (by omega) (by omega) (by omega)) ?_
    refine runD ?_
    refine opD (x_sliceL tb_ok rfl rfl rfl (by omega) (by omega) (by omega) (o' := i * 2) (m' := xs.length + 1 - i) (c' := cap - i) (by omega) (by omega) (by omega)) ?_
    refine runD ?_
    refine runC ?_
    refine z_copy (news := ((xs.drop i).map mpV).flatten) tb_ok (by rfl) rfl rfl rfl (.refl _) ?_ (news_own (m := (xs.length - i) * 2) mh hD) ?_ ?_ ?_
    · rw [hDl]; omega
    · exact hD1
    · rw [hDl]; omega
    refine runC ?_
    refine op1 (by rfl) (x_sliceL tb_ok rfl rfl rfl (by omega) (by omega) (by omega) (o' := i * 2) (m' := xs.length + 1 - i) (c' := cap - i) (by omega) (by omega) (by omega)) ?_
    refine runC ?_
    refine z_copy (news := mpV x) tb_ok (by rfl) rfl rfl rfl (.refl _) ?_ ?_ rfl ?_ ?_
    · show 2 = _; omega
    · exact news_old hrv (by simpa using hne)
    · rw [putAt_size]; show i * 2 + 2 ≤ _; omega
    refine runC ?_
    refine fin1 ?_
    have hfl : ((xs.take i ++ x :: xs.drop i).map mpV).flatten = ((xs.take i).map mpV).flatten ++ mpV x ++ ((xs.drop i).map mpV).flatten := by simp
    have hb := putAt_two (cs := cur) (A := ((xs.take i).map mpV).flatten) (c := mpV x) (D := ((xs.drop i).map mpV).flatten) (by rw [hTl]; exact hA0) (by rw [hTl, hDl]; show i * 2 + 2 + _ ≤ _; omega)
    rw [hTl, hDl, show (mpV x).length = 2 from rfl] at hb
    refine ⟨hall', .inr ⟨g, cap, _, by rw [hlen2], rfl, ?_⟩⟩
    rw [hlen2]
    refine ⟨by rw [hfl, List.length_append, List.length_append, hTl, hDl]; show i * 2 + 2 + _ = _; omega, hroom', hmax, by rw [putAt_size, putAt_size]; exact hsz, ?_⟩
    rw [hfl, ← hb]
    congr 1; omega
theorem unmap1_e (x : MpD) (f : Int) (B : Nat) (w : World) (hB : w.cell? ⟨B, 0, none⟩ = some (.int .i64 f)) : Fn Try.prog 82 ([] ++ [Value.agg #[.int .i64 x.mid, .int .i64 x.frm]] ++ [Value.pointer (some ⟨B, 0, none⟩)]).toArray w [] (fun u _ => u = .bool (decide (x.frm = f))) := by
  refine enter Try.func82 ?_
  refine run ?_
  intro b
  exact fin1 rfl
theorem indexMap_e {w : World} {F : Nat} {us : List Value} (p : MpD → Bool) (xs : List MpD) (v : Value) (h : SlAt w v 2 (xs.map mpV)) (hF : ∀ x, ∀ w', Aft w w' → Fn Try.prog F ([] ++ [Value.agg #[.int .i64 x.mid, .int .i64 x.frm]] ++ us).toArray w' [] (fun u _ => u = .bool (p x))) (hcal : mem calN F = true := by rfl) :
    Fn Try.prog 88 [v, .func (.func F) [].toArray us.toArray].toArray w [] (fun u _ => u = .int .i64 (idxI p xs)) := by
  obtain ⟨q, cap, rfl, hne, hle⟩ := h.opened
  refine enter Try.func88 ?_
  refine run ?_
  refine loopS (σ := Nat) (fun k => [(8, .int .i64 (k : Int))]) (fun _ => []) (fun k => k ≤ xs.length ∧ ∀ j, j < k → p (xs.getD j default) = false) (fun k => xs.length - k) 0 ⟨Nat.zero_le _, fun j hj => absurd hj (by omega)⟩ ?_
  rintro k m rfl ⟨hk, hno⟩
  refine run ?_
  refine st_cond _ rfl (fun hc => ?_) (fun hc => ?_)
  · have hlt : k < xs.length := by simpa using hc
    obtain ⟨b, o, rfl⟩ := hne (by intro e; subst e; simp at hlt)
    have hr := h.row hlt
    simp only [mpV] at hr
    refine run ?_
    refine callF (fun wc hG => hF (xs.getD k default) wc ⟨_, hG⟩) (hcal := hcal) ?_
    refine run ?_
    refine st_cond _ rfl (fun hp => ?_) (fun hp => ?_)
    · refine run ?_
      refine fin1 ?_
      rw [idxI_at hlt hp hno]
    · refine run ?_
      refine nextS (k + 1) ⟨hlt, fun j hj => ?_⟩
      rcases Nat.lt_succ_iff_lt_or_eq.1 hj with hj | rfl
      · exact hno j hj
      · exact hp
  · have hge : k = xs.length := by simp at hc; omega
    subst hge
    refine run ?_
    refine fin1 ?_
    rw [idxI_none hno]
namespace PtD
def delM (l : List MpD) (f : Int) : List MpD := l.filter fun m => !decide (m.frm = f)
theorem delM_keep {xs : List MpD} {f : Int} {j : Nat} (hj : j < xs.length) (h : decide ((xs.getD j default).frm = f) = false) : delM (xs.take (j + 1)) f = delM (xs.take j) f ++ [xs.getD j default] := by
  rw [take_next hj, delM, List.filter_append, delM, List.filter_cons, List.filter_nil, h]; simp
theorem delM_skip {xs : List MpD} {f : Int} {j : Nat} (hj : j < xs.length) (h : decide ((xs.getD j default).frm = f) = true) : delM (xs.take (j + 1)) f = delM (xs.take j) f := by
  rw [take_next hj, delM, List.filter_append, delM, List.filter_cons, List.filter_nil, h]; simp
theorem first_hit {p : Nat → Bool} : ∀ n, (∀ j, j < n → p j = false) ∨ ∃ k, k < n ∧ p k = true ∧ ∀ j, j < k → p j = false := by
  intro n
  induction n with
  | zero => exact .inl fun j hj => absurd hj (by omega)
  | succ n ih =>
    rcases ih with h | ⟨k, hk, h1, h2⟩
    · cases hn : p n
      · refine .inl fun j hj => ?_
        rcases Nat.lt_succ_iff_lt_or_eq.1 hj with hj | rfl
        · exact h j hj
        · exact hn
      · exact .inr ⟨n, by omega, hn, h⟩
    · exact .inr ⟨k, by omega, h1, h2⟩
theorem delM_all {xs : List MpD} {f : Int} (h : ∀ j, j < xs.length → decide ((xs.getD j default).frm = f) = false) : delM xs f = xs := by
  rw [delM, List.filter_eq_self]
  intro x hx
  obtain ⟨j, hj, rfl⟩ := List.mem_iff_getElem.1 hx
  have := h j hj
  rw [List.getD_eq_getElem?_getD, List.getElem?_eq_getElem hj] at this
  simpa using this
end PtD
theorem delete_e {w : World} {v : Value} {ha : Hp} (xs : List MpD) (f : Int) (B : Nat) (hA : Own 75 2 v ha (xs.map mpV)) (hN : HereN ha w) (hB : w.cell? ⟨B, 0, none⟩ = some (.int .i64 f)) (hne : B ∉ ha.map (·.b)) (hl : xs.length < 100000) :
    Fn Try.prog 81 [v, .func (.func 82) [].toArray [Value.pointer (some ⟨B, 0, none⟩)].toArray].toArray w (ha.map (·.b)) (fun u hn => Own 75 2 u hn ((PtD.delM xs f).map mpV)) := by
  obtain ⟨q, cap, ev⟩ := hA.opened
  rw [List.length_map] at ev
  subst ev
  refine enterM _ hN Try.func81 ?_
  refine runC ?_
  refine callE (fun wc hG => indexMap_e (us := [Value.pointer (some ⟨B, 0, none⟩)]) (fun m => decide (m.frm = f)) xs _ ?_ (fun x w' hw => unmap1_e x f B w' ?_)) ?_
  · exact hA.lie (w := wc) (fun e he => hG.here e he) (by rw [List.length_map]; omega)
  · obtain ⟨_, hg⟩ := hw
    exact hg.cell (hG.cell hB hne) (by simp)
  rcases PtD.first_hit (p := fun j => decide ((xs.getD j default).frm = f)) xs.length with hno | ⟨k0, hk0, hf0, hall0⟩
  · rw [idxI_none hno]
    refine runC ?_
    refine fin1 ?_
    rw [PtD.delM_all hno]
    exact hA
  rw [idxI_at hk0 hf0 hall0]
  obtain ⟨g, cap', cur, ev, rfl, hr⟩ := hA.row (n := xs.length) (by simp) (by omega)
  cases ev
  have hmax := hr.max
  have hcap := hr.le
  refine runC ?_
  refine st_cond _ rfl (fun hp => by simp at hp) (fun _ => ?_)
  have hkept0 : PtD.delM (xs.take k0) f = xs.take k0 := PtD.delM_all fun j hj => by
    rw [List.length_take] at hj
    have := hall0 j (by omega)
    rw [List.getD_eq_getElem?_getD, List.getElem?_take, if_pos (by omega), ← List.getD_eq_getElem?_getD]
    exact this
  refine runC ?_
  refine loopS (σ := Nat × Nat × Array Value × List MpD) (fun s => [(5, .int .i64 (s.1 : Int)), (6, .int .i64 (s.2.1 : Int))]) (fun s => [⟨g, s.2.2.1, 75⟩]) (fun s => s.1 < s.2.1 ∧ s.2.1 ≤ xs.length ∧ Row g cap s.2.2.1 2 xs.length (s.2.2.2.map mpV).flatten ∧ s.2.2.2.length = xs.length ∧ s.2.2.2.take s.1 = PtD.delM (xs.take s.2.1) f ∧ s.2.2.2.drop s.2.1 = xs.drop s.2.1) (fun s => xs.length - s.2.1) (k0, k0 + 1, cur, xs) ⟨Nat.lt_succ_self _, hk0, hr, rfl, by rw [PtD.delM_skip hk0 hf0, hkept0], rfl⟩ ?_
  rintro ⟨i, j, cu, ys⟩ m hm ⟨hij, hj, hrow, hyl, htk, hdr⟩
  dsimp only at hm hij hj hrow hyl htk hdr ⊢
  have hys := hrow.size
  refine runC ?_
  refine st_cond _ rfl (fun hc => ?_) (fun hc => ?_)
  · have hlt : j < xs.length := by simp at hc; omega
    have hyj : ys.getD j default = xs.getD j default := by
      have := congrArg (fun l => l[0]?) hdr
      simp only [List.getElem?_drop, Nat.add_zero] at this
      rw [List.getD_eq_getElem?_getD, List.getD_eq_getElem?_getD, this]
    have hat : (ys.map mpV)[j]? = some (mpV (xs.getD j default)) := by
      rw [← hyj, List.getElem?_map, List.getD_eq_getElem?_getD, List.getElem?_eq_getElem (by omega)]; rfl
    have hcut := hrow.cut (fun c hc => (mp_all c hc).1) hat
    simp only [mpV] at hcut
    have hil : i < ys.length := by omega
    have hati : (ys.map mpV)[i]? = some (mpV (ys.getD i default)) := by
      rw [List.getElem?_map, List.getD_eq_getElem?_getD, List.getElem?_eq_getElem hil]; rfl
    have hput := hrow.put (fun c hc => (mp_all c hc).1) hati (k := 0) (vs := mpV (xs.getD j default)) (by simp [mpV])
    have hput' : Row g cap (putAt cu (i * 2) (mpV (xs.getD j default))) 2 xs.length ((ys.set i (xs.getD j default)).map mpV).flatten := by
      rw [List.map_set]; exact hput
    have hjs : j * 2 + 2 ≤ cu.size := by omega
    refine runC ?_
    intro V
    refine callF (us := [Value.pointer (some ⟨B, 0, none⟩)]) (fun wc hG => unmap1_e (xs.getD j default) f B wc (hG.cell hB hne)) ?_
    refine runC ?_
    refine st_cond _ rfl (fun hp => ?_) (fun hp => ?_)
    · simp only [Bool.not_eq_true'] at hp
      refine runC ?_
      refine nextS (i + 1, j + 1, putAt cu (i * 2) (mpV (xs.getD j default)), ys.set i (xs.getD j default)) (hm := by dsimp only; omega) ⟨Nat.succ_lt_succ hij, hlt, hput', by rw [List.length_set]; exact hyl, ?_, ?_⟩
      · dsimp only
        rw [PtD.delM_keep hlt hp, ← htk, List.take_set, take_next (show i < ys.length from hil)]
        have : (ys.take i).length = i := by rw [List.length_take]; omega
        rw [List.set_append, if_neg (by omega), this, Nat.sub_self]
        rfl
      · dsimp only
        rw [List.drop_set_of_lt (by omega), ← List.drop_drop, hdr, List.drop_drop]
    · simp only [Bool.not_eq_false'] at hp
      refine runC ?_
      refine nextS (i, j + 1, cu, ys) (hm := by dsimp only; omega) ⟨Nat.lt_succ_of_lt hij, hlt, hrow, hyl, ?_, ?_⟩
      · dsimp only
        rw [PtD.delM_skip hlt hp]; exact htk
      · dsimp only
        rw [← List.drop_drop, hdr, List.drop_drop]
  · have hge : j = xs.length := by simp at hc; omega
    subst hge
    rw [List.take_length] at htk
    have hil : i ≤ ys.length := by omega
    have htl : (ys.take i).length = i := by rw [List.length_take]; omega
    have hil2 : i = (PtD.delM xs f).length := by rw [← htk, htl]
    refine runC ?_
    refine op1 (by rfl) (x_sliceL tb_ok rfl rfl rfl (by omega) (by omega) (by omega) (o' := i * 2) (m' := xs.length - i) (c' := cap - i) (by omega) (by omega) (by omega)) ?_
    refine z_clear0 (cs := cu) tb_ok rfl rfl rfl rfl rfl (by omega) (.refl _) (by omega) (fun vs hvs => ?_)
    refine runC ?_
    refine op1 (by rfl) (x_sliceH tb_ok rfl rfl rfl (by omega) (by omega) (m' := i) (by simp) (.inr ⟨_, _, rfl⟩)) ?_
    refine runC ?_
    refine fin1 ?_
    refine ⟨mp_all, .inr ⟨g, cap, _, by rw [List.length_map, ← hil2], rfl, ?_⟩⟩
    rw [List.length_map, ← hil2, ← htk]
    refine ⟨by rw [flatten_len (sz := 2) _ (fun c hc => (mp_all c hc).1), List.length_map, htl], by omega, hmax, by rw [putAt_size]; exact hys, ?_⟩
    rw [putAt_list _ _ _ (by rw [hvs]; omega), List.append_assoc, List.take_append, List.take_take, Nat.min_self, List.length_take, show i * 2 - min (i * 2) cu.toList.length = 0 by simp; omega, List.take_zero, List.append_nil]
    have h1 := hrow.take
    have h2 : (ys.map mpV).flatten = ((ys.take i).map mpV).flatten ++ ((ys.drop i).map mpV).flatten := by rw [← List.flatten_append, ← List.map_append, List.take_append_drop]
    rw [← Nat.min_eq_left (show i * 2 ≤ xs.length * 2 by omega), ← List.take_take, h1, h2]
    exact List.take_left' (by rw [flatten_len (sz := 2) _ (fun c hc => (mp_all c hc).1), List.length_map, htl])
end Go.Proofs.Ytjnndchkblnkgaa
