/- Layer 16: scripts whose calls are of one kind; scripts opened. -/
import Derived.Test.YtcjbpdejlfomkaaPgI
import Derived.Test.YtcjbpdejlfomkaaLay1
namespace Go.Proofs.Ytcjbpdejlfomkaa
open Go.ChangeShapes Go.WideShapes Go.ChangeAt Go.RowKit
set_option linter.unusedVariables false
set_option linter.unusedSimpArgs false
set_option maxRecDepth 20000
attribute [local irreducible] Hy St Ops DH DHF
theorem only16_e {w : World} {wv fv lv : Value} {S : SkD} (h : SkAt w wv fv lv S) (k : Int) (hk : k = 1 ∨ k = 4 ∨ k = 5) : Fn Try.prog 45 [.agg #[wv, .int .i64 S.root, fv, lv], .int .i64 k].toArray w [] (fun u _ => u = .bool true) := by
  have h' := h
  obtain ⟨q1, c1, rfl, _, _⟩ := h.ws.opened
  obtain ⟨q2, c2, rfl, _, _⟩ := h.fr.opened
  obtain ⟨q3, c3, rfl, hne, _⟩ := h.ac.opened
  refine enter Try.func45 ?_
  refine run ?_
  intro B
  refine run ?_
  refine callV (fun wc hG => heavy_e (h'.good hG)) ?_
  rintro _ ⟨hb, rfl, hsm⟩
  refine run ?_
  refine st_cond _ rfl (fun hc => ?_) (fun hc => ?_)
  · refine run ?_
    exact fin1 rfl
  obtain ⟨hwl, hfl, hal⟩ := hsm hc
  refine run ?_
  intro Q
  refine run ?_
  refine loopS (σ := Nat × Value × Hp × List AcD) (fun s => [(6, .int .i64 (s.1 : Int))]) (fun s => ⟨Q, #[.slice q1 S.ws.length c1, .int .i64 S.root, .slice q2 S.free.length c2, s.2.1], 28⟩ :: ⟨B, #[.slice q1 S.ws.length c1, .int .i64 S.root, .slice q2 S.free.length c2, .slice q3 S.acts.length c3], 28⟩ :: s.2.2.1) (fun s => s.1 ≤ S.acts.length ∧ s.2.2.2.length = s.1 ∧ Acc 40 13 s.2.1 s.2.2.1 (s.2.2.2.map acV) ∧ (∀ a ∈ s.2.2.2, a.ll ≤ 140737488351232 ∧ (a.dd = 0 ∨ a.dd = 1 ∨ a.dd = 4 ∨ a.dd = 5))) (fun s => S.acts.length - s.1) (0, .slice none 0 0, [], []) ⟨Nat.zero_le _, rfl, Acc.nil _ _, by simp⟩ ?_
  rintro ⟨i, lq, ha, xs⟩ m hm ⟨hi, hxl, hA, hxs⟩
  dsimp only at hm hi hxl hA hxs ⊢
  obtain ⟨ql, cl, el⟩ := hA.own.opened
  rw [List.length_map] at el
  subst el
  refine run ?_
  refine st_cond _ rfl (fun hc2 => ?_) (fun hc2 => ?_)
  · have hlt : i < S.acts.length := by simp at hc2; omega
    obtain ⟨b3, o3, rfl⟩ := hne (by intro e; rw [e] at hlt; simp at hlt)
    have hr := h.ac.row hlt
    have hll := h.ll (S.acts.getD i default) (by rw [List.getD_eq_getElem?_getD, List.getElem?_eq_getElem hlt]; simp)
    generalize S.acts.getD i default = a at hr hll
    simp only [acV] at hr
    refine run ?_
    intro A
    refine run ?_
    refine op1 (by rfl) (x_remN rfl rfl i 2 rfl rfl (by decide)) ?_
    refine run ?_
    refine st_cutD (σ := Int) (fun _ => []) (fun z => ⟨A, #[.int .i64 z, .int .i64 a.mid, .int .i64 a.n, .int .i64 a.d.kind, .int .i64 a.d.frame, .bool a.d.r, .bool a.d.w, .bool a.d.x, .bool a.d.af, .bool a.d.ng, .int .i64 a.d.soft, .int .i64 a.d.note, .slice a.lp a.ll a.lc], 40⟩ :: ⟨Q, #[.slice q1 S.ws.length c1, .int .i64 S.root, .slice q2 S.free.length c2, .slice ql xs.length cl], 28⟩ :: ⟨B, #[.slice q1 S.ws.length c1, .int .i64 S.root, .slice q2 S.free.length c2, .slice (some ⟨b3, o3, none⟩) S.acts.length c3], 28⟩ :: ha) (fun z => z = 0 ∨ z = k) ?_ ?_
    · refine st_cond _ rfl (fun hc3 => ?_) (fun hc3 => ?_)
      · refine run ?_
        exact meetS 0 (.inl rfl)
      · refine run ?_
        exact meetS k (.inr rfl)
    rintro z hz
    refine run ?_
    intro D
    refine appendA (c := acV { a with dd := z }) (hp' := [⟨D, #[.int .i64 z, .int .i64 a.mid, .int .i64 a.n, .int .i64 a.d.kind, .int .i64 a.d.frame, .bool a.d.r, .bool a.d.w, .bool a.d.x, .bool a.d.af, .bool a.d.ng, .int .i64 a.d.soft, .int .i64 a.d.note, .slice a.lp a.ll a.lc], 40⟩, ⟨A, #[.int .i64 z, .int .i64 a.mid, .int .i64 a.n, .int .i64 a.d.kind, .int .i64 a.d.frame, .bool a.d.r, .bool a.d.w, .bool a.d.x, .bool a.d.af, .bool a.d.ng, .int .i64 a.d.soft, .int .i64 a.d.note, .slice a.lp a.ll a.lc], 40⟩, ⟨Q, #[.slice q1 S.ws.length c1, .int .i64 S.root, .slice q2 S.free.length c2, .slice ql xs.length cl], 28⟩, ⟨B, #[.slice q1 S.ws.length c1, .int .i64 S.root, .slice q2 S.free.length c2, .slice (some ⟨b3, o3, none⟩) S.acts.length c3], 28⟩]) hA (fun v' ha' hA' => ?_) (by rw [List.length_map]; omega) (news_own (m := 13) mh rfl) (hperm := by (refine perm_cnt fun a => ?_; simp only [cntB_app, cntB_cons, cntB_nil]; omega))
    rw [show xs.map acV ++ [acV { a with dd := z }] = (xs ++ [{ a with dd := z }]).map acV by simp] at hA'
    obtain ⟨q5, c5, e5⟩ := hA'.own.opened
    rw [List.length_map] at e5
    subst e5
    refine ops_le (⟨Q, #[.slice q1 S.ws.length c1, .int .i64 S.root, .slice q2 S.free.length c2, .slice ql xs.length cl], 28⟩ :: ⟨B, #[.slice q1 S.ws.length c1, .int .i64 S.root, .slice q2 S.free.length c2, .slice (some ⟨b3, o3, none⟩) S.acts.length c3], 28⟩ :: ha') (by (refine hpLe_cnt fun a => ?_; simp only [cntB_app, cntB_cons, cntB_nil]; omega)) ?_
    refine run ?_
    refine nextS (i + 1, .slice q5 (xs ++ [{ a with dd := z }]).length c5, ha', xs ++ [{ a with dd := z }]) ⟨hlt, by simp [hxl], hA', fun y hy => ?_⟩ (h2 := by (refine hpLe_cnt fun a => ?_; simp only [cntB_app, cntB_cons, cntB_nil]; omega))
    rcases List.mem_append.1 hy with hy | hy
    · exact hxs y hy
    · obtain rfl := List.mem_singleton.1 hy
      refine ⟨hll, ?_⟩
      dsimp only
      rcases hz with rfl | rfl
      · exact .inl rfl
      · rcases hk with e | e | e <;> simp [e]
  · refine run ?_
    refine callE (fun wc hG => exact16_e (S := ⟨S.ws, S.root, S.free, xs⟩) ⟨h.w64, h.ws.good hG, h.fr.good hG, hA.own.lie (fun b hb => hG.here b (by simp [hb])) (by rw [List.length_map]; omega), h.wl, h.fl, by dsimp only; omega, fun a ha => (hxs a ha).1⟩ (fun a ha => (hxs a ha).2)) ?_
    refine run ?_
    exact fin1 rfl
theorem lawPgtMaps_e {w : World} {wv fv lv : Value} {S : SkD} (h : SkAt w wv fv lv S) : Fn Try.prog 8 [.agg #[wv, .int .i64 S.root, fv, lv]].toArray w [] (fun u _ => u = .bool true) := by
  have h' := h
  obtain ⟨q1, c1, rfl, _, _⟩ := h.ws.opened
  obtain ⟨q2, c2, rfl, _, _⟩ := h.fr.opened
  obtain ⟨q3, c3, rfl, _, _⟩ := h.ac.opened
  refine enter Try.func8 ?_
  refine run ?_
  intro B
  refine run ?_
  refine callE (fun wc hG => only16_e (h'.good hG) 1 (.inl rfl)) ?_
  refine run ?_
  exact fin1 rfl
theorem lawPgtUnmaps_e {w : World} {wv fv lv : Value} {S : SkD} (h : SkAt w wv fv lv S) : Fn Try.prog 9 [.agg #[wv, .int .i64 S.root, fv, lv]].toArray w [] (fun u _ => u = .bool true) := by
  have h' := h
  obtain ⟨q1, c1, rfl, _, _⟩ := h.ws.opened
  obtain ⟨q2, c2, rfl, _, _⟩ := h.fr.opened
  obtain ⟨q3, c3, rfl, _, _⟩ := h.ac.opened
  refine enter Try.func9 ?_
  refine run ?_
  intro B
  refine run ?_
  refine callE (fun wc hG => only16_e (h'.good hG) 4 (.inr (.inl rfl))) ?_
  refine run ?_
  exact fin1 rfl
theorem lawPgtSplits_e {w : World} {wv fv lv : Value} {S : SkD} (h : SkAt w wv fv lv S) : Fn Try.prog 10 [.agg #[wv, .int .i64 S.root, fv, lv]].toArray w [] (fun u _ => u = .bool true) := by
  have h' := h
  obtain ⟨q1, c1, rfl, _, _⟩ := h.ws.opened
  obtain ⟨q2, c2, rfl, _, _⟩ := h.fr.opened
  obtain ⟨q3, c3, rfl, _, _⟩ := h.ac.opened
  refine enter Try.func10 ?_
  refine run ?_
  intro B
  refine run ?_
  refine callE (fun wc hG => only16_e (h'.good hG) 5 (.inr (.inr rfl))) ?_
  refine run ?_
  exact fin1 rfl
section
variable {H : Type} {enc : TypeId × Value → H} {w : World} {base : Nat} {spare : Nat → Bool} {held : Bool}
theorem okW_u {v : Value} (h : okW (.i .u64) v = true) : ∃ a : Nat, v = .int .u64 (a : Int) ∧ a < 18446744073709551616 := by
  cases v <;> simp only [okW, Bool.and_eq_true, decide_eq_true_eq, Bool.false_eq_true] at h
  obtain ⟨rfl, h⟩ := h
  rename_i n
  simp only [Lit.wf, Bool.and_eq_true, decide_eq_true_eq] at h
  have h0 : 0 ≤ n := Int.le_trans (by decide) h.1
  have h1 : n ≤ 18446744073709551615 := Int.le_trans h.2 (by decide)
  exact ⟨n.toNat, by rw [Int.toNat_of_nonneg h0], by omega⟩
theorem open_words {fuel : Nat} {cs : List Value} {x : DataW H × List MemPlace} (h : DataW.trod enc Try.prog w base spare held fuel 22 cs = some x) (hz : Szd Try.prog 22 x.1) : ∃ v, ∃ xs : List Nat, cs = [v] ∧ SlAt w v 1 (xs.map uV) ∧ (∀ a ∈ xs, a < 18446744073709551616) ∧ xs.length ≤ reachBytes :=
  open_flatL (ks := [.i .u64]) Try.underlying22 (by kernel_rfl) (by kernel_rfl) (by decide) (by kernel_rfl) (fun cs h => by
    obtain ⟨_, _, rfl, h1, h⟩ := okLvW_cons h
    obtain rfl := okLvW_nil h
    obtain ⟨a, rfl, ha⟩ := okW_u h1
    exact ⟨a, rfl, ha⟩) h hz
theorem open_intsL {fuel : Nat} {cs : List Value} {x : DataW H × List MemPlace} (h : DataW.trod enc Try.prog w base spare held fuel 25 cs = some x) (hz : Szd Try.prog 25 x.1) : ∃ v, ∃ xs : List Int, cs = [v] ∧ SlAt w v 1 (xs.map inV) ∧ (∀ a ∈ xs, I64 a) ∧ xs.length ≤ reachBytes :=
  open_flatL (ks := [.i .i64]) Try.underlying25 (by kernel_rfl) (by kernel_rfl) (by decide) (by kernel_rfl) (fun cs h => by
    obtain ⟨_, _, rfl, h1, h⟩ := okLvW_cons h
    obtain rfl := okLvW_nil h
    obtain ⟨a, rfl, ha⟩ := okW_i h1
    exact ⟨a, rfl, ha⟩) h hz
theorem desc_of {cs : List Value} (h : okLvW [.i .i64, .i .i64, .b, .b, .b, .b, .b, .i .i64, .i .i64] cs = true) : ∃ d : DsD, cs = [.int .i64 d.kind, .int .i64 d.frame, .bool d.r, .bool d.w, .bool d.x, .bool d.af, .bool d.ng, .int .i64 d.soft, .int .i64 d.note] := by
  obtain ⟨_, _, rfl, h1, h⟩ := okLvW_cons h
  obtain ⟨_, _, rfl, h2, h⟩ := okLvW_cons h
  obtain ⟨_, _, rfl, h3, h⟩ := okLvW_cons h
  obtain ⟨_, _, rfl, h4, h⟩ := okLvW_cons h
  obtain ⟨_, _, rfl, h5, h⟩ := okLvW_cons h
  obtain ⟨_, _, rfl, h6, h⟩ := okLvW_cons h
  obtain ⟨_, _, rfl, h7, h⟩ := okLvW_cons h
  obtain ⟨_, _, rfl, h8, h⟩ := okLvW_cons h
  obtain ⟨_, _, rfl, h9, h⟩ := okLvW_cons h
  obtain rfl := okLvW_nil h
  obtain ⟨a1, rfl, _⟩ := okW_i h1
  obtain ⟨a2, rfl, _⟩ := okW_i h2
  obtain ⟨a3, rfl⟩ := okW_b h3
  obtain ⟨a4, rfl⟩ := okW_b h4
  obtain ⟨a5, rfl⟩ := okW_b h5
  obtain ⟨a6, rfl⟩ := okW_b h6
  obtain ⟨a7, rfl⟩ := okW_b h7
  obtain ⟨a8, rfl, _⟩ := okW_i h8
  obtain ⟨a9, rfl, _⟩ := okW_i h9
  exact ⟨⟨a1, a2, a3, a4, a5, a6, a7, a8, a9⟩, rfl⟩
theorem open_act {fuel : Nat} {cs : List Value} {x : DataW H × List MemPlace} (h : DataW.trod enc Try.prog w base spare held fuel 40 cs = some x) (hz : Szd Try.prog 40 x.1) : ∃ a : AcD, cs = acV a ∧ a.ll ≤ reachBytes := by
  obtain ⟨hl, n, hf⟩ := trod_fields Try.underlying40 h hz
  rw [cellsOf_sz (show szOf Try.prog 40 = some 13 from tb_ok.gsz rfl)] at hl
  match cs, hl with
  | [c0, c1, c2, c3, c4, c5, c6, c7, c8, c9, c10, c11, c12], _ =>
    have c1s : Try.prog.cellsOf 3 = 1 := by kernel_rfl
    have c2s : Try.prog.cellsOf 38 = 9 := by kernel_rfl
    have c3s : Try.prog.cellsOf 25 = 1 := by kernel_rfl
    obtain ⟨_, h0, _⟩ := hf 0 _ rfl
    obtain ⟨_, h1, _⟩ := hf 1 _ rfl
    obtain ⟨_, h2, _⟩ := hf 2 _ rfl
    obtain ⟨_, h3, _⟩ := hf 3 _ rfl
    obtain ⟨_, h4, z4⟩ := hf 4 _ rfl
    simp only [List.getElem_toArray, List.getElem_cons_zero, List.getElem_cons_succ, c1s, c2s, c3s, List.drop_zero, List.drop_succ_cons, List.take_succ_cons, List.take_zero] at h0 h1 h2 h3 h4 z4
    obtain ⟨k0, e0, _⟩ := DataW.trod_int Try.underlying3 h0
    obtain ⟨k1, e1, _⟩ := DataW.trod_int Try.underlying3 h1
    obtain ⟨k2, e2, _⟩ := DataW.trod_int Try.underlying3 h2
    obtain ⟨d, e3⟩ := desc_of (trod_leaves 8 38 [.i .i64, .i .i64, .b, .b, .b, .b, .b, .i .i64, .i .i64] (by kernel_rfl) (by kernel_rfl) _ _ _ h3)
    obtain ⟨v, xs, e4, s4, _, l4⟩ := open_intsL h4 z4
    obtain ⟨p, c, rfl, _, _⟩ := s4.opened
    cases e0; cases e1; cases e2; cases e3; cases e4
    exact ⟨⟨k0, k1, k2, d, p, xs.length, c⟩, rfl, l4⟩
theorem open_acts16 {fuel : Nat} {cs : List Value} {x : DataW H × List MemPlace} (h : DataW.trod enc Try.prog w base spare held fuel 26 cs = some x) (hz : Szd Try.prog 26 x.1) : ∃ v, ∃ xs : List AcD, cs = [v] ∧ SlAt w v 13 (xs.map acV) ∧ (∀ a ∈ xs, a.ll ≤ reachBytes) ∧ xs.length ≤ reachBytes := by
  obtain ⟨p, xs, cap, rfl, hl, hr⟩ := open_each (α := AcD) (R := fun cs a => cs = acV a ∧ a.ll ≤ reachBytes) Try.underlying26 (tb_ok.gsz (t := 40) (s := 13) rfl) (by decide) (by kernel_rfl) (fun n cs x hx hz => open_act hx hz) h hz
  obtain ⟨h1, h2⟩ := slAt_each (f := acV) (q := fun a => a.ll ≤ reachBytes) hl hr
  exact ⟨_, xs, rfl, h1, h2, hl⟩
theorem open_script16 {fuel : Nat} {cs : List Value} {x : DataW H × List MemPlace} (h : DataW.trod enc Try.prog w base spare held fuel 28 cs = some x) (hz : Szd Try.prog 28 x.1) : ∃ wv fv lv S, cs = [wv, .int .i64 S.root, fv, lv] ∧ SkAt w wv fv lv S := by
  obtain ⟨hl, n, hf⟩ := trod_fields Try.underlying28 h hz
  rw [cellsOf_sz (show szOf Try.prog 28 = some 4 from tb_ok.gsz rfl)] at hl
  match cs, hl with
  | [c0, c1, c2, c3], _ =>
    have c1s : Try.prog.cellsOf 24 = 1 := by kernel_rfl
    have c2s : Try.prog.cellsOf 3 = 1 := by kernel_rfl
    have c3s : Try.prog.cellsOf 25 = 1 := by kernel_rfl
    have c4s : Try.prog.cellsOf 26 = 1 := by kernel_rfl
    obtain ⟨_, h0, z0⟩ := hf 0 _ rfl
    obtain ⟨_, h1, _⟩ := hf 1 _ rfl
    obtain ⟨_, h2, z2⟩ := hf 2 _ rfl
    obtain ⟨_, h3, z3⟩ := hf 3 _ rfl
    simp only [List.getElem_toArray, List.getElem_cons_zero, List.getElem_cons_succ, c1s, c2s, c3s, c4s, List.drop_zero, List.drop_succ_cons, List.take_succ_cons, List.take_zero] at h0 h1 h2 h3 z0 z2 z3
    obtain ⟨_, n2, hf2⟩ := trod_fields Try.underlying24 h0 z0
    have c5s : Try.prog.cellsOf 22 = 1 := by kernel_rfl
    obtain ⟨_, g0, y0⟩ := hf2 0 _ rfl
    simp only [List.getElem_toArray, List.getElem_cons_zero, List.getElem_cons_succ, c5s, List.drop_zero, List.take_succ_cons, List.take_zero] at g0 y0
    obtain ⟨wv, ws, e0, s0, w0, l0⟩ := open_words g0 y0
    obtain ⟨k1, e1, _⟩ := DataW.trod_int Try.underlying3 h1
    obtain ⟨fv, fr, e2, s2, _, l2⟩ := open_intsL h2 z2
    obtain ⟨lv, xs, e3, s3, w3, l3⟩ := open_acts16 h3 z3
    cases e0; cases e1; cases e2; cases e3
    exact ⟨_, _, _, ⟨ws, k1, fr, xs⟩, rfl, w0, s0, s2, s3, Nat.le_trans l0 (by decide), Nat.le_trans l2 (by decide), Nat.le_trans l3 (by decide), fun a ha => Nat.le_trans (w3 a ha) (by decide)⟩
end
end Go.Proofs.Ytcjbpdejlfomkaa
