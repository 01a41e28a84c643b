/- Proved: 'bulwarklaw14.AccessMids' returns true whatever ask it is given, and the ask reads behind the call as it read before. No condition. -/
import Derived.Test.YtdaenalnmdmflaaGreatAccessFillsDoneP
import Derived.Test.YtdaenalnmdmflaaGreatRows
import Derived.WalkKit
import Derived.ProofKit
import Derived.OpenShut
import Derived.ShutString
import Derived.ChangeOld
import Derived.Below
import Derived.SizedLaws
namespace Go.Proofs.YtdaenalnmdmflaaGreat.accessMidsDone
open Go.ChangeShapes Go.WideShapes Go.ChangeAt Go.RowKit
set_option linter.unusedVariables false
theorem own : ownKnob Tryz.prog.godebug = none := by kernel_rfl
theorem laidOut : laidOutB Tryz.prog = true := by kernel_rfl
theorem walk (wv gv ev dv pv : Value) (ws : List Nat) (pgs : List Int) (es : List EnD) (ds : List IvD) (ps : List PkD) (one two : RtD) (fr ac : Int) (w : World) (h : Ak14 w wv gv ev dv pv ws pgs es ds ps) : Calls Tryz.prog 6 #[.agg #[wv, .int .i64 fr, gv, .bool (RtD.on one), .int .i64 (RtD.frame one), .int .i64 (RtD.tag one), .bool (RtD.on two), .int .i64 (RtD.frame two), .int .i64 (RtD.tag two), .int .i64 ac, ev, dv, pv]] w fun e w' => e = .returned (.bool true) ∧ Below w.heap.size w w' := by
  refine Calls.mono (lawAccessMids_e h) ?_
  rintro e w' ⟨u, hp, rfl, hg, rfl⟩
  exact ⟨rfl, hg.below⟩
set_option maxRecDepth 100000 in
theorem lifted (os : Os) (started : os.Started) (H : Type) (enc : TypeId × Value → H) :
    ReturnsInHanded {} Tryz.checked os 6 .any (Rows.accessMidsSpec.pre6 enc Tryz.prog Tryz.f6 Rows.accessMidsRow.domain false) (Rows.accessMidsSpec.post enc Tryz.prog Tryz.f6 false true false false) := by
  refine returnsInHanded_of_change_sized (C := Tryz.checked) own started (by kernel_rfl) Tryz.func6
    (ChangeSpec.witness6 (enc := enc) (C := Tryz.checked) false ⟨#[], #[.agg #[.slice none 0 0, .int .i64 0, .slice none 0 0, .bool false, .int .i64 0, .int .i64 0, .bool false, .int .i64 0, .int .i64 0, .int .i64 0, .slice none 0 0, .slice none 0 0, .slice none 0 0]], []⟩ 8 (by kernel_rfl) (by kernel_rfl) (by kernel_rfl) (by kernel_rfl)) ?_
  intro W base args ds gs before hval0 hW hcnd hsz0 _
  have hval : ∀ (j : Nat) t v, Tryz.f6.params[j]? = some t → args[j]? = some v → Value.okWide Tryz.prog W .any base t v := hval0
  have hsz : (DataW.weightsEach Tryz.prog (Tryz.f6.params.toList ++ Rows.accessMidsSpec.plain.varTypes Tryz.prog) (ds ++ gs)).all (· ≤ reachBytes) = true := hsz0
  have hW' := hW
  obtain ⟨p, q, hA0, hV, rfl, hfz, hnd⟩ := hW
  have hA : DataW.TrodAll enc Tryz.prog W 0 (fun _ => true) true Tryz.f6.params.toList args.toList ds p := hA0
  rw [Tryz.params6] at hA hval hsz
  obtain ⟨v0, vs0, d0, ds0, p0, q0, hargs, rfl, rfl, h0, r0⟩ := trodAll_cons hA
  obtain ⟨rfl, rfl, rfl⟩ := trodAll_nil r0
  obtain rfl : args = #[v0] := by cases args; simp_all
  obtain ⟨rfl, rfl⟩ := trodVars_none hV
  have k0 := h0
  have lt0 : ∀ x ∈ p0, x.block < W.heap.size := by obtain ⟨m, hm⟩ := k0; exact DataW.trod_lt m _ _ _ hm
  have z0 : Szd Tryz.prog 38 d0 := fun n hn => by
    have := List.all_eq_true.1 hsz n (DataW.weights_mem_each (j := 0) (t := 38) (d := d0) rfl rfl n hn)
    simpa using this
  have hag : ∃ cs, v0 = .agg cs := by
    obtain ⟨cs, h, _⟩ := okWide_struct Tryz.underlying38 (hval 0 38 v0 rfl rfl)
    exact ⟨cs, h⟩
  obtain ⟨cs, rfl⟩ := hag
  obtain ⟨wv, gv, ev, dv, pv, ws, pgs, es, ds, ps, one, two, fr, ac, hcs, hx⟩ : ∃ wv gv ev dv pv ws pgs es ds ps one two fr ac, cs.toList = [wv, .int .i64 fr, gv, .bool (RtD.on one), .int .i64 (RtD.frame one), .int .i64 (RtD.tag one), .bool (RtD.on two), .int .i64 (RtD.frame two), .int .i64 (RtD.tag two), .int .i64 ac, ev, dv, pv] ∧ Ak14 W wv gv ev dv pv ws pgs es ds ps := by
    obtain ⟨fuel, hf⟩ := h0
    exact open_ask14 hf z0
  obtain rfl : cs = #[wv, .int .i64 fr, gv, .bool (RtD.on one), .int .i64 (RtD.frame one), .int .i64 (RtD.tag one), .bool (RtD.on two), .int .i64 (RtD.frame two), .int .i64 (RtD.tag two), .int .i64 ac, ev, dv, pv] := by rw [← hcs]
  clear hA0 hval0
  refine (walk wv gv ev dv pv ws pgs es ds ps one two fr ac W hx).mono fun e W' ⟨he, bel⟩ => ?_
  subst he
  exact ⟨_, rfl, _, _, _, [], _, [], hW', trodAll_mk1 (shut_bool Tryz.underlying4 _), (trodAll_cons_mk (Below.trod laidOut (by kernel_rfl) (of_decide_eq_true (by kernel_rfl)) k0 bel lt0) trodAll_mk0), rfl, bel.frame _, fun h => by cases h⟩
theorem over : Rows.accessMidsRow.holds Tryz.pinned (OpenSpec.ofChange Rows.accessMidsSpec) :=
  OpenClaim.holds_of_wide 6 Tryz.f6 rfl rfl rfl rfl rfl rfl rfl ⟨rfl, rfl, rfl, rfl, rfl⟩ rfl rfl rfl rfl rfl (by kernel_rfl) Tryz.func6 (by kernel_rfl)
    (of_decide_eq_true (by kernel_rfl)) (by unfold Func.isWrapper; first | (rw [if_pos (by decide +kernel)]; kernel_rfl) | (rw [if_neg (by decide +kernel)]; exact ⟨rfl, rfl⟩))
    (fun os started H enc _ => lifted os started H enc)
/-- AccessMids. -/
theorem proved : Rows.AccessMidsSaid := over
#print axioms proved
end Go.Proofs.YtdaenalnmdmflaaGreat.accessMidsDone
