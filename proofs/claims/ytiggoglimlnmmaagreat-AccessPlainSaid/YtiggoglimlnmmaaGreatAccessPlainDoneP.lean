/- Proved: 'bulwarklaw14.AccessPlain' returns true whatever ask it is given, and the ask reads behind the call as it read before. No condition. -/
import Derived.Test.YtiggoglimlnmmaaGreatPa5
import Derived.Test.YtiggoglimlnmmaaGreatRows
import Derived.WalkKit
import Derived.ProofKit
import Derived.OpenShut
import Derived.ShutString
import Derived.ChangeOld
import Derived.Below
import Derived.SizedLaws
namespace Go.Proofs.YtiggoglimlnmmaaGreat.accessPlainDone
open Go.ChangeShapes Go.WideShapes Go.ChangeAt Go.RowKit
set_option linter.unusedVariables false
theorem own : ownKnob Tryz.prog.godebug = none := by kernel_rfl
theorem laidOut : laidOutB Tryz.prog = true := by kernel_rfl
theorem walk (wv gv ev dv pv : Value) (ws : List Nat) (sH : List Int) (es : List aX) (ds : List eH) (ps : List Dk) (one two : dX) (fr ac : Int) (w : World) (h : zV w wv gv ev dv pv ws sH es ds ps) : Calls Tryz.prog 3 #[.agg #[wv, .int .i64 fr, gv, .bool (dX.on one), .int .i64 (dX.frame one), .int .i64 (dX.tag one), .bool (dX.on two), .int .i64 (dX.frame two), .int .i64 (dX.tag two), .int .i64 ac, ev, dv, pv]] w fun e w' => e = .returned (.bool true) ∧ Below w.heap.size w w' := by
  refine Calls.mono (rG h) ?_
  rintro e w' ⟨u, hp, rfl, hg, rfl⟩
  exact ⟨rfl, hg.below⟩
set_option maxRecDepth 100000 in
theorem lifted (os : Os) (started : os.Started) (H : Type) (enc : TypeId × Value → H) :
    ReturnsInHanded {} Tryz.checked os 3 .any (Rows.accessPlainSpec.pre6 enc Tryz.prog Tryz.f3 Rows.accessPlainRow.domain false) (Rows.accessPlainSpec.post enc Tryz.prog Tryz.f3 false true false false) := by
  refine returnsInHanded_of_change_sized (C := Tryz.checked) own started (by kernel_rfl) Tryz.func3
    (ChangeSpec.witness6 (enc := enc) (C := Tryz.checked) false ⟨#[], #[.agg #[.slice none 0 0, .int .i64 0, .slice none 0 0, .bool false, .int .i64 0, .int .i64 0, .bool false, .int .i64 0, .int .i64 0, .int .i64 0, .slice none 0 0, .slice none 0 0, .slice none 0 0]], []⟩ 8 (by kernel_rfl) (by kernel_rfl) (by kernel_rfl) (by kernel_rfl)) ?_
  intro W base args ds gs before hval0 hW hcnd hsz0 _
  have hval : ∀ (j : Nat) t v, Tryz.f3.params[j]? = some t → args[j]? = some v → Value.okWide Tryz.prog W .any base t v := hval0
  have hsz : (DataW.weightsEach Tryz.prog (Tryz.f3.params.toList ++ Rows.accessPlainSpec.plain.varTypes Tryz.prog) (ds ++ gs)).all (· ≤ reachBytes) = true := hsz0
  have hW' := hW
  obtain ⟨p, q, hA0, hV, rfl, hfz, hnd⟩ := hW
  have hA : DataW.TrodAll enc Tryz.prog W 0 (fun _ => true) true Tryz.f3.params.toList args.toList ds p := hA0
  rw [Tryz.params3] at hA hval hsz
  obtain ⟨v0, Uy, d0, ds0, p0, q0, hargs, rfl, rfl, h0, r0⟩ := trodAll_cons hA
  obtain ⟨rfl, rfl, rfl⟩ := trodAll_nil r0
  obtain rfl : args = #[v0] := by cases args; simp_all
  obtain ⟨rfl, rfl⟩ := trodVars_none hV
  have k0 := h0
  have Uh : ∀ x ∈ p0, x.block < W.heap.size := by obtain ⟨m, hm⟩ := k0; exact DataW.trod_lt m _ _ _ hm
  have z0 : y9 Tryz.prog 38 d0 := fun n hn => by
    have := List.all_eq_true.1 hsz n (DataW.weights_mem_each (j := 0) (t := 38) (d := d0) rfl rfl n hn)
    simpa using this
  have hag : ∃ cs, v0 = .agg cs := by
    obtain ⟨cs, h, _⟩ := okWide_struct Tryz.underlying38 (hval 0 38 v0 rfl rfl)
    exact ⟨cs, h⟩
  obtain ⟨cs, rfl⟩ := hag
  obtain ⟨wv, gv, ev, dv, pv, ws, sH, es, ds, ps, one, two, fr, ac, hcs, hx⟩ : ∃ wv gv ev dv pv ws sH es ds ps one two fr ac, cs.toList = [wv, .int .i64 fr, gv, .bool (dX.on one), .int .i64 (dX.frame one), .int .i64 (dX.tag one), .bool (dX.on two), .int .i64 (dX.frame two), .int .i64 (dX.tag two), .int .i64 ac, ev, dv, pv] ∧ zV W wv gv ev dv pv ws sH es ds ps := by
    obtain ⟨fuel, hf⟩ := h0
    exact BQ hf z0
  obtain rfl : cs = #[wv, .int .i64 fr, gv, .bool (dX.on one), .int .i64 (dX.frame one), .int .i64 (dX.tag one), .bool (dX.on two), .int .i64 (dX.frame two), .int .i64 (dX.tag two), .int .i64 ac, ev, dv, pv] := by rw [← hcs]
  clear hA0 hval0
  refine (walk wv gv ev dv pv ws sH es ds ps one two fr ac W hx).mono fun e W' ⟨he, bel⟩ => ?_
  subst he
  exact ⟨_, rfl, _, _, _, [], _, [], hW', trodAll_mk1 (shut_bool Tryz.underlying4 _), (trodAll_cons_mk (Below.trod laidOut (by kernel_rfl) (of_decide_eq_true (by kernel_rfl)) k0 bel Uh) trodAll_mk0), rfl, bel.frame _, fun h => by cases h⟩
theorem over : Rows.accessPlainRow.holds Tryz.pinned (OpenSpec.ofChange Rows.accessPlainSpec) :=
  OpenClaim.holds_of_wide 3 Tryz.f3 rfl rfl rfl rfl rfl rfl rfl ⟨rfl, rfl, rfl, rfl, rfl⟩ rfl rfl rfl rfl rfl (by kernel_rfl) Tryz.func3 (by kernel_rfl)
    (of_decide_eq_true (by kernel_rfl)) (by unfold Func.isWrapper; first | (rw [if_pos (by decide +kernel)]; kernel_rfl) | (rw [if_neg (by decide +kernel)]; exact ⟨rfl, rfl⟩))
    (fun os started H enc _ => lifted os started H enc)

theorem proved : Rows.AccessPlainSaid := over
#print axioms proved
end Go.Proofs.YtiggoglimlnmmaaGreat.accessPlainDone
