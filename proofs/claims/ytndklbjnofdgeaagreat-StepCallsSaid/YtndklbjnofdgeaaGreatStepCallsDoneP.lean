/- Proved: 'bulwarklaw15.StepCalls' returns true whatever script it is given, and the script reads behind the call as it read before. No condition. -/
import Derived.Test.YtndklbjnofdgeaaGreatPo6
import Derived.Test.YtndklbjnofdgeaaGreatRows
import Derived.WalkKit
import Derived.ProofKit
import Derived.OpenShut
import Derived.ShutString
import Derived.ChangeOld
import Derived.Below
import Derived.SizedLaws
namespace Go.Proofs.YtndklbjnofdgeaaGreat.stepCallsDone
open Go.ChangeShapes Go.WideShapes Go.ChangeAt Go.RowKit
set_option linter.unusedVariables false
theorem own : ownKnob Tryz.prog.godebug = none := by kernel_rfl
theorem laidOut : laidOutB Tryz.prog = true := by kernel_rfl
theorem walk (wv lv pv : Value) (ws : List Nat) (ts : List dM) (ps : List vg) (r : aC) (cpu : Int) (two : bQ) (w : World) (h : lW w wv lv pv ws ts ps r) : Calls Tryz.prog 12 #[.agg #[wv, .int .u64 (aC.x0 r : Nat), .int .u64 (aC.x1 r : Nat), .int .u64 (aC.x2 r : Nat), .int .u64 (aC.x3 r : Nat), .int .u64 (aC.x4 r : Nat), .int .u64 (aC.x5 r : Nat), .int .u64 (aC.x6 r : Nat), .int .u64 (aC.x7 r : Nat), .int .u64 (aC.pc r : Nat), .int .u64 (aC.gp r : Nat), .int .u64 (aC.dm r : Nat), .int .u64 (aC.jd r : Nat), .int .u64 (aC.qw r : Nat), .int .u64 (aC.mJ r : Nat), .int .u64 (aC.far r : Nat), lv, .int .i64 cpu, .bool (bQ.on two), .int .i64 (bQ.frame two), .int .i64 (bQ.tag two), pv]] w fun e w' => e = .returned (.bool true) ∧ Below w.heap.size w w' := by
  refine Calls.mono (BU h) ?_
  rintro e w' ⟨u, hp, rfl, hg, rfl⟩
  exact ⟨rfl, hg.below⟩
set_option maxRecDepth 100000 in
theorem lifted (os : Os) (started : os.Started) (H : Type) (enc : TypeId × Value → H) :
    ReturnsInHanded {} Tryz.checked os 12 .any (Rows.stepCallsSpec.pre6 enc Tryz.prog Tryz.f12 Rows.stepCallsRow.domain false) (Rows.stepCallsSpec.post enc Tryz.prog Tryz.f12 false true false false) := by
  refine returnsInHanded_of_change_sized (C := Tryz.checked) own started (by kernel_rfl) Tryz.func12
    (ChangeSpec.witness6 (enc := enc) (C := Tryz.checked) false ⟨#[], #[.agg #[.slice none 0 0, .int .u64 0, .int .u64 0, .int .u64 0, .int .u64 0, .int .u64 0, .int .u64 0, .int .u64 0, .int .u64 0, .int .u64 0, .int .u64 0, .int .u64 0, .int .u64 0, .int .u64 0, .int .u64 0, .int .u64 0, .slice none 0 0, .int .i64 0, .bool false, .int .i64 0, .int .i64 0, .slice none 0 0]], []⟩ 8 (by kernel_rfl) (by kernel_rfl) (by kernel_rfl) (by kernel_rfl)) ?_
  intro W base args ds gs before hval0 hW hcnd hsz0 _
  have hval : ∀ (j : Nat) t v, Tryz.f12.params[j]? = some t → args[j]? = some v → Value.okWide Tryz.prog W .any base t v := hval0
  have hsz : (DataW.weightsEach Tryz.prog (Tryz.f12.params.toList ++ Rows.stepCallsSpec.plain.varTypes Tryz.prog) (ds ++ gs)).all (· ≤ reachBytes) = true := hsz0
  have hW' := hW
  obtain ⟨p, q, hA0, hV, rfl, hfz, hnd⟩ := hW
  have hA : DataW.TrodAll enc Tryz.prog W 0 (fun _ => true) true Tryz.f12.params.toList args.toList ds p := hA0
  rw [Tryz.params12] at hA hval hsz
  obtain ⟨v0, Yv, d0, ds0, p0, q0, hargs, rfl, rfl, h0, r0⟩ := trodAll_cons hA
  obtain ⟨rfl, rfl, rfl⟩ := trodAll_nil r0
  obtain rfl : args = #[v0] := by cases args; simp_all
  obtain ⟨rfl, rfl⟩ := trodVars_none hV
  have k0 := h0
  have Oe : ∀ x ∈ p0, x.block < W.heap.size := by obtain ⟨m, hm⟩ := k0; exact DataW.trod_lt m _ _ _ hm
  have z0 : BZ Tryz.prog 36 d0 := fun n hn => by
    have := List.all_eq_true.1 hsz n (DataW.weights_mem_each (j := 0) (t := 36) (d := d0) rfl rfl n hn)
    simpa using this
  have hag : ∃ cs, v0 = .agg cs := by
    obtain ⟨cs, h, _⟩ := okWide_struct Tryz.underlying36 (hval 0 36 v0 rfl rfl)
    exact ⟨cs, h⟩
  obtain ⟨cs, rfl⟩ := hag
  obtain ⟨wv, lv, pv, ws, ts, ps, r, cpu, two, hcs, hx⟩ : ∃ wv lv pv ws ts ps r cpu two, cs.toList = [wv, .int .u64 (aC.x0 r : Nat), .int .u64 (aC.x1 r : Nat), .int .u64 (aC.x2 r : Nat), .int .u64 (aC.x3 r : Nat), .int .u64 (aC.x4 r : Nat), .int .u64 (aC.x5 r : Nat), .int .u64 (aC.x6 r : Nat), .int .u64 (aC.x7 r : Nat), .int .u64 (aC.pc r : Nat), .int .u64 (aC.gp r : Nat), .int .u64 (aC.dm r : Nat), .int .u64 (aC.jd r : Nat), .int .u64 (aC.qw r : Nat), .int .u64 (aC.mJ r : Nat), .int .u64 (aC.far r : Nat), lv, .int .i64 cpu, .bool (bQ.on two), .int .i64 (bQ.frame two), .int .i64 (bQ.tag two), pv] ∧ lW W wv lv pv ws ts ps r := by
    obtain ⟨fuel, hf⟩ := h0
    exact iT hf z0
  obtain rfl : cs = #[wv, .int .u64 (aC.x0 r : Nat), .int .u64 (aC.x1 r : Nat), .int .u64 (aC.x2 r : Nat), .int .u64 (aC.x3 r : Nat), .int .u64 (aC.x4 r : Nat), .int .u64 (aC.x5 r : Nat), .int .u64 (aC.x6 r : Nat), .int .u64 (aC.x7 r : Nat), .int .u64 (aC.pc r : Nat), .int .u64 (aC.gp r : Nat), .int .u64 (aC.dm r : Nat), .int .u64 (aC.jd r : Nat), .int .u64 (aC.qw r : Nat), .int .u64 (aC.mJ r : Nat), .int .u64 (aC.far r : Nat), lv, .int .i64 cpu, .bool (bQ.on two), .int .i64 (bQ.frame two), .int .i64 (bQ.tag two), pv] := by rw [← hcs]
  clear hA0 hval0
  refine (walk wv lv pv ws ts ps r cpu two W hx).mono fun e W' ⟨he, bel⟩ => ?_
  subst he
  exact ⟨_, rfl, _, _, _, [], _, [], hW', trodAll_mk1 (shut_bool Tryz.underlying4 _), (trodAll_cons_mk (Below.trod laidOut (by kernel_rfl) (of_decide_eq_true (by kernel_rfl)) k0 bel Oe) trodAll_mk0), rfl, bel.frame _, fun h => by cases h⟩
theorem closed : joinedFacts Tryz.pinned.checked.prog 12 Tryz.f12 Rows.stepCallsSpec Rows.stepCallsRow = true := by kernel_rfl
theorem over : Rows.stepCallsRow.holds Tryz.pinned (OpenSpec.ofChange Rows.stepCallsSpec) :=
  OpenClaim.holds_of_wide 12 Tryz.f12 rfl rfl rfl rfl rfl rfl rfl ⟨rfl, rfl, rfl, rfl, rfl⟩ rfl rfl rfl rfl rfl (by kernel_rfl) Tryz.func12 closed
    (of_decide_eq_true (by kernel_rfl)) (by unfold Func.isWrapper; first | (rw [if_pos (by decide +kernel)]; kernel_rfl) | (rw [if_neg (by decide +kernel)]; exact ⟨rfl, rfl⟩))
    (fun os started H enc _ => lifted os started H enc)

theorem proved : Rows.StepCallsSaid := over
#print axioms proved
end Go.Proofs.YtndklbjnofdgeaaGreat.stepCallsDone
