/- Proved: 'bulwarklaw16.PgtBack' returns true whatever script it is given, and the script reads behind the call as it read before. No condition. -/
import Derived.Test.YtiggoglimlnmmaaRows
import Derived.Test.YtiggoglimlnmmaaPbB
import Derived.WalkKit
import Derived.ProofKit
import Derived.OpenShut
import Derived.ShutString
import Derived.ChangeOld
import Derived.Below
import Derived.SizedLaws
namespace Go.Proofs.Ytiggoglimlnmmaa.pgtBackDone
open Go.ChangeShapes Go.WideShapes Go.ChangeAt Go.RowKit
set_option linter.unusedVariables false
theorem own : ownKnob Try.prog.godebug = none := by kernel_rfl
theorem laidOut : laidOutB Try.prog = true := by kernel_rfl
theorem walk (wv fv lv : Value) (S : SkD) (w : World) (h : SkAt w wv fv lv S) : Calls Try.prog 3 #[.agg #[wv, .int .i64 S.root, fv, lv]] w fun e w' => e = .returned (.bool true) ∧ Below w.heap.size w w' := by
  refine Calls.mono (lawPgtBack_e h) ?_
  rintro e w' ⟨u, hp, rfl, hg, rfl⟩
  exact ⟨rfl, hg.below⟩
set_option maxRecDepth 100000 in
theorem lifted (os : Os) (started : os.Started) (H : Type) (enc : TypeId × Value → H) :
    ReturnsInHanded {} Try.checked os 3 .any (Rows.pgtBackSpec.pre6 enc Try.prog Try.f3 Rows.pgtBackRow.domain false) (Rows.pgtBackSpec.post enc Try.prog Try.f3 false true false false) := by
  refine returnsInHanded_of_change_sized (C := Try.checked) own started (by kernel_rfl) Try.func3
    (ChangeSpec.witness6 (enc := enc) (C := Try.checked) false ⟨#[], #[.agg #[.slice none 0 0, .int .i64 0, .slice none 0 0, .slice none 0 0]], []⟩ 8 (by kernel_rfl) (by kernel_rfl) (by kernel_rfl) (by kernel_rfl)) ?_
  intro W base args ds gs before hval0 hW hcnd hsz0 _
  have hval : ∀ (j : Nat) t v, Try.f3.params[j]? = some t → args[j]? = some v → Value.okWide Try.prog W .any base t v := hval0
  have hsz : (DataW.weightsEach Try.prog (Try.f3.params.toList ++ Rows.pgtBackSpec.plain.varTypes Try.prog) (ds ++ gs)).all (· ≤ reachBytes) = true := hsz0
  have hW' := hW
  obtain ⟨p, q, hA0, hV, rfl, hfz, hnd⟩ := hW
  have hA : DataW.TrodAll enc Try.prog W 0 (fun _ => true) true Try.f3.params.toList args.toList ds p := hA0
  rw [Try.params3] at hA hval hsz
  obtain ⟨v0, vs0, d0, ds0, p0, q0, hargs, rfl, rfl, h0, r0⟩ := trodAll_cons hA
  obtain ⟨rfl, rfl, rfl⟩ := trodAll_nil r0
  obtain rfl : args = #[v0] := by cases args; simp_all
  obtain ⟨rfl, rfl⟩ := trodVars_none hV
  have k0 := h0
  have lt0 : ∀ x ∈ p0, x.block < W.heap.size := by obtain ⟨m, hm⟩ := k0; exact DataW.trod_lt m _ _ _ hm
  have z0 : Szd Try.prog 28 d0 := fun n hn => by
    have := List.all_eq_true.1 hsz n (DataW.weights_mem_each (j := 0) (t := 28) (d := d0) rfl rfl n hn)
    simpa using this
  have hag : ∃ cs, v0 = .agg cs := by
    obtain ⟨cs, h, _⟩ := okWide_struct Try.underlying28 (hval 0 28 v0 rfl rfl)
    exact ⟨cs, h⟩
  obtain ⟨cs, rfl⟩ := hag
  obtain ⟨wv, fv, lv, S, hcs, hx⟩ : ∃ wv fv lv S, cs.toList = [wv, .int .i64 S.root, fv, lv] ∧ SkAt W wv fv lv S := by
    obtain ⟨fuel, hf⟩ := h0
    exact open_script16 hf z0
  obtain rfl : cs = #[wv, .int .i64 S.root, fv, lv] := by rw [← hcs]
  clear hA0 hval0
  refine (walk wv fv lv S W hx).mono fun e W' ⟨he, bel⟩ => ?_
  subst he
  exact ⟨_, rfl, _, _, _, [], _, [], hW', trodAll_mk1 (shut_bool Try.underlying4 _), (trodAll_cons_mk (Below.trod laidOut (by kernel_rfl) (of_decide_eq_true (by kernel_rfl)) k0 bel lt0) trodAll_mk0), rfl, bel.frame _, fun h => by cases h⟩
theorem over : Rows.pgtBackRow.holds Try.pinned (OpenSpec.ofChange Rows.pgtBackSpec) :=
  OpenClaim.holds_of_wide 3 Try.f3 rfl rfl rfl rfl rfl rfl rfl ⟨rfl, rfl, rfl, rfl, rfl⟩ rfl rfl rfl rfl rfl (by kernel_rfl) Try.func3 (by kernel_rfl)
    (of_decide_eq_true (by kernel_rfl)) (by unfold Func.isWrapper; first | (rw [if_pos (by decide +kernel)]; kernel_rfl) | (rw [if_neg (by decide +kernel)]; exact ⟨rfl, rfl⟩))
    (fun os started H enc _ => lifted os started H enc)
/-- PgtBack. -/
theorem proved : Rows.PgtBackSaid := over
#print axioms proved
end Go.Proofs.Ytiggoglimlnmmaa.pgtBackDone
