/- Proved: 'bulwarklaw20.BootMaps' returns true whatever ask it is given, and the ask reads behind the call as it read before. No condition. -/
import Derived.Test.YtcjbpdejlfomkaaRows
import Derived.Test.YtcjbpdejlfomkaaBoO
import Derived.Test.YtcjbpdejlfomkaaBoD
import Derived.WalkKit
import Derived.ProofKit
import Derived.OpenShut
import Derived.ShutString
import Derived.ChangeOld
import Derived.Below
import Derived.SizedLaws
namespace Go.Proofs.Ytcjbpdejlfomkaa.bootMapsDone
open Go.ChangeShapes Go.WideShapes Go.ChangeAt Go.RowKit
set_option linter.unusedVariables false
theorem own : ownKnob Try.prog.godebug = none := by kernel_rfl
theorem laidOut : laidOutB Try.prog = true := by kernel_rfl
theorem walk (nv wv cv mv rv lv : Value) (N : List (Int × Int)) (ms : List VmD) (L : List Int) (w : World) (h : AskAt20 w nv wv cv mv rv lv N ms L) : Calls Try.prog 6 #[.agg #[nv, wv, cv, mv, rv, lv]] w fun e w' => e = .returned (.bool true) ∧ Below w.heap.size w w' := by
  refine Calls.mono (lawBootMaps_e h) ?_
  rintro e w' ⟨u, hp, rfl, hg, rfl⟩
  exact ⟨rfl, hg.below⟩
set_option maxRecDepth 100000 in
theorem lifted (os : Os) (started : os.Started) (H : Type) (enc : TypeId × Value → H) :
    ReturnsInHanded {} Try.checked os 6 .any (Rows.bootMapsSpec.pre6 enc Try.prog Try.f6 Rows.bootMapsRow.domain false) (Rows.bootMapsSpec.post enc Try.prog Try.f6 false true false false) := by
  refine returnsInHanded_of_change_sized (C := Try.checked) own started (by kernel_rfl) Try.func6
    (ChangeSpec.witness6 (enc := enc) (C := Try.checked) false ⟨#[], #[.agg #[.slice none 0 0, .slice none 0 0, .slice none 0 0, .slice none 0 0, .slice none 0 0, .slice none 0 0]], []⟩ 8 (by kernel_rfl) (by kernel_rfl) (by kernel_rfl) (by kernel_rfl)) ?_
  intro W base args ds gs before hval0 hW hcnd hsz0 _
  have hval : ∀ (j : Nat) t v, Try.f6.params[j]? = some t → args[j]? = some v → Value.okWide Try.prog W .any base t v := hval0
  have hsz : (DataW.weightsEach Try.prog (Try.f6.params.toList ++ Rows.bootMapsSpec.plain.varTypes Try.prog) (ds ++ gs)).all (· ≤ reachBytes) = true := hsz0
  have hW' := hW
  obtain ⟨p, q, hA0, hV, rfl, hfz, hnd⟩ := hW
  have hA : DataW.TrodAll enc Try.prog W 0 (fun _ => true) true Try.f6.params.toList args.toList ds p := hA0
  rw [Try.params6] at hA hval hsz
  obtain ⟨v0, vs0, d0, ds0, p0, q0, hargs, rfl, rfl, h0, r0⟩ := trodAll_cons hA
  obtain ⟨rfl, rfl, rfl⟩ := trodAll_nil r0
  obtain rfl : args = #[v0] := by cases args; simp_all
  obtain ⟨rfl, rfl⟩ := trodVars_none hV
  have k0 := h0
  have lt0 : ∀ x ∈ p0, x.block < W.heap.size := by obtain ⟨m, hm⟩ := k0; exact DataW.trod_lt m _ _ _ hm
  have z0 : Szd Try.prog 76 d0 := fun n hn => by
    have := List.all_eq_true.1 hsz n (DataW.weights_mem_each (j := 0) (t := 76) (d := d0) rfl rfl n hn)
    simpa using this
  have hag : ∃ cs, v0 = .agg cs := by
    obtain ⟨cs, h, _⟩ := okWide_struct Try.underlying76 (hval 0 76 v0 rfl rfl)
    exact ⟨cs, h⟩
  obtain ⟨cs, rfl⟩ := hag
  obtain ⟨nv, wv, cv, mv, rv, lv, N, ms, L, hcs, hx⟩ : ∃ nv wv cv mv rv lv N ms L, cs.toList = [nv, wv, cv, mv, rv, lv] ∧ AskAt20 W nv wv cv mv rv lv N ms L := by
    obtain ⟨fuel, hf⟩ := h0
    exact open_ask20 hf z0
  obtain rfl : cs = #[nv, wv, cv, mv, rv, lv] := by rw [← hcs]
  clear hA0 hval0
  refine (walk nv wv cv mv rv lv N ms L W hx).mono fun e W' ⟨he, bel⟩ => ?_
  subst he
  exact ⟨_, rfl, _, _, _, [], _, [], hW', trodAll_mk1 (shut_bool Try.underlying4 _), (trodAll_cons_mk (Below.trod laidOut (by kernel_rfl) (of_decide_eq_true (by kernel_rfl)) k0 bel lt0) trodAll_mk0), rfl, bel.frame _, fun h => by cases h⟩
theorem over : Rows.bootMapsRow.holds Try.pinned (OpenSpec.ofChange Rows.bootMapsSpec) :=
  OpenClaim.holds_of_wide 6 Try.f6 rfl rfl rfl rfl rfl rfl rfl ⟨rfl, rfl, rfl, rfl, rfl⟩ rfl rfl rfl rfl rfl (by kernel_rfl) Try.func6 (by kernel_rfl)
    (of_decide_eq_true (by kernel_rfl)) (by unfold Func.isWrapper; first | (rw [if_pos (by decide +kernel)]; kernel_rfl) | (rw [if_neg (by decide +kernel)]; exact ⟨rfl, rfl⟩))
    (fun os started H enc _ => lifted os started H enc)
/-- BootMaps. -/
theorem proved : Rows.BootMapsSaid := over
#print axioms proved
end Go.Proofs.Ytcjbpdejlfomkaa.bootMapsDone
