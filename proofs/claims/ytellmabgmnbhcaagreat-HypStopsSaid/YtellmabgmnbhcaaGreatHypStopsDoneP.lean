/- Proved: 'bulwarklaw22.HypStops' returns true whatever script it is given, and the script reads behind the call as it read before. No condition. -/
import Derived.Test.YtellmabgmnbhcaaGreatPs6
import Derived.Test.YtellmabgmnbhcaaGreatRows
import Derived.WalkKit
import Derived.ProofKit
import Derived.OpenShut
import Derived.ShutString
import Derived.ChangeOld
import Derived.Below
import Derived.SizedLaws
namespace Go.Proofs.YtellmabgmnbhcaaGreat.hypStopsDone
open Go.ChangeShapes Go.WideShapes Go.ChangeAt Go.RowKit
set_option linter.unusedVariables false
theorem own : ownKnob Tryz.prog.godebug = none := by kernel_rfl
theorem laidOut : laidOutB Tryz.prog = true := by kernel_rfl
theorem walk (a b c d lv : Value) (HH : HyD) (L : List ER) (w : World) (h : F8 w a b c d lv HH L) : Calls Tryz.prog 12 #[.agg #[a, b, c, d, lv]] w fun e w' => e = .returned (.bool true) ∧ Below w.heap.size w w' := by
  refine Calls.mono (F9 h) ?_
  rintro e w' ⟨u, hp, rfl, hg, rfl⟩
  exact ⟨rfl, hg.below⟩
set_option maxRecDepth 100000 in
theorem lifted (os : Os) (started : os.Started) (H : Type) (enc : TypeId × Value → H) :
    ReturnsInHanded {} Tryz.checked os 12 .any (Rows.hypStopsSpec.pre6 enc Tryz.prog Tryz.f12 Rows.hypStopsRow.domain false) (Rows.hypStopsSpec.post enc Tryz.prog Tryz.f12 false true false false) := by
  refine returnsInHanded_of_change_sized (C := Tryz.checked) own started (by kernel_rfl) Tryz.func12
    (ChangeSpec.witness6 (enc := enc) (C := Tryz.checked) false ⟨#[], #[.agg #[.slice none 0 0, .slice none 0 0, .slice none 0 0, .slice none 0 0, .slice none 0 0]], []⟩ 8 (by kernel_rfl) (by kernel_rfl) (by kernel_rfl) (by kernel_rfl)) ?_
  intro W base args ds gs before hval0 hW hcnd hsz0 _
  have hval : ∀ (j : Nat) t v, Tryz.f12.params[j]? = some t → args[j]? = some v → Value.okWide Tryz.prog W .any base t v := hval0
  have hsz : (DataW.weightsEach Tryz.prog (Tryz.f12.params.toList ++ Rows.hypStopsSpec.plain.varTypes Tryz.prog) (ds ++ gs)).all (· ≤ reachBytes) = true := hsz0
  have hW' := hW
  obtain ⟨p, q, hA0, hV, rfl, hfz, hnd⟩ := hW
  have hA : DataW.TrodAll enc Tryz.prog W 0 (fun _ => true) true Tryz.f12.params.toList args.toList ds p := hA0
  rw [Tryz.params12] at hA hval hsz
  obtain ⟨v0, JM, d0, ds0, p0, q0, hargs, rfl, rfl, h0, r0⟩ := trodAll_cons hA
  obtain ⟨rfl, rfl, rfl⟩ := trodAll_nil r0
  obtain rfl : args = #[v0] := by cases args; simp_all
  obtain ⟨rfl, rfl⟩ := trodVars_none hV
  have k0 := h0
  have lt0 : ∀ x ∈ p0, x.block < W.heap.size := by obtain ⟨m, hm⟩ := k0; exact DataW.trod_lt m _ _ _ hm
  have z0 : FI Tryz.prog 32 d0 := fun n hn => by
    have := bH'.1 hsz n (DataW.weights_mem_each (j := 0) (t := 32) (d := d0) rfl rfl n hn)
    simpa using this
  have hag : ∃ cs, v0 = .agg cs := by
    obtain ⟨cs, h, _⟩ := okWide_struct Tryz.underlying32 (hval 0 32 v0 rfl rfl)
    exact ⟨cs, h⟩
  obtain ⟨cs, rfl⟩ := hag
  obtain ⟨a, b, c, d, lv, HH, L, hcs, hx⟩ : ∃ a b c d lv HH L, cs.toList = [a, b, c, d, lv] ∧ F8 W a b c d lv HH L := by
    obtain ⟨fuel, hf⟩ := h0
    exact Fg hf z0
  obtain rfl : cs = #[a, b, c, d, lv] := by rw [← hcs]
  clear hA0 hval0
  refine (walk a b c d lv HH L W hx).mono fun e W' ⟨he, bel⟩ => ?_
  subst he
  exact ⟨_, rfl, _, _, _, [], _, [], hW', trodAll_mk1 (shut_bool Tryz.underlying4 _), (trodAll_cons_mk (Below.trod laidOut (by kernel_rfl) (of_decide_eq_true (by kernel_rfl)) k0 bel lt0) trodAll_mk0), rfl, bel.frame _, fun h => by cases h⟩
theorem jf0 : (fun (P : Program) (f : FuncId) (fn : Func) (s : ChangeSpec) (c : OpenClaim) => (c.wf (OpenSpec.ofChange s) : Bool)) Tryz.pinned.checked.prog 12 Tryz.f12 Rows.hypStopsSpec Rows.hypStopsRow = true := by kernel_rfl
theorem jf1 : (fun (P : Program) (f : FuncId) (fn : Func) (s : ChangeSpec) (c : OpenClaim) => (laidOutB P : Bool)) Tryz.pinned.checked.prog 12 Tryz.f12 Rows.hypStopsSpec Rows.hypStopsRow = true := by kernel_rfl
theorem jf2 : (fun (P : Program) (f : FuncId) (fn : Func) (s : ChangeSpec) (c : OpenClaim) => (mapsRowed P : Bool)) Tryz.pinned.checked.prog 12 Tryz.f12 Rows.hypStopsSpec Rows.hypStopsRow = true := by kernel_rfl
theorem jf3 : (fun (P : Program) (f : FuncId) (fn : Func) (s : ChangeSpec) (c : OpenClaim) => (fn.params.all (P.readableRec ·) : Bool)) Tryz.pinned.checked.prog 12 Tryz.f12 Rows.hypStopsSpec Rows.hypStopsRow = true := by kernel_rfl
theorem jf4 : (fun (P : Program) (f : FuncId) (fn : Func) (s : ChangeSpec) (c : OpenClaim) => (namedTie P c.named s.vars : Bool)) Tryz.pinned.checked.prog 12 Tryz.f12 Rows.hypStopsSpec Rows.hypStopsRow = true := by kernel_rfl
theorem jf5 : (fun (P : Program) (f : FuncId) (fn : Func) (s : ChangeSpec) (c : OpenClaim) => ((c.stops == []) : Bool)) Tryz.pinned.checked.prog 12 Tryz.f12 Rows.hypStopsSpec Rows.hypStopsRow = true := by kernel_rfl
theorem jf6 : (fun (P : Program) (f : FuncId) (fn : Func) (s : ChangeSpec) (c : OpenClaim) => ((P.stops == []) : Bool)) Tryz.pinned.checked.prog 12 Tryz.f12 Rows.hypStopsSpec Rows.hypStopsRow = true := by kernel_rfl
theorem jf7 : (fun (P : Program) (f : FuncId) (fn : Func) (s : ChangeSpec) (c : OpenClaim) => ((c.knobs == []) : Bool)) Tryz.pinned.checked.prog 12 Tryz.f12 Rows.hypStopsSpec Rows.hypStopsRow = true := by kernel_rfl
theorem jf8 : (fun (P : Program) (f : FuncId) (fn : Func) (s : ChangeSpec) (c : OpenClaim) => ((P.stopKnobs == []) : Bool)) Tryz.pinned.checked.prog 12 Tryz.f12 Rows.hypStopsSpec Rows.hypStopsRow = true := by kernel_rfl
theorem jf9 : (fun (P : Program) (f : FuncId) (fn : Func) (s : ChangeSpec) (c : OpenClaim) => ((c.inPlace == P.inPlace f) : Bool)) Tryz.pinned.checked.prog 12 Tryz.f12 Rows.hypStopsSpec Rows.hypStopsRow = true := by kernel_rfl
theorem bb9 : (fun (P : Program) (f : FuncId) (fn : Func) (s : ChangeSpec) (c : OpenClaim) => ((c.unfollowed == P.unfollowed f) : Bool)) Tryz.pinned.checked.prog 12 Tryz.f12 Rows.hypStopsSpec Rows.hypStopsRow = true := by kernel_rfl
theorem bc4 : (fun (P : Program) (f : FuncId) (fn : Func) (s : ChangeSpec) (c : OpenClaim) => ((c.recurses == P.recurses f) : Bool)) Tryz.pinned.checked.prog 12 Tryz.f12 Rows.hypStopsSpec Rows.hypStopsRow = true := by kernel_rfl
theorem bc5 : (fun (P : Program) (f : FuncId) (fn : Func) (s : ChangeSpec) (c : OpenClaim) => ((c.named == P.varsNamed f) : Bool)) Tryz.pinned.checked.prog 12 Tryz.f12 Rows.hypStopsSpec Rows.hypStopsRow = true := by kernel_rfl
theorem bc6 : (fun (P : Program) (f : FuncId) (fn : Func) (s : ChangeSpec) (c : OpenClaim) => ((c.maps == (fn.params.toList ++ s.plain.varTypes P).any (P.mapsRec ·)) : Bool)) Tryz.pinned.checked.prog 12 Tryz.f12 Rows.hypStopsSpec Rows.hypStopsRow = true := by kernel_rfl
theorem bc7 : (fun (P : Program) (f : FuncId) (fn : Func) (s : ChangeSpec) (c : OpenClaim) => ((c.ifaces == (fn.params.toList ++ s.plain.varTypes P).any (P.ifacesRec ·)) : Bool)) Tryz.pinned.checked.prog 12 Tryz.f12 Rows.hypStopsSpec Rows.hypStopsRow = true := by kernel_rfl
theorem bc8 : (fun (P : Program) (f : FuncId) (fn : Func) (s : ChangeSpec) (c : OpenClaim) => ((c.mapsOut == P.mapsAmong fn.resultTypes.toList) : Bool)) Tryz.pinned.checked.prog 12 Tryz.f12 Rows.hypStopsSpec Rows.hypStopsRow = true := by kernel_rfl
theorem bc9 : (fun (P : Program) (f : FuncId) (fn : Func) (s : ChangeSpec) (c : OpenClaim) => ((c.loops == (fn.params.toList ++ s.plain.varTypes P).any (P.loopsFrom ·)) : Bool)) Tryz.pinned.checked.prog 12 Tryz.f12 Rows.hypStopsSpec Rows.hypStopsRow = true := by kernel_rfl
theorem bd0 : (fun (P : Program) (f : FuncId) (fn : Func) (s : ChangeSpec) (c : OpenClaim) => ((c.wideKeys == (fn.params.toList ++ s.plain.varTypes P ++ fn.resultTypes.toList).any (P.wideKeysFrom ·)) : Bool)) Tryz.pinned.checked.prog 12 Tryz.f12 Rows.hypStopsSpec Rows.hypStopsRow = true := by kernel_rfl
theorem bd1 : (fun (P : Program) (f : FuncId) (fn : Func) (s : ChangeSpec) (c : OpenClaim) => (s.vars.all (P.varReadable ·) : Bool)) Tryz.pinned.checked.prog 12 Tryz.f12 Rows.hypStopsSpec Rows.hypStopsRow = true := by kernel_rfl
theorem bd2 : (fun (P : Program) (f : FuncId) (fn : Func) (s : ChangeSpec) (c : OpenClaim) => (fn.resultTypes.all (fun t => P.readableRec t && decide (t < P.types.size)) : Bool)) Tryz.pinned.checked.prog 12 Tryz.f12 Rows.hypStopsSpec Rows.hypStopsRow = true := by kernel_rfl
theorem bd3 : (fun (P : Program) (f : FuncId) (fn : Func) (s : ChangeSpec) (c : OpenClaim) => ((c.ifacesOut == fn.resultTypes.toList.any (P.ifacesRec ·)) : Bool)) Tryz.pinned.checked.prog 12 Tryz.f12 Rows.hypStopsSpec Rows.hypStopsRow = true := by kernel_rfl
theorem bd4 : (fun (P : Program) (f : FuncId) (fn : Func) (s : ChangeSpec) (c : OpenClaim) => ((c.loopsOut == fn.resultTypes.toList.any (P.loopsFrom ·)) : Bool)) Tryz.pinned.checked.prog 12 Tryz.f12 Rows.hypStopsSpec Rows.hypStopsRow = true := by kernel_rfl
theorem bd5 : (fun (P : Program) (f : FuncId) (fn : Func) (s : ChangeSpec) (c : OpenClaim) => ((c.plainKeys == P.plainKeys) : Bool)) Tryz.pinned.checked.prog 12 Tryz.f12 Rows.hypStopsSpec Rows.hypStopsRow = true := by kernel_rfl
theorem bd6 : (fun (P : Program) (f : FuncId) (fn : Func) (s : ChangeSpec) (c : OpenClaim) => (c.shortTexts.isNone : Bool)) Tryz.pinned.checked.prog 12 Tryz.f12 Rows.hypStopsSpec Rows.hypStopsRow = true := by kernel_rfl
theorem bd7 : (fun (P : Program) (f : FuncId) (fn : Func) (s : ChangeSpec) (c : OpenClaim) => (P.stopsHeard : Bool)) Tryz.pinned.checked.prog 12 Tryz.f12 Rows.hypStopsSpec Rows.hypStopsRow = true := by kernel_rfl
theorem bd8 : (fun (P : Program) (f : FuncId) (fn : Func) (s : ChangeSpec) (c : OpenClaim) => (P.mayEnter : Bool)) Tryz.pinned.checked.prog 12 Tryz.f12 Rows.hypStopsSpec Rows.hypStopsRow = true := by kernel_rfl
theorem bd9 : (fun (P : Program) (f : FuncId) (fn : Func) (s : ChangeSpec) (c : OpenClaim) => ((c.lifted == P.liftsFinal) : Bool)) Tryz.pinned.checked.prog 12 Tryz.f12 Rows.hypStopsSpec Rows.hypStopsRow = true := by kernel_rfl
theorem bd' : (fun (P : Program) (f : FuncId) (fn : Func) (s : ChangeSpec) (c : OpenClaim) => ((P.make == some c.make) : Bool)) Tryz.pinned.checked.prog 12 Tryz.f12 Rows.hypStopsSpec Rows.hypStopsRow = true := by kernel_rfl
theorem be0 : (fun (P : Program) (f : FuncId) (fn : Func) (s : ChangeSpec) (c : OpenClaim) => ((c.kinds == (if c.domain.isEmpty then [] else fn.params.toList.map fun t => match P.underlying t with | some (.int k) => some k | _ => none)) : Bool)) Tryz.pinned.checked.prog 12 Tryz.f12 Rows.hypStopsSpec Rows.hypStopsRow = true := by kernel_rfl
theorem be1 : (fun (P : Program) (f : FuncId) (fn : Func) (s : ChangeSpec) (c : OpenClaim) => ((c.pinned == c.pinnedBy) : Bool)) Tryz.pinned.checked.prog 12 Tryz.f12 Rows.hypStopsSpec Rows.hypStopsRow = true := by kernel_rfl
theorem be3 : (fun (P : Program) (f : FuncId) (fn : Func) (s : ChangeSpec) (c : OpenClaim) => ((c.veiled == (fn.params.toList ++ s.plain.varTypes P ++ fn.resultTypes.toList).any (P.veiledRec ·)) : Bool)) Tryz.pinned.checked.prog 12 Tryz.f12 Rows.hypStopsSpec Rows.hypStopsRow = true := by kernel_rfl
theorem be5 : (fun (P : Program) (f : FuncId) (fn : Func) (s : ChangeSpec) (c : OpenClaim) => (c.veiledFits P fn.params.toList (fn.params.toList ++ s.plain.varTypes P ++ fn.resultTypes.toList) : Bool)) Tryz.pinned.checked.prog 12 Tryz.f12 Rows.hypStopsSpec Rows.hypStopsRow = true := by kernel_rfl
theorem xU {a b : Bool} (h : a = true) (k : b = true) : (a && b) = true := by rw [h, k]; rfl
set_option maxRecDepth 1000000 in
theorem closed : joinedFacts Tryz.pinned.checked.prog 12 Tryz.f12 Rows.hypStopsSpec Rows.hypStopsRow = true := (xU (xU (xU (xU (xU (xU (xU (xU (xU (xU (xU (xU (xU (xU (xU (xU (xU (xU (xU (xU (xU (xU (xU (xU (xU (xU (xU (xU (xU (xU (xU jf0 jf1) jf2) jf3) jf4) jf5) jf6) jf7) jf8) jf9) bb9) bc4) bc5) bc6) bc7) bc8) bc9) bd0) bd1) bd2) bd3) bd4) bd5) bd6) bd7) bd8) bd9) bd') be0) be1) be3) be5)
theorem over : Rows.hypStopsRow.holds Tryz.pinned (OpenSpec.ofChange Rows.hypStopsSpec) :=
  OpenClaim.holds_of_wide 12 Tryz.f12 rfl rfl rfl rfl rfl rfl rfl ⟨rfl, rfl, rfl, rfl, rfl⟩ rfl rfl rfl rfl rfl (by kernel_rfl) Tryz.func12 closed
    (of_decide_eq_true (by kernel_rfl)) (by unfold Func.isWrapper; first | (rw [if_pos (by decide +kernel)]; kernel_rfl) | (rw [if_neg (by decide +kernel)]; exact ⟨rfl, rfl⟩))
    (fun os started H enc _ => lifted os started H enc)

theorem proved : Rows.HypStopsSaid := over
#print axioms proved
end Go.Proofs.YtellmabgmnbhcaaGreat.hypStopsDone
