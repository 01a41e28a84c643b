/- The engine: late pointers, what the world tells, known calls in a region that makes memory. -/
import Derived.Test.YtiaelhhmlbfkmaaGreatEng2
namespace Go.Proofs.YtiaelhhmlbfkmaaGreat
open Go.RowKit
set_option linter.unusedVariables false
set_option linter.unusedSimpArgs false
set_option maxRecDepth 20000
/-- What the world tells may be used. -/
theorem ops_good {P : Program} {n : Nat} {w0 : World} {mu : List Nat} {l : Fm} {hp : Hp} {Q : Exit → Fm → Hp → Prop} {all : Array Oper} {rest : List Oper} (h : ∀ w, Good w0 mu hp w → Ops P n w0 mu all rest l hp Q) : Ops P n w0 mu all rest l hp Q := by
  intro a w hk hG
  exact h w hG a w hk hG
section
variable {P : Program} {n : Nat} {w0 : World} {mu : List Nat} {lf : Fm} {hp : Hp} {dd : Option Tmp} {ty : TypeId} {pos : String} {af : Array Edge}
theorem r_nilCheck {x : Operand} {p : Addr} (hx : ev lf x = some (.pointer (some p))) : HyR P n w0 mu lf hp ⟨dd, .nilCheck x, ty, pos, af, none⟩ (.pointer (some p)) := ⟨rfl, fun a w hk _ => by simp [execOp, hk.ev hx]⟩
theorem r_field {T : Tab} (ok : TabOk P T) {t : TypeId} {x : Operand} {k b off k' off' : Nat} {os : List Nat} (hx : ev lf x = some (.pointer (some ⟨b, off, none⟩))) (ho : lk T.fo t = some os) (hk2 : nth os k = some k') (he : off + k' = off') : HyR P n w0 mu lf hp ⟨dd, .fieldAddr t x k, ty, pos, af, none⟩ (.pointer (some ⟨b, off', none⟩)) := by
  have hf := ok.gfo ho (by rw [nth_eq] at hk2; simpa using hk2)
  subst he
  refine ⟨rfl, fun a w hk _ => ?_⟩
  simp only [execOp, hk.ev hx]
  unfold fOff at hf
  cases hu : P.underlying t with
  | none => rw [hu] at hf; cases hf
  | some dd =>
    rw [hu] at hf
    cases dd with
    | struct fs =>
      simp only at hf
      cases hq : fs[k]? with
      | none => rw [hq] at hf; cases hf
      | some f =>
        rw [hq] at hf
        simp only [Option.bind_some] at hf
        cases hz : szOf P f.type with
        | none => rw [hz] at hf; cases hf
        | some s =>
          rw [hz] at hf
          cases s with
          | zero => cases hf
          | succ s =>
            simp only [Option.some.injEq] at hf
            subst hf
            cases hi : P.info? f.type with
            | none => simp [szOf, hi] at hz
            | some i =>
              have hsz : i.size = s + 1 := by simpa [szOf, hi] using hz
              simp [Instr.fieldAt, Instr.sureAddr, run_underlying hu w, hq, fieldPlace, sizeOf, typeInfo, hi, hsz, add_lit]
    | _ => cases hf
variable {l : Fm} {all : Array Oper} {iv : Fm} {i d : Nat} {ds : List (Nat × Nat)} {D : List Nat} {Y : Fm → Prop}
end
section
variable {n : Nat} {w0 : World} {mu : List Nat} {l : Fm} {hp : Hp} {all : Array Oper} {iv : Fm} {i d : Nat} {ds : List (Nat × Nat)} {D : List Nat} {Y : Fm → Prop} {ty : TypeId} {pos : String} {af : Array Edge}
theorem dNilCheck {x : Operand} {p : Addr} (h : DE3 Tryz.prog n w0 mu all ds l hp Y D ((i, .pointer (some p)) :: iv)) (ho : all[i]? = some ⟨some d, .nilCheck x, ty, pos, af, none⟩ := by rfl) (hx : ev (depFm ds iv af.toList ++ l) x = some (.pointer (some p)) := by rfl) : DE3 Tryz.prog n w0 mu all ds l hp Y (i :: D) iv := de3_d ho (r_nilCheck hx) h
theorem dField {t : TypeId} {x : Operand} {k b off k' off' : Nat} {os : List Nat} (h : DE3 Tryz.prog n w0 mu all ds l hp Y D ((i, .pointer (some ⟨b, off', none⟩)) :: iv)) (ho : all[i]? = some ⟨some d, .fieldAddr t x k, ty, pos, af, none⟩ := by rfl) (hx : ev (depFm ds iv af.toList ++ l) x = some (.pointer (some ⟨b, off, none⟩)) := by rfl) (hfo : lk Tb.fo t = some os := by rfl) (hk : nth os k = some k' := by rfl) (he : off + k' = off' := by rfl) : DE3 Tryz.prog n w0 mu all ds l hp Y (i :: D) iv := de3_d ho (r_field tb_ok hx hfo hk he) h
theorem sCallE {f : FuncId} {xs : List Operand} {vs : List Value} {tys : Array TypeId} {v : Value} {X : Fm → Prop} {S : List Nat} (hc : ∀ w hx, Good w0 mu (hx ++ hp) w → Fn Tryz.prog f vs.toArray w [] (fun u _ => u = v)) (h : DE1 Tryz.prog n w0 mu all ds l hp X S ((i, v) :: iv)) (ho : all[i]? = some ⟨some d, .call { callee := .value (.func f), args := xs.toArray, argTypes := tys }, ty, pos, af, none⟩ := by rfl) (hcal : mem calN f = true := by rfl) (hv : evs (depFm ds iv af.toList ++ l) xs = some vs := by rfl) : DE1 Tryz.prog n w0 mu all ds l hp X (i :: S) iv :=
  de1_s ho (fun hx => x_call (calOk f hcal) hv (fun w hG => hc w hx hG)) h
end
section
variable {P : Program} {n : Nat} {w0 : World} {mu : List Nat} {l : Fm} {h0 hp hc : Hp} {all : Array Oper} {iv ivS ivE : Fm} {i d t0 : Nat} {ds : List (Nat × Nat)} {S r : List Nat} {X : Fm → Prop} {Y : Fm → Hp → Prop} {op : Op} {ty : TypeId} {pos : String} {af : Array Edge} {v : Value} {j dj : Nat} {want b : Bool}
theorem ds_ag (ho : all[i]? = some ⟨some d, op, ty, pos, af, some (j, want)⟩) (hwt : Region.waitsFor .any all t0 i = true) (hj : (all[j]?).bind (·.dst) = some dj) (hb : look (depFm ds iv af.toList ++ l) dj = some (.bool b)) (hdj : Nat.blt dj n = true) (hw : wnt b want = true) (hy : ∀ hx, Hy P n w0 mu (depFm ds iv af.toList ++ l) (hx ++ hp) ⟨some d, op, ty, pos, af, some (j, want)⟩ v) (h : DS P n w0 mu all ds l h0 hp t0 X S ((i, v) :: iv)) : DS P n w0 mu all ds l h0 hp t0 X (i :: S) iv :=
  ⟨_, v, ho, fun hx => by rw [hwt]; exact ⟨dj, true, b, v, hj, hb, hdj, fun _ _ => hy hx, by rw [hw]; rfl⟩, h⟩
theorem ds_bg (ho : all[i]? = some ⟨some d, op, ty, pos, af, some (j, want)⟩) (hwt : Region.waitsFor .any all t0 i = false) (hj : (all[j]?).bind (·.dst) = some dj) (hb : look (depFm ds iv af.toList ++ l) dj = some (.bool b)) (hdj : Nat.blt dj n = true) (hw : wnt b want = true) (hy : ∀ hx, Hy P n w0 mu (depFm ds iv af.toList ++ l) (hx ++ h0) ⟨some d, op, ty, pos, af, some (j, want)⟩ v) (h : DS P n w0 mu all ds l h0 hp t0 X S ((i, v) :: iv)) : DS P n w0 mu all ds l h0 hp t0 X (i :: S) iv :=
  ⟨_, v, ho, fun hx => by rw [hwt]; exact ⟨dj, true, b, v, hj, hb, hdj, fun _ _ => hy hx, by rw [hw]; rfl⟩, h⟩
end
section
variable {n : Nat} {w0 : World} {mu : List Nat} {l : Fm} {h0 hp hc : Hp} {all : Array Oper} {iv ivS ivE : Fm} {i d : Nat} {ds : List (Nat × Nat)} {r : List Nat} {Y : Fm → Hp → Prop} {ty : TypeId} {pos : String} {af : Array Edge}
theorem cCallG {f : FuncId} {j dj : Nat} {want b : Bool} {xs : List Operand} {vs : List Value} {tys : Array TypeId} {R : RT} (hcl : ∀ w, Good w0 mu hc w → Fn Tryz.prog f vs.toArray w [] R) (h : ∀ v hn, R v hn → DCh Tryz.prog n w0 mu all ds l h0 ivS Y r ((i, v) :: ivE) (hn ++ hc)) (ho : all[i]? = some ⟨some d, .call { callee := .value (.func f), args := xs.toArray, argTypes := tys }, ty, pos, af, some (j, want)⟩ := by rfl) (hcal : mem calN f = true := by rfl) (hv : evs (depFm ds (ivE ++ ivS) af.toList ++ l) xs = some vs := by rfl) (hj : (all[j]?).bind (·.dst) = some dj := by rfl) (hb : look (depFm ds (ivE ++ ivS) af.toList ++ l) dj = some (.bool b) := by rfl) (hdj : Nat.blt dj n = true := by rfl) (hw : wnt b want = true := by rfl) : DCh Tryz.prog n w0 mu all ds l h0 ivS Y (i :: r) ivE hc :=
  dc_e ho (eo_g (eo_call (calOk f hcal) hv hcl) hw hj hb hdj) h
end
section
variable {P : Program} {n : Nat} {w0 : World} {mu : List Nat} {l : Fm} {hp : Hp} {dd : Option Tmp} {ty : TypeId} {pos : String} {af : Array Edge} {gg : Option (Nat × Bool)} {t u : TypeId} {x y : Operand}
theorem x_xorN {pi qi : Int} (hx : ev l x = some (.int .u64 pi)) (hy : ev l y = some (.int .u64 qi)) (p q : Nat) (hpi : pi = (p : Int)) (hqi : qi = (q : Int))  (h1 : p < 18446744073709551616) (h2 : q < 18446744073709551616) : Hy P n w0 mu l hp ⟨dd, .binOp .xor t x y u, ty, pos, af, gg⟩ (.int .u64 ((p ^^^ q : Nat) : Int)) :=
  hy_run fun ac w hk _ => by
    subst hpi hqi
    have := u64_xor_nat p q h1 h2
    simp only [execOp, hk.ev hx, hk.ev hy]
    simp [eqGuard_xor, binOp_xor, intBits_xor, this]
end
section
variable {P : Program} {n : Nat} {w0 : World} {mu : List Nat} {l : Fm} {hp : Hp} {Q : Exit → Fm → Hp → Prop} {all : Array Oper} {rest : List Oper} {dst : Option Nat} {op : Op} {ty : TypeId} {pos : String} {af : Array Edge}
/-- A guard that is met. -/
theorem opsGT {j dj : Nat} {want b : Bool} (h : Ops P n w0 mu all (⟨dst, op, ty, pos, af, none⟩ :: rest) l hp Q) (hw : wnt b want = true) (hj : (all[j]?).bind (·.dst) = some dj := by rfl) (hb : look l dj = some (.bool b) := by rfl) (hdj : Nat.blt dj n = true := by rfl) : Ops P n w0 mu all (⟨dst, op, ty, pos, af, some (j, want)⟩ :: rest) l hp Q := by
  intro a w hk hG
  have h1 := h a w hk hG
  have h2 := wanted_of (o := ⟨dst, op, ty, pos, af, some (j, want)⟩) (c0 := true) hk rfl hj hb hdj
  rw [hw] at h2
  replace h2 : Region.wanted (⟨dst, op, ty, pos, af, some (j, want)⟩ : Oper) (yielded all a.tmps) = true := h2
  unfold wpList at h1 ⊢
  rw [if_pos h2]
  rw [if_pos (by simp [Region.wanted])] at h1
  exact h1
end
theorem SlAt.takeN {w : World} {α : Type} {f : α → List Value} {xs : List α} {p : Option Addr} {n cap sz k : Nat} (h : SlAt w (.slice p n cap) sz (xs.map f)) (hk : k ≤ xs.length) : SlAt w (.slice p k cap) sz ((xs.take k).map f) := by
  obtain ⟨⟨q, c, e, hne⟩, hle⟩ := h
  injection e with e1 e2 e3
  subst e1 e3
  have hl : ((xs.take k).map f).length = k := by rw [List.length_map, List.length_take]; omega
  refine ⟨⟨_, _, by rw [hl], fun hx => ?_⟩, by rw [hl]; rw [List.length_map] at hle; omega⟩
  obtain ⟨b, off, rfl, hr⟩ := hne (by intro e; apply hx; rw [List.map_eq_nil_iff] at e ⊢; rw [e]; simp)
  refine ⟨b, off, rfl, fun i c hi => hr i c ?_⟩
  rw [List.map_take, List.getElem?_take] at hi
  split at hi
  · exact hi
  · cases hi
attribute [local irreducible] Hy St Ops DH DHF DE1 DE2 DE3 DS DCh
theorem runZG {G R : Prop} (k : R) (h : RestP R → G := by (intro kLeft; (repeat (first | (with_reducible apply ds_nil) | ((with_reducible apply ds_a); rfl; decide +kernel; (intro hxS; (first | exact hyF))) | ((with_reducible apply ds_b); rfl; decide +kernel; (intro hxS; (first | exact hyF))) | ((with_reducible apply ds_ag); rfl; decide +kernel; rfl; rfl; rfl; rfl; (intro hxS; (first | exact hyF))) | ((with_reducible apply ds_bg); rfl; decide +kernel; rfl; rfl; rfl; rfl; (intro hxS; (first | exact hyF))))); exact kLeft.get)) : G := h ⟨k⟩
end Go.Proofs.YtiaelhhmlbfkmaaGreat
