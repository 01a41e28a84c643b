/- Layer 18 (part): a call that runs a virtual processor. -/
import Derived.Test.YtjnndchkblnkgaaLay3
namespace Go.Proofs.Ytjnndchkblnkgaa
open Go.RowKit
set_option linter.unusedVariables false
set_option linter.unusedSimpArgs false
set_option maxRecDepth 20000
attribute [local irreducible] Hy St Ops DH DHF
/-- A slice of numbers of one's own, one of them. -/
theorem Own.setI {e : Nat} {v : Value} {h : Hp} {xs : List Int} (hA : Own e 1 v h (xs.map inV)) {k : Nat} (hk : k < xs.length) : ∃ g cap cur, v = .slice (some ⟨g, 0, none⟩) xs.length cap ∧ h = [⟨g, cur, e⟩] ∧ nth cur.toList k = some (.int .i64 (xs.getD k 0)) ∧ k + 1 ≤ cur.size ∧
    ∀ z, Own e 1 v [⟨g, cur.setIfInBounds k (.int .i64 z), e⟩] ((xs.set k z).map inV) := by
  obtain ⟨g, cap, cur, rfl, rfl, hr⟩ := hA.row (n := xs.length) (by simp) (by omega)
  have hall : ∀ c ∈ xs.map inV, c.length = 1 := fun c hc => (in_all c hc).1
  have hi : (xs.map inV)[k]? = some (inV (xs.getD k 0)) := by
    rw [List.getElem?_map, List.getD_eq_getElem?_getD, List.getElem?_eq_getElem hk]; rfl
  have h1 := hr.nth hall hi (k := 0) rfl
  rw [Nat.mul_one, Nat.add_zero] at h1
  have hsz := hr.size
  have hle := hr.le
  refine ⟨g, cap, cur, rfl, rfl, h1, by omega, fun z => ⟨in_all, .inr ⟨g, cap, _, by simp, rfl, ?_⟩⟩⟩
  have h2 := hr.put hall hi (k := 0) (vs := [.int .i64 z]) (by simp)
  have e1 : (inV (xs.getD k 0)).take 0 ++ [Value.int .i64 z] ++ (inV (xs.getD k 0)).drop (0 + [Value.int .i64 z].length) = inV z := rfl
  rw [e1, Nat.mul_one, Nat.add_zero] at h2
  have e2 : ((xs.set k z).map inV).length = xs.length := by simp
  rw [e2, List.map_set]
  exact h2
theorem set_same {α : Type} {l : List α} {i : Nat} {a : α} (h : l[i]? = some a) : l.set i a = l := by
  apply List.ext_getElem?
  intro j
  by_cases hj : i = j
  · subst hj
    have hlt := (List.getElem?_eq_some_iff.1 h).1
    rw [List.getElem?_set_self hlt, h]
  · rw [List.getElem?_set_ne hj]
namespace PtD
def runL (P : PtD) (cpu : Nat) (vm vc : Int) : Except Int PtD :=
  bif !btw vm 1 4 then .error 2 else bif !(P.gs (ix vm)).live || !btw vc 0 (((P.gs (ix vm)).vcpus.length : Int) - 1) then .error 3 else bif !decide ((P.gs (ix vm)).vcpus.getD vc.toNat 0 = -1) then .error 6
  else .ok ((P.setGs (ix vm) { P.gs (ix vm) with vcpus := (P.gs (ix vm)).vcpus.set vc.toNat (cpu : Int) }).setSt cpu ⟨vm, vc⟩)
end PtD
section
variable {P : PtD} {Y : Lay} {bx tx : Nat} {w : World}
/-- A guest's virtual processor set, and a seat. -/
theorem OwnP.seatG (h : OwnP P Y) {i k cpu : Nat} (hi : i < 4) (hk : k < (P.gs i).vcpus.length) (hc : cpu < P.on.length) (z : Int) (hz : I64 z) (s : StD) (hs : I64 s.vm ∧ I64 s.cpu) {g : Nat} {cur : Array Value} (hv : Own 3 1 (Y.G i).vv [⟨g, cur, 3⟩] (((P.gs i).vcpus.set k z).map inV)) :
    OwnP ((P.setGs i { P.gs i with vcpus := (P.gs i).vcpus.set k z }).setSt cpu s) { Y with oc := putAt Y.oc (cpu * 2) (stV s), G := updG Y.G i ⟨(Y.G i).vv, (Y.G i).mv, [⟨g, cur, 3⟩], (Y.G i).hm⟩ } := by
  have g4 := h.n.g4
  have hf := h.wf.gs i (by omega)
  have hsm := h.sm.vc i (by omega)
  have hg := h.setG hi { P.gs i with vcpus := (P.gs i).vcpus.set k z } ⟨(Y.G i).vv, (Y.G i).mv, [⟨g, cur, 3⟩], (Y.G i).hm⟩ (gc := Y.gc) (by
    rw [set_same (h.rowG hi)]
    exact h.gs) hv (h.mp i hi) ⟨hf.1, fun x hx => ?_, hf.2.2⟩ ⟨by simpa using hsm.1, hsm.2⟩
  · have hon : (P.setGs i { P.gs i with vcpus := (P.gs i).vcpus.set k z }).on = P.on := rfl
    have := hg.setS (c := cpu) (by rw [hon]; exact hc) s (oc := putAt Y.oc (cpu * 2) (stV s)) (by
      have := h.on.put st_len (st_at hc) (k := 0) (vs := stV s) (by simp [stV])
      have e : ([Value.int .i64 (P.st cpu).vm, .int .i64 (P.st cpu).cpu]).take 0 ++ stV s ++ ([Value.int .i64 (P.st cpu).vm, .int .i64 (P.st cpu).cpu]).drop (0 + (stV s).length) = stV s := rfl
      rw [e] at this
      exact this) hs
    exact this
  · rcases List.mem_or_eq_of_mem_set hx with hx | rfl
    · exact hf.2.1 x hx
    · exact hz
theorem hdGS (Y : Lay) (P : PtD) (i cpu : Nat) (g : GsD) (s : StD) (oc : Array Value) (G : Nat → GB) (bx tx : Nat) : Lay.hd { Y with oc := oc, G := G } ((P.setGs i g).setSt cpu s) bx tx = ⟨bx, #[Y.pv P, Y.gv P, Y.ov P], tx⟩ :: ⟨Y.pb, Y.pc, 51⟩ :: ⟨Y.gb, Y.gc, 57⟩ :: ⟨Y.ob, oc, 59⟩ :: ghs G 4 := by
  have h1 : ((P.setGs i g).setSt cpu s).guests.length = P.guests.length := by simp [PtD.setGs, PtD.setSt]
  have h2 : ((P.setGs i g).setSt cpu s).on.length = P.on.length := by simp [PtD.setGs, PtD.setSt]
  simp only [Lay.hd, Lay.in, Lay.pv, Lay.gv, Lay.ov, h1, h2]
  rfl
theorem run_e (h : OwnP P Y) (hN : HereN (Y.hd P bx 66) w) (cpu : Nat) (hc : cpu < P.on.length) (c : ClD) (hw : c.Wf) : Fn Try.prog 49 [.pointer (some ⟨bx, 0, none⟩), .int .i64 (cpu : Int), clV c].toArray w ((Y.hd P bx 66).map (·.b)) (CallR bx 66 (P.runL cpu c.vm c.vcpu)) := by
  refine enterM _ hN Try.func49 ?_
  refine run ?_
  intro C
  refine run ?_
  refine callE (fun wc hG => machined_e _ wc) ?_
  cases hb : PtD.btw c.vm 1 4
  · refine runC ?_
    refine fin1 ?_
    simp [CallR, PtD.runL, hb]
  refine runC ?_
  have hb' := hb
  simp only [PtD.btw, Bool.and_eq_true, decide_eq_true_eq] at hb'
  have hi : ix c.vm < 4 := ix_lt hb'
  refine callE (fun wc hG => guestO_e (bx := bx) (tx := 66) h (hG.here' (by (refine hpLe_cnt fun a => ?_; simp only [cntB_app, cntB_cons, cntB_nil]; omega))) hb') ?_
  rw [show (c.vm - 1).toNat = ix c.vm from rfl]
  obtain ⟨q, cap, ev⟩ := (h.vc _ hi).opened
  have n0 := h.g0 hi
  have n3 := h.g3 hi
  rw [ev, List.length_map] at n3
  have hz := h.gsz
  have hlen := (h.sm.vc (ix c.vm) (by have := h.n.g4; omega)).1
  refine runC ?_
  refine drawN 17 ?_
  refine runDG ?_
  refine callDG (fun hg wc hG => between_e _ _ _ wc) ?_
  refine runDG ?_
  refine runG ?_
  refine st_cond _ rfl (fun hp => ?_) (fun hp => ?_)
  · refine runC ?_
    refine fin1 ?_
    simp only [PtD.runL, hb, hp]
    rfl
  have hp' := hp
  simp only [Bool.or_eq_false_iff, Bool.not_eq_false', PtD.btw, Bool.and_eq_true, decide_eq_true_eq] at hp'
  obtain ⟨hl, hv0, hv1⟩ := hp'
  have hk : c.vcpu.toNat < (P.gs (ix c.vm)).vcpus.length := by omega
  obtain ⟨g, cap', cur, eg, eh, hn, hsz, hset⟩ := (h.vc _ hi).setI hk
  rw [ev, List.length_map] at eg
  cases eg
  obtain ⟨r, g1, g2⟩ := ghs_upd Y.G hi
  rw [eh] at g1
  refine st_le (⟨C, #[.int .i64 c.kind, .int .i64 c.vm, .int .i64 c.frame, .int .i64 c.mid, .int .i64 c.vcpu, .int .i64 c.ccpu], 37⟩ :: ⟨g, cur, 3⟩ :: ⟨bx, #[Y.pv P, Y.gv P, Y.ov P], 66⟩ :: ⟨Y.ob, Y.oc, 59⟩ :: ⟨Y.pb, Y.pc, 51⟩ :: ⟨Y.gb, Y.gc, 57⟩ :: ((Y.G (ix c.vm)).hm ++ r)) (by (refine hpLe_cnt fun a => ?_; have := HpLe.cnt g1 a; simp only [cntB_app, cntB_cons, cntB_nil] at *; omega)) ?_
  refine runC ?_
  refine drawN 9 ?_
  refine runD ?_
  refine runC ?_
  refine st_cond _ rfl (fun hp2 => ?_) (fun hp2 => ?_)
  · refine runC ?_
    refine fin1 ?_
    simp only [PtD.runL, hb, hp]
    simp at hp2
    simp [hp2, CallR]
  refine runC ?_
  refine drawN 7 ?_
  refine runD ?_
  refine runC ?_
  have hosz := h.osz
  refine drawN 11 ?_
  refine runD ?_
  refine runC ?_
  refine fin1 ?_
  have key : P.runL cpu c.vm c.vcpu = .ok ((P.setGs (ix c.vm) { P.gs (ix c.vm) with vcpus := (P.gs (ix c.vm)).vcpus.set c.vcpu.toNat (cpu : Int) }).setSt cpu ⟨c.vm, c.vcpu⟩) := by
    simp only [PtD.runL, hb, hp]
    simp only [Bool.not_eq_false'] at hp2
    rw [hp2]
    rfl
  rw [key]
  have hcpu : I64 (cpu : Int) := by have := h.sm.on; unfold I64; omega
  refine ⟨rfl, _, h.seatG hi hk hc (cpu : Int) hcpu ⟨c.vm, c.vcpu⟩ ⟨hw.vm, hw.vcpu⟩ (hset _), ?_⟩
  have g3 := g2 (Y.G (ix c.vm)).vv (Y.G (ix c.vm)).mv [⟨g, cur.setIfInBounds c.vcpu.toNat (.int .i64 cpu), 3⟩] (Y.G (ix c.vm)).hm
  rw [hdGS]
  simp only [putAt, stV]
  (refine hpLe_cnt fun a => ?_; have := HpLe.cnt g3 a; simp only [cntB_app, cntB_cons, cntB_nil] at *; omega)
end
end Go.Proofs.Ytjnndchkblnkgaa
