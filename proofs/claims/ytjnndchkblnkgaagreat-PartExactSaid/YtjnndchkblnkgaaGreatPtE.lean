/- Layer 18 (part): calls of a guest's own, and the one that stops it. -/
import Derived.Test.YtjnndchkblnkgaaGreatPtC
namespace Go.Proofs.YtjnndchkblnkgaaGreat
open Go.RowKit
set_option linter.unusedVariables false
set_option linter.unusedSimpArgs false
set_option maxRecDepth 20000
attribute [local irreducible] Hy St Ops DH DHF
def PtD.stopL (P : PtD) (cpu : Nat) : PtD := (P.setGs (ix (P.st cpu).vm) { P.gs (ix (P.st cpu).vm) with vcpus := (P.gs (ix (P.st cpu).vm)).vcpus.set (P.st cpu).cpu.toNat (-1) }).setSt cpu ⟨0, 0⟩
/-- No result. -/
theorem fin0 {P : Program} {fn : Func} {R : Value → Hp → Prop} {l : Fm} {hp : Hp} {e : Exit} (h : R (.tuple #[]) hp) (hr : fn.results = #[] := by rfl) (he : e = .ret ∨ e = .normal := by first | exact .inl rfl | exact .inr rfl) : Fin P fn R e l hp :=
  ⟨he, [], by rw [hr]; trivial, h⟩
theorem updG_same (G : Nat → GB) (i : Nat) : updG G i (G i) = G := by
  funext j
  by_cases hj : j = i
  · subst hj; rw [updG_self]
  · rw [updG_ne _ _ _ hj]
section
variable {P : PtD} {Y : Lay} {bx tx : Nat} {w : World}
/-- A call of the host's that is none. -/
theorem hostCallBad_e (h : OwnP P Y) (hN : HereN (Y.hd P bx 67) w) {K : Int} (hK : K = 9 ∨ K = 10 ∨ K = 11) (vm fr mid vc cc cpu : Int) : Fn Tryz.prog 30 [.pointer (some ⟨bx, 0, none⟩), .int .i64 cpu, clV ⟨K, vm, fr, mid, vc, cc⟩].toArray w ((Y.hd P bx 67).map (·.b)) (CallR bx 67 (.error 9)) := by
  rcases hK with rfl | rfl | rfl <;> (
  refine enterM _ hN Tryz.func30 ?_
  refine run ?_
  intro C
  refine runC ?_
  refine fin1 ?_
  rfl)
theorem hostBad_e (h : OwnP P Y) (hN : HereN (Y.hd P bx 26) w) {K : Int} (hK : K = 9 ∨ K = 10 ∨ K = 11) (vm fr mid vc cc cpu : Int) : Fn Tryz.prog 31 [.pointer (some ⟨bx, 0, none⟩), .int .i64 cpu, clV ⟨K, vm, fr, mid, vc, cc⟩].toArray w ((Y.hd P bx 26).map (·.b)) (CallR bx 26 (.error 9)) := by
  rcases hK with rfl | rfl | rfl <;> (
  refine enterM _ hN Tryz.func31 ?_
  refine run ?_
  intro B
  refine run ?_
  refine callE (fun wc hG => names_e ⟨_, vm, fr, mid, vc, cc⟩ wc) ?_
  refine runC ?_
  refine drawAll ?_
  refine runDG ?_
  refine runC ?_
  refine fin1 ?_
  rfl)
/-- A kind that is a guest's alone. -/
theorem kind_guest {K : Int} (L : PtD → ClD → Nat → Except Int PtD) (hne : ∀ P c cpu e, L P c cpu = .error e → e ≠ 0) (hK : K = 9 ∨ K = 10 ∨ K = 11)
    (hA : ∀ (P : PtD) (Y : Lay) (bx : Nat) (w : World) (c : ClD) (cpu : Nat), c.kind = K → c.Wf → P.may = true → cpu < P.on.length → (P.st cpu).vm ≠ 0 → OwnP P Y → HereN (Y.hd P bx 67) w → Fn Tryz.prog 29 [.pointer (some ⟨bx, 0, none⟩), .int .i64 (cpu : Int), clV c].toArray w ((Y.hd P bx 67).map (·.b)) (CallR bx 67 (L P c cpu)))
    (hB : ∀ (P : PtD) (Y : Lay) (bx : Nat) (w : World) (c : ClD) (cpu : Nat), c.kind = K → c.Wf → P.may = true → cpu < P.on.length → (P.st cpu).vm ≠ 0 → OwnP P Y → HereN (Y.hd P bx 26) w → Fn Tryz.prog 32 [.pointer (some ⟨bx, 0, none⟩), .int .i64 (cpu : Int), clV c].toArray w ((Y.hd P bx 26).map (·.b)) (CallR bx 26 (L P c cpu))) : KindOk K := by
  intro P cpu c hk hw hc hs
  by_cases hv : (P.st cpu).vm = 0
  · subst hk
    refine ⟨.error 9, fun w pv gv ov hp => ?_, fun hm w pv gv ov hp => ?_⟩
    · exact partDo_e hp hs cpu hc c _ (fun e he => by cases he; decide) (fun hm _ Y bx w hO hN => hostCallBad_e hO hN hK c.vm c.frame c.mid c.vcpu c.ccpu cpu) (fun _ hn => absurd hv hn)
    · exact refDo_e hp hs hm cpu hc c _ (fun e he => by cases he; decide) (fun _ Y bx w hO hN => hostBad_e hO hN hK c.vm c.frame c.mid c.vcpu c.ccpu cpu) (fun hn => absurd hv hn)
  · refine ⟨L P c cpu, fun w pv gv ov hp => ?_, fun hm w pv gv ov hp => ?_⟩
    · exact partDo_e hp hs cpu hc c _ (hne P c cpu) (fun _ hn => absurd hn hv) (fun hm _ Y bx w hO hN => hA P Y bx w c cpu hk hw hm hc hv hO hN)
    · exact refDo_e hp hs hm cpu hc c _ (hne P c cpu) (fun hn => absurd hn hv) (fun _ Y bx w hO hN => hB P Y bx w c cpu hk hw hm hc hv hO hN)
theorem stop_e (h : OwnP P Y) (hm : P.may = true) (hN : HereN (Y.hd P bx 67) w) (cpu : Nat) (hc : cpu < P.on.length) (hv : (P.st cpu).vm ≠ 0) : Fn Tryz.prog 28 [.pointer (some ⟨bx, 0, none⟩), .int .i64 (cpu : Int)].toArray w ((Y.hd P bx 67).map (·.b)) (fun u hn => u = .tuple #[] ∧ ∃ Y', OwnP (P.stopL cpu) Y' ∧ HpLe (Y'.hd (P.stopL cpu) bx 67) hn) := by
  have hs := may_seat hm hc hv
  obtain ⟨b1, b2, hl, hk0, hk, he⟩ := hs
  have hs0 := h.s0 hc
  have hs1 := h.s1 hc
  have hrow := h.sRow hc
  have hosz := h.osz
  have g4 := h.n.g4
  refine enterM _ hN Tryz.func28 ?_
  refine runC ?_
  intro S
  obtain ⟨g, cap', cur, eg, eh, hn, hsz, hset⟩ := (h.vc _ (ix_lt ⟨b1, b2⟩)).setI hk
  obtain ⟨r, g1, g2⟩ := ghs_upd Y.G (ix_lt ⟨b1, b2⟩)
  rw [eh] at g1
  have g0 := g2 (Y.G (ix (P.st cpu).vm)).vv (Y.G (ix (P.st cpu).vm)).mv (Y.G (ix (P.st cpu).vm)).hv (Y.G (ix (P.st cpu).vm)).hm
  rw [show updG Y.G (ix (P.st cpu).vm) ⟨(Y.G (ix (P.st cpu).vm)).vv, (Y.G (ix (P.st cpu).vm)).mv, (Y.G (ix (P.st cpu).vm)).hv, (Y.G (ix (P.st cpu).vm)).hm⟩ = Y.G from updG_same Y.G _, eh] at g0
  have n3 := h.g3 (ix_lt ⟨b1, b2⟩)
  rw [eg] at n3
  have hz := h.gsz
  have hi : ix (P.st cpu).vm < 4 := ix_lt ⟨b1, b2⟩
  refine st_le (⟨S, #[.int .i64 (P.st cpu).vm, .int .i64 (P.st cpu).cpu], 64⟩ :: ⟨g, cur, 3⟩ :: ⟨bx, #[Y.pv P, Y.gv P, Y.ov P], 67⟩ :: ⟨Y.ob, Y.oc, 64⟩ :: ⟨Y.pb, Y.pc, 55⟩ :: ⟨Y.gb, Y.gc, 62⟩ :: ((Y.G (ix (P.st cpu).vm)).hm ++ r)) (by (refine hpLe_cnt fun a => ?_; have := HpLe.cnt g1 a; simp only [cntB_app, cntB_cons, cntB_nil] at *; omega)) ?_
  refine drawN 9 ?_
  refine runD ?_
  refine callD (fun wc hG => guestO_e (bx := bx) (tx := 67) h (hG.here' (by (refine hpLe_cnt fun a => ?_; have := HpLe.cnt g1 a; have := HpLe.cnt g0 a; simp only [cntB_app, cntB_cons, cntB_nil] at *; omega))) ⟨b1, b2⟩) ?_
  rw [show ((P.st cpu).vm - 1).toNat = ix (P.st cpu).vm from rfl]
  refine runD ?_
  refine runC ?_
  refine fin0 ⟨rfl, _, h.seatG hi hk hc (-1) ⟨by decide, by decide⟩ ⟨0, 0⟩ ⟨⟨by decide, by decide⟩, ⟨by decide, by decide⟩⟩ (hset _), ?_⟩
  have g3 := g2 (Y.G (ix (P.st cpu).vm)).vv (Y.G (ix (P.st cpu).vm)).mv [⟨g, cur.setIfInBounds (P.st cpu).cpu.toNat (.int .i64 (-1)), 3⟩] (Y.G (ix (P.st cpu).vm)).hm
  rw [PtD.stopL, hdGS]
  simp only [putAt, stV]
  (refine hpLe_cnt fun a => ?_; have := HpLe.cnt g3 a; simp only [cntB_app, cntB_cons, cntB_nil] at *; omega)
/-- A call of a guest's that stops it. -/
theorem guestCallStop_e (h : OwnP P Y) (hm : P.may = true) (hN : HereN (Y.hd P bx 67) w) (vm fr mid vc cc : Int) (cpu : Nat) (hc : cpu < P.on.length) (hv : (P.st cpu).vm ≠ 0) : Fn Tryz.prog 29 [.pointer (some ⟨bx, 0, none⟩), .int .i64 (cpu : Int), clV ⟨9, vm, fr, mid, vc, cc⟩].toArray w ((Y.hd P bx 67).map (·.b)) (CallR bx 67 (.ok (P.stopL cpu))) := by
  have hs0 := h.s0 hc
  refine enterM _ hN Tryz.func29 ?_
  refine run ?_
  intro C
  refine runC ?_
  refine callM (Y.hd P bx 67) [⟨C, #[.int .i64 9, .int .i64 vm, .int .i64 fr, .int .i64 mid, .int .i64 vc, .int .i64 cc], 33⟩] (fun wc hG => stop_e h hm hG.hereN cpu hc hv) (fun v hn hR => ?_) (by rw [hdY]; (refine perm_cnt fun a => ?_; simp only [cntB_app, cntB_cons, cntB_nil]; omega))
  obtain ⟨rfl, Y', hO, hle⟩ := hR
  refine runC ?_
  refine fin1 ?_
  exact ⟨rfl, Y', hO, hpLe_cnt fun a => by have := hle.cnt a; simp only [cntB_app, cntB_cons, cntB_nil] at *; omega⟩
theorem ownStop_e (h : OwnP P Y) (hm : P.may = true) (hN : HereN (Y.hd P bx 26) w) (vm fr mid vc cc : Int) (cpu : Nat) (hc : cpu < P.on.length) (hv : (P.st cpu).vm ≠ 0) : Fn Tryz.prog 32 [.pointer (some ⟨bx, 0, none⟩), .int .i64 (cpu : Int), clV ⟨9, vm, fr, mid, vc, cc⟩].toArray w ((Y.hd P bx 26).map (·.b)) (CallR bx 26 (.ok (P.stopL cpu))) := by
  obtain ⟨b1, b2, hl, hk0, hk, he⟩ := may_seat hm hc hv
  have hs0 := h.s0 hc
  have hs1 := h.s1 hc
  have hrow := h.sRow hc
  have hosz := h.osz
  have g4 := h.n.g4
  have hi : ix (P.st cpu).vm < 4 := ix_lt ⟨b1, b2⟩
  obtain ⟨g, cap', cur, eg, eh, hn, hsz, hset⟩ := (h.vc _ hi).setI hk
  obtain ⟨r, g1, g2⟩ := ghs_upd Y.G hi
  rw [eh] at g1
  have n3 := h.g3 hi
  rw [eg] at n3
  have hz := h.gsz
  refine enterM _ hN Tryz.func32 ?_
  refine run ?_
  intro C
  refine runC ?_
  intro S
  refine runC ?_
  refine drawN 8 ?_
  refine runD ?_
  rw [show ((P.st cpu).vm - 1).toNat = ix (P.st cpu).vm from rfl]
  refine runC ?_
  refine st_le (⟨S, #[.int .i64 (P.st cpu).vm, .int .i64 (P.st cpu).cpu], 64⟩ :: ⟨C, #[.int .i64 9, .int .i64 vm, .int .i64 fr, .int .i64 mid, .int .i64 vc, .int .i64 cc], 33⟩ :: ⟨g, cur, 3⟩ :: ⟨bx, #[Y.pv P, Y.gv P, Y.ov P], 26⟩ :: ⟨Y.ob, Y.oc, 64⟩ :: ⟨Y.pb, Y.pc, 55⟩ :: ⟨Y.gb, Y.gc, 62⟩ :: ((Y.G (ix (P.st cpu).vm)).hm ++ r)) (by (refine hpLe_cnt fun a => ?_; have := HpLe.cnt g1 a; simp only [cntB_app, cntB_cons, cntB_nil] at *; omega)) ?_
  refine runC ?_
  refine drawN 6 ?_
  refine runD ?_
  refine runC ?_
  refine fin1 ?_
  refine ⟨rfl, _, h.seatG hi hk hc (-1) ⟨by decide, by decide⟩ ⟨0, 0⟩ ⟨⟨by decide, by decide⟩, ⟨by decide, by decide⟩⟩ (hset _), ?_⟩
  have g3 := g2 (Y.G (ix (P.st cpu).vm)).vv (Y.G (ix (P.st cpu).vm)).mv [⟨g, cur.setIfInBounds (P.st cpu).cpu.toNat (.int .i64 (-1)), 3⟩] (Y.G (ix (P.st cpu).vm)).hm
  rw [PtD.stopL, hdGS]
  simp only [putAt, stV]
  (refine hpLe_cnt fun a => ?_; have := HpLe.cnt g3 a; simp only [cntB_app, cntB_cons, cntB_nil] at *; omega)
theorem kindStop : KindOk 9 := by
  refine kind_guest (fun P c cpu => .ok (P.stopL cpu)) ?_ (.inl rfl) ?_ ?_
  · intro P c cpu e h
    cases h
  · rintro P Y bx w ⟨_, vm, fr, mid, vc, cc⟩ cpu rfl hw hm hc hv hO hN
    exact guestCallStop_e hO hm hN vm fr mid vc cc cpu hc hv
  · rintro P Y bx w ⟨_, vm, fr, mid, vc, cc⟩ cpu rfl hw hm hc hv hO hN
    exact ownStop_e hO hm hN vm fr mid vc cc cpu hc hv
end
end Go.Proofs.YtjnndchkblnkgaaGreat
