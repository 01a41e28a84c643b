/- Layer 18 (part): calls of a guest's own, and the one that stops it. -/
import Derived.Test.YtjnndchkblnkgaaPtC
namespace Go.Proofs.Ytjnndchkblnkgaa
open Go.RowKit
set_option linter.unusedVariables false
set_option linter.unusedSimpArgs false
set_option maxRecDepth 20000
attribute [local irreducible] Hy St Ops DH DHF
def PtD.stopL (P : PtD) (cpu : Nat) : PtD := (P.setGs (ix (P.st cpu).vm) { P.gs (ix (P.st cpu).vm) with vcpus := (P.gs (ix (P.st cpu).vm)).vcpus.set (P.st cpu).cpu.toNat (-1) }).setSt cpu ⟨0, 0⟩
/-- No result. -/
theorem fin0 {P : Program} {fn : Func} {R : Value → Hp → Prop} {l : Fm} {hp : Hp} {e : Exit} (h : R (.tuple #[]) hp) (hr : fn.results = #[] := by rfl) (he : e = .ret ∨ e = .normal := by first | exact .inl rfl | exact .inr rfl) : Fin P fn R e l hp :=
  ⟨he, [], by rw [hr]; trivial, h⟩
theorem updG_same (G : Nat → GB) (i : Nat) : updG G i (G i) = G := by
  funext j
  by_cases hj : j = i
  · subst hj; rw [updG_self]
  · rw [updG_ne _ _ _ hj]
section
variable {P : PtD} {Y : Lay} {bx tx : Nat} {w : World}
/-- A call of the host's that is none. -/
theorem hostCallBad_e (h : OwnP P Y) (hN : HereN (Y.hd P bx 66) w) {K : Int} (hK : K = 9 ∨ K = 10 ∨ K = 11) (vm fr mid vc cc cpu : Int) : Fn Try.prog 25 [.pointer (some ⟨bx, 0, none⟩), .int .i64 cpu, clV ⟨K, vm, fr, mid, vc, cc⟩].toArray w ((Y.hd P bx 66).map (·.b)) (CallR bx 66 (.error 9)) := by
  rcases hK with rfl | rfl | rfl <;> (
  refine enterM _ hN Try.func25 ?_
  refine run ?_
  intro C
  refine runC ?_
  refine fin1 ?_
  rfl)
theorem stop_e (h : OwnP P Y) (hm : P.may = true) (hN : HereN (Y.hd P bx 66) w) (cpu : Nat) (hc : cpu < P.on.length) (hv : (P.st cpu).vm ≠ 0) : Fn Try.prog 33 [.pointer (some ⟨bx, 0, none⟩), .int .i64 (cpu : Int)].toArray w ((Y.hd P bx 66).map (·.b)) (fun u hn => u = .tuple #[] ∧ ∃ Y', OwnP (P.stopL cpu) Y' ∧ HpLe (Y'.hd (P.stopL cpu) bx 66) hn) := by
  have hs := may_seat hm hc hv
  obtain ⟨b1, b2, hl, hk0, hk, he⟩ := hs
  have hs0 := h.s0 hc
  have hs1 := h.s1 hc
  have hrow := h.sRow hc
  have hosz := h.osz
  have g4 := h.n.g4
  refine enterM _ hN Try.func33 ?_
  refine runC ?_
  intro S
  obtain ⟨g, cap', cur, eg, eh, hn, hsz, hset⟩ := (h.vc _ (ix_lt ⟨b1, b2⟩)).setI hk
  obtain ⟨r, g1, g2⟩ := ghs_upd Y.G (ix_lt ⟨b1, b2⟩)
  rw [eh] at g1
  have g0 := g2 (Y.G (ix (P.st cpu).vm)).vv (Y.G (ix (P.st cpu).vm)).mv (Y.G (ix (P.st cpu).vm)).hv (Y.G (ix (P.st cpu).vm)).hm
  rw [show updG Y.G (ix (P.st cpu).vm) ⟨(Y.G (ix (P.st cpu).vm)).vv, (Y.G (ix (P.st cpu).vm)).mv, (Y.G (ix (P.st cpu).vm)).hv, (Y.G (ix (P.st cpu).vm)).hm⟩ = Y.G from updG_same Y.G _, eh] at g0
  have n3 := h.g3 (ix_lt ⟨b1, b2⟩)
  rw [eg] at n3
  have hz := h.gsz
  have hi : ix (P.st cpu).vm < 4 := ix_lt ⟨b1, b2⟩
  refine st_le (⟨S, #[.int .i64 (P.st cpu).vm, .int .i64 (P.st cpu).cpu], 59⟩ :: ⟨g, cur, 3⟩ :: ⟨bx, #[Y.pv P, Y.gv P, Y.ov P], 66⟩ :: ⟨Y.ob, Y.oc, 59⟩ :: ⟨Y.pb, Y.pc, 51⟩ :: ⟨Y.gb, Y.gc, 57⟩ :: ((Y.G (ix (P.st cpu).vm)).hm ++ r)) (by (refine hpLe_cnt fun a => ?_; have := HpLe.cnt g1 a; simp only [cntB_app, cntB_cons, cntB_nil] at *; omega)) ?_
  refine drawN 9 ?_
  refine runD ?_
  refine callD (fun wc hG => guestO_e (bx := bx) (tx := 66) h (hG.here' (by (refine hpLe_cnt fun a => ?_; have := HpLe.cnt g1 a; have := HpLe.cnt g0 a; simp only [cntB_app, cntB_cons, cntB_nil] at *; omega))) ⟨b1, b2⟩) ?_
  rw [show ((P.st cpu).vm - 1).toNat = ix (P.st cpu).vm from rfl]
  refine runD ?_
  refine runC ?_
  refine fin0 ⟨rfl, _, h.seatG hi hk hc (-1) ⟨by decide, by decide⟩ ⟨0, 0⟩ ⟨⟨by decide, by decide⟩, ⟨by decide, by decide⟩⟩ (hset _), ?_⟩
  have g3 := g2 (Y.G (ix (P.st cpu).vm)).vv (Y.G (ix (P.st cpu).vm)).mv [⟨g, cur.setIfInBounds (P.st cpu).cpu.toNat (.int .i64 (-1)), 3⟩] (Y.G (ix (P.st cpu).vm)).hm
  rw [PtD.stopL, hdGS]
  simp only [putAt, stV]
  (refine hpLe_cnt fun a => ?_; have := HpLe.cnt g3 a; simp only [cntB_app, cntB_cons, cntB_nil] at *; omega)
/-- A call of a guest's that stops it. -/
theorem guestCallStop_e (h : OwnP P Y) (hm : P.may = true) (hN : HereN (Y.hd P bx 66) w) (vm fr mid vc cc : Int) (cpu : Nat) (hc : cpu < P.on.length) (hv : (P.st cpu).vm ≠ 0) : Fn Try.prog 24 [.pointer (some ⟨bx, 0, none⟩), .int .i64 (cpu : Int), clV ⟨9, vm, fr, mid, vc, cc⟩].toArray w ((Y.hd P bx 66).map (·.b)) (CallR bx 66 (.ok (P.stopL cpu))) := by
  have hs0 := h.s0 hc
  refine enterM _ hN Try.func24 ?_
  refine run ?_
  intro C
  refine runC ?_
  refine callM (Y.hd P bx 66) [⟨C, #[.int .i64 9, .int .i64 vm, .int .i64 fr, .int .i64 mid, .int .i64 vc, .int .i64 cc], 37⟩] (fun wc hG => stop_e h hm hG.hereN cpu hc hv) (fun v hn hR => ?_) (by rw [hdY]; (refine perm_cnt fun a => ?_; simp only [cntB_app, cntB_cons, cntB_nil]; omega))
  obtain ⟨rfl, Y', hO, hle⟩ := hR
  refine runC ?_
  refine fin1 ?_
  exact ⟨rfl, Y', hO, hpLe_cnt fun a => by have := hle.cnt a; simp only [cntB_app, cntB_cons, cntB_nil] at *; omega⟩
end
end Go.Proofs.Ytjnndchkblnkgaa
