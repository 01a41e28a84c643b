/- Layer 18 (part): what the program tells of a partition; the first one. -/
import Derived.Test.YtdfkcjjbflcafaaGreatPartE
namespace Go.Proofs.YtdfkcjjbflcafaaGreat
open Go.RowKit
set_option linter.unusedVariables false
set_option linter.unusedSimpArgs false
set_option maxRecDepth 20000
attribute [local irreducible] Hy St Ops DH DHF
section
variable {w : World} {pv gv ov : Value} {P : PtD}
def ofL (P : PtD) (who : Int) : Int × Int × Int :=
  bif P.may && PtD.btw who (-1) 4 then ((((P.pages.filter fun x => decide (x.own = who)).length : Nat) : Int), ((((List.range P.pages.length).filter (P.uses who)).length : Nat) : Int), 0) else (0, 0, 1)
theorem PartG.agg (h : PartG w pv gv ov P) : pv.oneCell' = true ∧ gv.oneCell' = true ∧ ov.oneCell' = true := by
  obtain ⟨p, pc, rfl, _⟩ := h.pages.opened
  obtain ⟨o, oc, rfl, _⟩ := h.on.opened
  obtain ⟨vv, mv, ⟨⟨g, gc, rfl, _⟩, hl⟩, _⟩ := h.guests
  exact ⟨rfl, rfl, rfl⟩
theorem three_cells {w0 w : World} {mu : List Nat} {hp : Hp} (hG : Good w0 mu hp w) {b t : Nat} {x y z : Value} (hm : (⟨b, #[x, y, z], t⟩ : Blk) ∈ hp) : w.cell? ⟨b, 0, none⟩ = some x ∧ w.cell? ⟨b, 1, none⟩ = some y ∧ w.cell? ⟨b, 2, none⟩ = some z := by
  have h := hG.here _ hm
  refine ⟨?_, ?_, ?_⟩ <;> (rw [cell_of_block h]; rfl)
theorem may_len (h : P.may = true) : P.Len := by
  simp only [PtD.may, Bool.and_eq_true, decide_eq_true_eq] at h
  exact ⟨by omega, by omega, by omega, by omega, by omega⟩
theorem mayB_e (h : PartG w pv gv ov P) {w' : World} {hp : Hp} (hG : Good w [] hp w') {b t : Nat} (hm : (⟨b, #[pv, gv, ov], t⟩ : Blk) ∈ hp) : Fn Tryz.prog 40 [.pointer (some ⟨b, 0, none⟩)].toArray w' [] (fun u _ => u = .bool P.may) := by
  obtain ⟨a, b, c⟩ := three_cells hG hm
  exact may_e (h.good hG) a b c
theorem partQ_of (h : PartG w pv gv ov P) (hn : P.Len) {w' : World} {hp : Hp} (hG : Good w [] hp w') {b t : Nat} (hm : (⟨b, #[pv, gv, ov], t⟩ : Blk) ∈ hp) : ∃ L, PartQ w' b L P := by
  obtain ⟨L, rfl, rfl, rfl, hv⟩ := (h.good hG).open hn
  obtain ⟨a, b, c⟩ := three_cells hG hm
  exact ⟨L, hv, hn, a, b, c⟩
theorem of_e (h : PartG w pv gv ov P) (who : Int) : Fn Tryz.prog 39 [.agg #[pv, gv, ov], .int .i64 who].toArray w [] (fun u _ => u = .tuple #[.int .i64 (ofL P who).1, .int .i64 (ofL P who).2.1, .int .i64 (ofL P who).2.2]) := by
  obtain ⟨p, pc, rfl, hne, hle⟩ := h.pages.opened
  obtain ⟨o, oc, rfl, _⟩ := h.on.opened
  obtain ⟨g, gc, rfl, hl⟩ : ∃ g gc, gv = .slice g P.guests.length gc ∧ P.guests.length ≤ 281474976710656 := by
    obtain ⟨vv, mv, ⟨⟨g, gc, e, _⟩, hl⟩, _⟩ := h.guests
    simp only [List.length_map, List.length_range] at e hl
    exact ⟨g, gc, e, hl⟩
  refine enter Tryz.func39 ?_
  refine run ?_
  intro B1 B2
  refine run ?_
  refine callE (fun wc hG => mayB_e h hG mh) ?_
  refine runG ?_
  refine callEG (fun h1 wc hG => between_e _ _ _ wc) ?_
  refine runG ?_
  refine st_cond _ rfl (fun hc => ?_) (fun hc => ?_)
  · refine run ?_
    refine fin3 ?_
    unfold ofL
    revert hc
    cases P.may <;> cases PtD.btw who (-1) 4 <;> simp
  · simp only [Bool.or_eq_false_iff, Bool.not_eq_false'] at hc
    obtain ⟨hm, h1⟩ := hc
    have hn := may_len hm
    have hp1 := hn.p1
    have htk : ∀ k, k < P.pages.length → P.pages.take (k + 1) = P.pages.take k ++ [P.pg k] := fun k hk => by
      rw [List.take_succ_eq_append_getElem hk, PtD.pg, List.getD_eq_getElem?_getD, List.getElem?_eq_getElem hk]; rfl
    have cA : ∀ k, k < P.pages.length → ((P.pages.take (k + 1)).filter fun x => decide (x.own = who)).length = ((P.pages.take k).filter fun x => decide (x.own = who)).length + (bif decide ((P.pg k).own = who) then 1 else 0) := fun k hk => by
      rw [htk k hk, List.filter_append, List.length_append]
      cases hd : decide ((P.pg k).own = who) <;> simp [List.filter_cons, hd]
    have cB : ∀ k, ((List.range (k + 1)).filter (P.uses who)).length = ((List.range k).filter (P.uses who)).length + (bif P.uses who k then 1 else 0) := fun k => by
      rw [List.range_succ, List.filter_append, List.length_append]
      cases hd : P.uses who k <;> simp [List.filter_cons, hd]
    refine run ?_
    refine loopS (σ := Nat × Nat × Nat) (fun s => [(4, .int .i64 (s.2.1 : Int)), (5, .int .i64 (s.2.2 : Int)), (24, .int .i64 (s.1 : Int))]) (fun _ => [⟨B2, #[.slice p P.pages.length pc, .slice g P.guests.length gc, .slice o P.on.length oc], 54⟩]) (fun s => s.1 ≤ P.pages.length ∧ s.2.1 = ((P.pages.take s.1).filter fun x => decide (x.own = who)).length ∧ s.2.2 = ((List.range s.1).filter (P.uses who)).length ∧ s.2.1 ≤ s.1 ∧ s.2.2 ≤ s.1) (fun s => P.pages.length - s.1) (0, 0, 0) ⟨by omega, by simp, by simp, by simp, by simp⟩ ?_
    rintro ⟨k, a, b⟩ m hm2 ⟨hk, ha, hb, ha2, hb2⟩
    dsimp only at hm2 hk ha hb ha2 hb2 ⊢
    refine run ?_
    refine st_cond _ rfl (fun hc => ?_) (fun hc => ?_)
    · have hlt : k < P.pages.length := by simp at hc; omega
      obtain ⟨b2, o2, rfl⟩ := hne (by intro e; rw [e] at hlt; simp at hlt)
      have hr := h.pages.row hlt
      simp only [pgV] at hr
      rw [show P.pages.getD k default = P.pg k from rfl] at hr
      have cAk := cA k hlt
      have cBk := cB k
      refine run ?_
      intro X
      refine run ?_
      refine st_cond _ rfl (fun hc2 => ?_) (fun hc2 => ?_)
      all_goals
        rw [hc2] at cAk
        refine run ?_
        refine callE (fun wc hG => by
          obtain ⟨L, hQ⟩ := partQ_of h hn hG (mt mh)
          exact uses_e hQ k hlt who) ?_
        refine run ?_
        refine st_cond _ rfl (fun hc3 => ?_) (fun hc3 => ?_)
        all_goals
          rw [hc3] at cBk
          simp only [cond_true, cond_false, Nat.add_zero] at cAk cBk
          refine run ?_
      · exact nextS (k + 1, a + 1, b + 1) (by refine ⟨?_, ?_, ?_, ?_, ?_⟩ <;> (dsimp only; omega))
      · exact nextS (k + 1, a + 1, b) (by refine ⟨?_, ?_, ?_, ?_, ?_⟩ <;> (dsimp only; omega))
      · exact nextS (k + 1, a, b + 1) (by refine ⟨?_, ?_, ?_, ?_, ?_⟩ <;> (dsimp only; omega))
      · exact nextS (k + 1, a, b) (by refine ⟨?_, ?_, ?_, ?_, ?_⟩ <;> (dsimp only; omega))
    · have hge : k = P.pages.length := by simp at hc; omega
      subst hge
      refine run ?_
      refine fin3 ?_
      rw [List.take_length] at ha
      simp only [ofL, hm, h1, Bool.and_self, cond_true, ha, hb]
end
end Go.Proofs.YtdfkcjjbflcafaaGreat
