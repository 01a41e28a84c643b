/- Layers 3 and 5 (desc, a table's descriptor): the document's. -/
import Derived.Test.YtiaelhhmlbfkmaaGreatDsD
import Derived.Test.YtiaelhhmlbfkmaaGreatMmA
namespace Go.Proofs.YtiaelhhmlbfkmaaGreat
open Go.RowKit
set_option linter.unusedVariables false
set_option linter.unusedSimpArgs false
set_option maxRecDepth 20000
attribute [local irreducible] Hy St Ops DH DHF
theorem rPage_e (p : Int) (w : World) : Fn Tryz.prog 193 [.int .i64 p].toArray w [] (fun u _ => u = .bool (PtD.btw p 0 4095)) := by
  refine enter Tryz.func193 ?_
  refine run ?_
  refine callE (fun wc hG => num_e p 4095 wc) ?_
  refine run ?_
  exact fin1 rfl
theorem rDesc_e (stage : Int) (hs : stage = 1 ∨ stage = 2) (level : Nat) (hl : level < 4) (d : DsD) (w : World) : Fn Tryz.prog 263 [.int .i64 stage, .int .i64 (level : Int), dsV d].toArray w [] (fun u _ => u = .bool (d.may stage level)) := by
  have hlv : decide ((level : Int) < 3) = decide (level < 3) := by rw [Bool.eq_iff_iff, decide_eq_true_eq, decide_eq_true_eq]; omega
  have hlp : decide ((0 : Int) < (level : Int)) = decide (0 < level) := by rw [Bool.eq_iff_iff, decide_eq_true_eq, decide_eq_true_eq]; omega
  have h9 := dbits_lt hl
  refine enter Tryz.func263 ?_
  refine run ?_
  intro B
  refine run ?_
  refine st_cond _ rfl (fun hk => ?_) (fun hk => ?_)
  · have hk0 : d.kind = 0 := by simpa using hk
    refine runG ?_
    refine callEG (fun hg wc hG => num_e d.note 15 wc) ?_
    refine runG ?_
    refine fin1 ?_
    rw [bareEq d 0 0 d.note hk0]
    rcases hs with rfl | rfl <;> simp only [DsD.may, hk0, decide_true, cond_true, PtD.btw, Bool.and_true]
    · cases d.bare <;> cases hz : decide (d.note = 0) <;> simp_all
    · cases d.bare <;> cases hz : decide (d.note = 0) <;> simp_all
  · have hk0 : decide (d.kind = 0) = false := by simpa using hk
    refine run ?_
    refine st_cond _ rfl (fun hk1 => ?_) (fun hk1 => ?_)
    · have hk1' : d.kind = 1 := by simpa using hk1
      refine runG ?_
      refine callEG (fun hg wc hG => rPage_e d.frame wc) ?_
      refine runG ?_
      refine fin1 ?_
      rw [bareEq d 1 d.frame 0 hk1', hlv]
      simp only [DsD.may, hk1', decide_true, cond_true, show decide ((1 : Int) = 0) = false from rfl, cond_false, Bool.true_and]
      cases decide (level < 3) <;> cases d.bare <;> cases decide (d.note = 0) <;> rfl
    · have hk1' : decide (d.kind = 1) = false := by simpa using hk1
      refine run ?_
      refine st_cond _ rfl (fun hk2 => ?_) (fun hk2 => ?_)
      · have hk2' : d.kind = 2 := by simpa using hk2
        refine run ?_
        intro A
        refine drawN 47 ?_
        refine runDG ?_
        refine callDG (fun hg wc hG => rPage_e d.frame wc) ?_
        refine runDG ?_
        refine callDG (fun hg wc hG => rCovers_e level hl wc) ?_
        refine opDG (hy := fun hg => x_remN (by (simp only [hg, gv_true]; rfl)) (by (simp only [hg, gv_true]; rfl)) d.frame.toNat (coversN level) (by simp [wnt, PtD.btw] at hg; omega) (by rfl) (by omega)) (h := ?_)
        refine runDG ?_
        refine callDGG (fun hg0 hg1 wc hG => num_e d.soft 15 wc) ?_
        refine runDG ?_
        refine run ?_
        refine run ?_
        refine fin1 ?_
        rw [hlp]
        have hz : decide (((d.frame.toNat % coversN level : Nat) : Int) = 0) = decide (d.frame.toNat % coversN level = 0) := by rw [Bool.eq_iff_iff, decide_eq_true_eq, decide_eq_true_eq]; omega
        rw [hz]
        simp only [DsD.may, hk2', decide_true, cond_true, show decide ((2 : Int) = 0) = false from rfl, show decide ((2 : Int) = 1) = false from rfl, cond_false]
        rcases hs with rfl | rfl
        · cases decide (0 < level) <;> cases PtD.btw d.frame 0 4095 <;> cases decide (d.frame.toNat % coversN level = 0) <;> cases decide (d.note = 0) <;> cases d.r <;> cases decide (d.soft = 0) <;> rfl
        · simp only [PtD.btw]
          cases decide (0 < level) <;> cases decide (d.frame.toNat % coversN level = 0) <;> cases decide (d.note = 0) <;> cases d.ng <;> cases decide (0 ≤ d.soft) <;> cases decide (d.soft ≤ 15) <;> cases decide (0 ≤ d.frame) <;> cases decide (d.frame ≤ 4095) <;> rfl
      · refine run ?_
        refine fin1 ?_
        have hk2' : decide (d.kind = 2) = false := by simpa using hk2
        simp [DsD.may, hk0, hk1', hk2']
theorem rWord_e (stage : Int) (hs : stage = 1 ∨ stage = 2) (level : Nat) (hl : level < 4) (d : DsD) (hm : d.may stage level = true) (w : World) : Fn Tryz.prog 236 [.int .i64 stage, .int .i64 (level : Int), dsV d].toArray w [] (fun u _ => u = .int .u64 (d.word stage level : Int)) := by
  have hlv : decide ((level : Int) = 3) = decide (level = 3) := by rw [Bool.eq_iff_iff, decide_eq_true_eq, decide_eq_true_eq]; omega
  obtain ⟨k1, k2, k3, k4⟩ := may_kinds hm
  have hf : 0 ≤ d.frame ∧ d.frame ≤ 4095 := by
    rcases k1 with e | e | e
    · have := k2 e; omega
    · have := k3 e; omega
    · have := k4 e; omega
  have hf0 := hf.1
  have hf1 := hf.2
  have hfz : ((d.frame.toNat : Nat) : Int) = d.frame := by omega
  refine enter Tryz.func236 ?_
  refine run ?_
  intro B
  refine run ?_
  refine st_cond _ rfl (fun hk => ?_) (fun hk => ?_)
  · have hk0 : d.kind = 0 := by simpa using hk
    have hn0 := (k2 hk0).2.1
    have hn1 := (k2 hk0).2.2
    have hnz : ((d.note.toNat : Nat) : Int) = d.note := by omega
    refine run ?_
    refine op1 (by rfl) (x_shlN rfl rfl d.note.toNat 4 hnz.symm (by rfl) (by decide)) ?_
    refine run ?_
    refine fin1 ?_
    rw [DsD.word_none stage level d hk0]
  · have hk0 : decide (d.kind = 0) = false := by simpa using hk
    refine run ?_
    refine drawM 14 [0, 1, 2, 3, 4, 5, 6, 7, 8, 9, 10, 11, 12] [13] [] ?_
    refine de1_s rfl (fun hx2 => x_call (calOk 311 rfl) rfl (fun wc hG => rBit_e 0 true wc)) ?_
    refine runS ?_
    refine de1g (hy := fun hx2 hg => x_move rfl) (h := ?_)
    refine de1g (v := .bool (decide ((level : Int) = 3))) (hy := fun hx2 hg => ?_) (h := ?_)
    · exact x_eql (by (simp only [hg, gv_true]; rfl)) rfl
    refine runS ?_
    refine de1_s rfl (fun hx2 => x_call (calOk 311 rfl) rfl (fun wc hG => rBit_e 1 _ wc)) ?_
    refine runS ?_
    refine eBS (fdC [⟨0, 1, 1⟩, ⟨1, 1, b1 (decide (d.kind = 1) || decide (level = 3))⟩, ⟨12, 12, d.frame.toNat⟩]) (h := ?_) (hn := ?_)
    · refine eNil ?_
      simp only [DN]
      rintro _ hn ⟨T, rfl, rfl⟩
      refine dNil ?_
      refine opsF ?_
      simp only [List.cons_append, List.nil_append, List.append_nil]
      refine run ?_
      refine st_cond _ rfl (fun hk1 => ?_) (fun hk1 => ?_)
      · have hk2 : d.kind = 2 := by simpa using hk1
        have hk1' : decide (d.kind = 1) = false := by rw [hk2]; rfl
        simp only [hk1', Bool.false_or]
        refine run ?_
        refine drawM 11 [0, 1, 2, 3, 4, 5, 6, 7, 8, 9] [10] [] ?_
        refine runS ?_
        refine de1_s rfl (fun hx2 => x_call (calOk 311 rfl) rfl (fun wc hG => rBit_e 10 _ wc)) ?_
        refine runS ?_
        refine de1_s rfl (fun hx2 => x_call (calOk 311 rfl) rfl (fun wc hG => rBit_e 54 _ wc)) ?_
        refine runS ?_
        refine eBS (fdC [⟨10, 1, b1 d.af⟩, ⟨54, 1, b1 (!d.x)⟩]) (h := ?_) (hn := by cases d.af <;> cases d.x <;> rfl)
        refine eNil ?_
        simp only [DN]
        rintro _ hn ⟨T2, rfl, rfl⟩
        refine dNil ?_
        refine opsF ?_
        simp only [List.cons_append, List.nil_append, List.append_nil]
        refine appendM (m := 2) ([⟨10, 1, b1 d.af⟩, ⟨54, 1, b1 (!d.x)⟩].map fdV) [⟨T2, (fdC [⟨10, 1, b1 d.af⟩, ⟨54, 1, b1 (!d.x)⟩]).toArray, 330⟩, ⟨B, #[.int .i64 d.kind, .int .i64 d.frame, .bool d.r, .bool d.w, .bool d.x, .bool d.af, .bool d.ng, .int .i64 d.soft, .int .i64 d.note], 124⟩] (own_fds T 3 [⟨0, 1, 1⟩, ⟨1, 1, b1 (decide (level = 3))⟩, ⟨12, 12, d.frame.toNat⟩]) (by simp) (fun v' ha' hA' => ?_) (by simp) rfl (fdC_all _) (news_own (m := 6) mh rfl) (hperm := by (exact clcntP))
        refine ops_le (⟨B, #[.int .i64 d.kind, .int .i64 d.frame, .bool d.r, .bool d.w, .bool d.x, .bool d.af, .bool d.ng, .int .i64 d.soft, .int .i64 d.note], 124⟩ :: ha') clcntL ?_
        obtain ⟨q, cap, rfl⟩ := hA'.opened
        refine run ?_
        refine st_cond _ rfl (fun h1 => ?_) (fun h1 => ?_)
        · have h1' : decide (stage = 1) = true := h1
          refine run ?_
          refine drawM 11 [0, 1, 2, 3, 4, 5, 6, 7, 8, 9] [10] [] ?_
          refine runS ?_
          refine de1_s rfl (fun hx2 => x_call (calOk 311 rfl) rfl (fun wc hG => rBit_e 7 _ wc)) ?_
          refine runS ?_
          refine de1_s rfl (fun hx2 => x_call (calOk 311 rfl) rfl (fun wc hG => rBit_e 11 _ wc)) ?_
          refine runS ?_
          refine eBS (fdC [⟨7, 1, b1 (!d.w)⟩, ⟨11, 1, b1 d.ng⟩]) (h := ?_) (hn := by cases d.w <;> cases d.ng <;> rfl)
          refine eNil ?_
          simp only [DN]
          rintro _ hn ⟨T3, rfl, rfl⟩
          refine dNil ?_
          refine opsF ?_
          simp only [List.cons_append, List.nil_append, List.append_nil]
          refine appendM (m := 2) ([⟨7, 1, b1 (!d.w)⟩, ⟨11, 1, b1 d.ng⟩].map fdV) [⟨T3, (fdC [⟨7, 1, b1 (!d.w)⟩, ⟨11, 1, b1 d.ng⟩]).toArray, 330⟩, ⟨B, #[.int .i64 d.kind, .int .i64 d.frame, .bool d.r, .bool d.w, .bool d.x, .bool d.af, .bool d.ng, .int .i64 d.soft, .int .i64 d.note], 124⟩] hA' (by simp) (fun v2 ha2 hA2 => ?_) (by simp) rfl (fdC_all _) (news_own (m := 6) mh rfl) (hperm := by (exact clcntP))
          refine run ?_
          have e : d.fields stage level = [⟨0, 1, 1⟩, ⟨1, 1, b1 (decide (level = 3))⟩, ⟨12, 12, d.frame.toNat⟩, ⟨10, 1, b1 d.af⟩, ⟨54, 1, b1 (!d.x)⟩, ⟨7, 1, b1 (!d.w)⟩, ⟨11, 1, b1 d.ng⟩] := by simp only [DsD.fields, hk0, hk1', h1', cond_false, cond_true]
          obtain ⟨q2, cap2, rfl⟩ := hA2.opened
          have hfo := DsD.fields_ok hm
          rw [e] at hfo
          refine callE (fun wc hG => rJoin_e _ hfo (hA2.lie (fun b hb => hG.here _ (List.mem_append_left _ hb)) (by simp))) ?_
          refine run ?_
          refine fin1 ?_
          rw [DsD.word, e]
        · have h1' : decide (stage = 1) = false := by simpa using h1
          have hso := may_soft hm hk2 h1'
          have hs0 := hso.1
          have hs1 := hso.2
          have hsz : ((d.soft.toNat : Nat) : Int) = d.soft := by omega
          refine run ?_
          refine drawM 15 [0, 1, 2, 3, 4, 5, 6, 7, 8, 9, 10, 11, 12, 13] [14] [] ?_
          refine runS ?_
          refine de1_s rfl (fun hx2 => x_call (calOk 311 rfl) rfl (fun wc hG => rBit_e 6 _ wc)) ?_
          refine runS ?_
          refine de1_s rfl (fun hx2 => x_call (calOk 311 rfl) rfl (fun wc hG => rBit_e 7 _ wc)) ?_
          refine runS ?_
          refine eBS (fdC [⟨6, 1, b1 d.r⟩, ⟨7, 1, b1 d.w⟩, ⟨55, 4, d.soft.toNat⟩]) (h := ?_) (hn := by rw [← hsz]; cases d.r <;> cases d.w <;> rfl)
          refine eNil ?_
          simp only [DN]
          rintro _ hn ⟨T3, rfl, rfl⟩
          refine dNil ?_
          refine opsF ?_
          simp only [List.cons_append, List.nil_append, List.append_nil]
          refine appendM (m := 3) ([⟨6, 1, b1 d.r⟩, ⟨7, 1, b1 d.w⟩, ⟨55, 4, d.soft.toNat⟩].map fdV) [⟨T3, (fdC [⟨6, 1, b1 d.r⟩, ⟨7, 1, b1 d.w⟩, ⟨55, 4, d.soft.toNat⟩]).toArray, 330⟩, ⟨B, #[.int .i64 d.kind, .int .i64 d.frame, .bool d.r, .bool d.w, .bool d.x, .bool d.af, .bool d.ng, .int .i64 d.soft, .int .i64 d.note], 124⟩] hA' (by simp) (fun v2 ha2 hA2 => ?_) (by simp) rfl (fdC_all _) (news_own (m := 9) mh rfl) (hperm := by (exact clcntP))
          refine run ?_
          have e : d.fields stage level = [⟨0, 1, 1⟩, ⟨1, 1, b1 (decide (level = 3))⟩, ⟨12, 12, d.frame.toNat⟩, ⟨10, 1, b1 d.af⟩, ⟨54, 1, b1 (!d.x)⟩, ⟨6, 1, b1 d.r⟩, ⟨7, 1, b1 d.w⟩, ⟨55, 4, d.soft.toNat⟩] := by simp only [DsD.fields, hk0, hk1', h1', cond_false, cond_true]
          obtain ⟨q2, cap2, rfl⟩ := hA2.opened
          have hfo := DsD.fields_ok hm
          rw [e] at hfo
          refine callE (fun wc hG => rJoin_e _ hfo (hA2.lie (fun b hb => hG.here _ (List.mem_append_left _ hb)) (by simp))) ?_
          refine run ?_
          refine fin1 ?_
          rw [DsD.word, e]
      · have hk2 : d.kind = 1 := by
          simp at hk0 hk1
          rcases k1 with e | e | e
          · exact absurd e hk0
          · exact e
          · exact absurd e hk1
        have hk1' : decide (d.kind = 1) = true := by rw [hk2]; rfl
        simp only [hk1', Bool.true_or, show b1 true = 1 from rfl]
        refine run ?_
        have e : d.fields stage level = [⟨0, 1, 1⟩, ⟨1, 1, 1⟩, ⟨12, 12, d.frame.toNat⟩] := by simp only [DsD.fields, hk0, hk1', cond_false, cond_true]
        have hfo := DsD.fields_ok hm
        rw [e] at hfo
        refine callE (fun wc hG => rJoin_e _ hfo ((own_fds T 3 _).lie (fun b hb => hG.here _ (List.mem_append_left _ hb)) (by simp))) ?_
        refine run ?_
        refine fin1 ?_
        rw [DsD.word, e]
    · rw [hlv, ← hfz]
      cases decide (d.kind = 1) <;> cases decide (level = 3) <;> rfl
theorem ofL_cond {stage : Int} {level v : Nat} {D : DsD} (hD : guessL stage level v = D) : ofL stage level v = bif (!D.may stage level || !decide ((D.word stage level : Int) = (v : Int))) then noDs else D := by
  unfold ofL
  rw [hD]
  have : decide ((D.word stage level : Int) = (v : Int)) = decide (D.word stage level = v) := by rw [Bool.eq_iff_iff, decide_eq_true_eq, decide_eq_true_eq]; omega
  rw [this]
  cases D.may stage level <;> cases decide (D.word stage level = v) <;> rfl
theorem rOf_e (stage : Int) (hs : stage = 1 ∨ stage = 2) (level : Nat) (hl : level < 4) (v : Nat) (hv : v < 18446744073709551616) (w : World) : Fn Tryz.prog 190 [.int .i64 stage, .int .i64 (level : Int), .int .u64 (v : Int)].toArray w [] (fun u _ => u = dsV (ofL stage level v)) := by
  have hlv : decide ((level : Int) < 3) = !decide (level = 3) := by rw [Bool.eq_iff_iff, decide_eq_true_eq]; simp; omega
  refine enter Tryz.func190 ?_
  refine run ?_
  intro B C
  refine run ?_
  refine callE (fun wc hG => rSet_e v 0 (by decide) hv wc) ?_
  refine run ?_
  refine st_cond _ rfl (fun h0 => ?_) (fun h0 => ?_)
  · have h0' : (!decide (getN v 0 1 = 1)) = true := h0
    have hD : guessL stage level v = ⟨0, 0, false, false, false, false, false, 0, (getN v 4 4 : Int)⟩ := by rw [guessL, h0', cond_true]; rfl
    have hb := getN_lt v 4 4 (by decide)
    refine run ?_
    refine callE (fun wc hG => rGet_e v 4 4 (by decide) (by decide) hv wc) ?_
    refine run ?_
    refine callE (fun wc hG => rDesc_e stage hs level hl (⟨0, 0, false, false, false, false, false, 0, (getN v 4 4 : Int)⟩) wc) ?_
    refine runG ?_
    refine callEG (b := !DsD.may stage level (⟨0, 0, false, false, false, false, false, 0, (getN v 4 4 : Int)⟩)) (fun hg wc hG => rWord_e stage hs level hl (⟨0, 0, false, false, false, false, false, 0, (getN v 4 4 : Int)⟩) (by simpa [wnt] using hg) wc) ?_
    refine runG ?_
    refine st_cond _ rfl (fun hc => ?_) (fun hc => ?_)
    · refine run ?_
      refine finA ?_
      rw [ofL_cond hD, hc]
      rfl
    · refine run ?_
      refine finA ?_
      rw [ofL_cond hD, hc]
      rfl
  · have h0' : (!decide (getN v 0 1 = 1)) = false := by simpa using h0
    have hb := getN_lt v 12 12 (by decide)
    refine run ?_
    refine callE (fun wc hG => rSet_e v 1 (by decide) hv wc) ?_
    refine runG ?_
    refine st_cond _ rfl (fun h1 => ?_) (fun h1 => ?_)
    · rw [hlv] at h1
      have hD : guessL stage level v = ⟨1, (getN v 12 12 : Int), false, false, false, false, false, 0, 0⟩ := by rw [guessL, h0', cond_false, h1, cond_true]; rfl
      refine run ?_
      refine callE (fun wc hG => rGet_e v 12 12 (by decide) (by decide) hv wc) ?_
      refine run ?_
      refine callE (fun wc hG => rDesc_e stage hs level hl (⟨1, (getN v 12 12 : Int), false, false, false, false, false, 0, 0⟩) wc) ?_
      refine runG ?_
      refine callEG (b := !DsD.may stage level (⟨1, (getN v 12 12 : Int), false, false, false, false, false, 0, 0⟩)) (fun hg wc hG => rWord_e stage hs level hl (⟨1, (getN v 12 12 : Int), false, false, false, false, false, 0, 0⟩) (by simpa [wnt] using hg) wc) ?_
      refine runG ?_
      refine st_cond _ rfl (fun hc => ?_) (fun hc => ?_)
      · refine run ?_
        refine finA ?_
        rw [ofL_cond hD, hc]
        rfl
      · refine run ?_
        refine finA ?_
        rw [ofL_cond hD, hc]
        rfl
    · have h1' : (decide (getN v 1 1 = 1) && decide ((level : Int) < 3)) = false := by simpa using h1
      rw [hlv] at h1'
      refine run ?_
      refine callE (fun wc hG => rGet_e v 12 12 (by decide) (by decide) hv wc) ?_
      refine run ?_
      refine callE (fun wc hG => rSet_e v 10 (by decide) hv wc) ?_
      refine run ?_
      refine callE (fun wc hG => rSet_e v 54 (by decide) hv wc) ?_
      refine run ?_
      refine st_cond _ rfl (fun hst => ?_) (fun hst => ?_)
      · have hst' : decide (stage = 1) = true := hst
        have hD : guessL stage level v = ⟨2, (getN v 12 12 : Int), true, !decide (getN v 7 1 = 1), !decide (getN v 54 1 = 1), decide (getN v 10 1 = 1), decide (getN v 11 1 = 1), 0, 0⟩ := by rw [guessL, h0', cond_false, h1', cond_false, hst', cond_true]; rfl
        refine run ?_
        refine callE (fun wc hG => rSet_e v 7 (by decide) hv wc) ?_
        refine run ?_
        refine callE (fun wc hG => rSet_e v 11 (by decide) hv wc) ?_
        refine run ?_
        refine callE (fun wc hG => rDesc_e stage hs level hl (⟨2, (getN v 12 12 : Int), true, !decide (getN v 7 1 = 1), !decide (getN v 54 1 = 1), decide (getN v 10 1 = 1), decide (getN v 11 1 = 1), 0, 0⟩) wc) ?_
        refine runG ?_
        refine callEG (b := !DsD.may stage level (⟨2, (getN v 12 12 : Int), true, !decide (getN v 7 1 = 1), !decide (getN v 54 1 = 1), decide (getN v 10 1 = 1), decide (getN v 11 1 = 1), 0, 0⟩)) (fun hg wc hG => rWord_e stage hs level hl (⟨2, (getN v 12 12 : Int), true, !decide (getN v 7 1 = 1), !decide (getN v 54 1 = 1), decide (getN v 10 1 = 1), decide (getN v 11 1 = 1), 0, 0⟩) (by simpa [wnt] using hg) wc) ?_
        refine runG ?_
        refine st_cond _ rfl (fun hc => ?_) (fun hc => ?_)
        · refine run ?_
          refine finA ?_
          rw [ofL_cond hD, hc]
          rfl
        · refine run ?_
          refine finA ?_
          rw [ofL_cond hD, hc]
          rfl
      · have hst' : decide (stage = 1) = false := by simpa using hst
        have hD : guessL stage level v = ⟨2, (getN v 12 12 : Int), decide (getN v 6 1 = 1), decide (getN v 7 1 = 1), !decide (getN v 54 1 = 1), decide (getN v 10 1 = 1), false, (getN v 55 4 : Int), 0⟩ := by rw [guessL, h0', cond_false, h1', cond_false, hst', cond_false]; rfl
        have hb4 := getN_lt v 55 4 (by decide)
        refine run ?_
        refine callE (fun wc hG => rSet_e v 6 (by decide) hv wc) ?_
        refine run ?_
        refine callE (fun wc hG => rSet_e v 7 (by decide) hv wc) ?_
        refine run ?_
        refine callE (fun wc hG => rGet_e v 55 4 (by decide) (by decide) hv wc) ?_
        refine run ?_
        refine callE (fun wc hG => rDesc_e stage hs level hl (⟨2, (getN v 12 12 : Int), decide (getN v 6 1 = 1), decide (getN v 7 1 = 1), !decide (getN v 54 1 = 1), decide (getN v 10 1 = 1), false, (getN v 55 4 : Int), 0⟩) wc) ?_
        refine runG ?_
        refine callEG (b := !DsD.may stage level (⟨2, (getN v 12 12 : Int), decide (getN v 6 1 = 1), decide (getN v 7 1 = 1), !decide (getN v 54 1 = 1), decide (getN v 10 1 = 1), false, (getN v 55 4 : Int), 0⟩)) (fun hg wc hG => rWord_e stage hs level hl (⟨2, (getN v 12 12 : Int), decide (getN v 6 1 = 1), decide (getN v 7 1 = 1), !decide (getN v 54 1 = 1), decide (getN v 10 1 = 1), false, (getN v 55 4 : Int), 0⟩) (by simpa [wnt] using hg) wc) ?_
        refine runG ?_
        refine st_cond _ rfl (fun hc => ?_) (fun hc => ?_)
        · refine run ?_
          refine finA ?_
          rw [ofL_cond hD, hc]
          rfl
        · refine run ?_
          refine finA ?_
          rw [ofL_cond hD, hc]
          rfl
end Go.Proofs.YtiaelhhmlbfkmaaGreat
