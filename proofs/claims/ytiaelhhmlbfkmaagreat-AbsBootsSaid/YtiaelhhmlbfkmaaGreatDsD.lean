/- Layer 3 (desc): a descriptor's word, the descriptor of a word: the program's. -/
import Derived.Test.YtiaelhhmlbfkmaaGreatPgA
namespace Go.Proofs.YtiaelhhmlbfkmaaGreat
open Go.RowKit
set_option linter.unusedVariables false
set_option linter.unusedSimpArgs false
set_option maxRecDepth 20000
attribute [local irreducible] Hy St Ops DH DHF
abbrev dpV (stage : Int) (level : Nat) (d : DsD) : Value := .agg #[.int .i64 stage, .int .i64 (level : Int), .int .i64 d.kind, .int .i64 d.frame, .bool d.r, .bool d.w, .bool d.x, .bool d.af, .bool d.ng, .int .i64 d.soft, .int .i64 d.note]
abbrev dpA (stage : Int) (level : Nat) (d : DsD) : Array Value := #[.int .i64 stage, .int .i64 (level : Int), .int .i64 d.kind, .int .i64 d.frame, .bool d.r, .bool d.w, .bool d.x, .bool d.af, .bool d.ng, .int .i64 d.soft, .int .i64 d.note]
def fdC (xs : List FdD) : List Value := (xs.map fdV).flatten
theorem fdC_all (xs : List FdD) : ∀ c ∈ xs.map fdV, c.length = 3 ∧ c.all (·.oneCell') = true := by
  intro c hc
  obtain ⟨x, _, rfl⟩ := List.mem_map.1 hc
  exact ⟨rfl, rfl⟩
theorem own_fds (T n : Nat) (xs : List FdD) (hn : xs.length = n := by rfl) (hm : n ≤ 1000 := by decide) : Own 330 3 (.slice (some ⟨T, 0, none⟩) n n) [⟨T, (fdC xs).toArray, 330⟩] (xs.map fdV) := by
  subst hn
  refine ⟨fdC_all xs, .inr ⟨T, xs.length, _, by rw [List.length_map], rfl, ?_⟩⟩
  have hl := flatten_len (xs.map fdV) (fun c hc => (fdC_all xs c hc).1)
  refine ⟨hl, by simp, Nat.le_trans hm (by decide), by simpa [fdC] using hl, ?_⟩
  rw [List.take_of_length_le (by simp [fdC, hl])]; rfl
theorem own_row {e t : Nat} (T cap : Nat) (cs : List Value) {xs : List (List Value)} {sz n : Nat} (h : xs.flatten = cs) (ht : e = t) (hall : ∀ c ∈ xs, c.length = sz ∧ c.all (·.oneCell') = true) (hn : xs.length = n := by rfl) (hc : xs.length = cap := by rfl) (hcap : cap ≤ maxLen := by decide) : Own e sz (.slice (some ⟨T, 0, none⟩) n cap) [⟨T, cs.toArray, t⟩] xs := by
  subst ht hn hc h
  refine ⟨hall, .inr ⟨T, _, _, rfl, rfl, ?_⟩⟩
  have hl := flatten_len xs (fun c hc => (hall c hc).1)
  exact ⟨hl, Nat.le_refl _, hcap, by simp [hl], by rw [List.take_of_length_le (by simp [hl])]⟩
theorem DsD.fields_len (stage : Int) (level : Nat) (d : DsD) : (d.fields stage level).length ≤ 8 := by
  unfold DsD.fields
  cases decide (d.kind = 0) <;> cases decide (d.kind = 1) <;> cases decide (stage = 1) <;> simp
theorem may_soft {stage : Int} {level : Nat} {d : DsD} (hm : d.may stage level = true) (hk : d.kind = 2) (h1 : decide (stage = 1) = false) : 0 ≤ d.soft ∧ d.soft ≤ 15 := by
  simp only [DsD.may, hk, h1, decide_true, cond_true, Bool.and_eq_true, decide_eq_true_eq, show decide ((2 : Int) = 0) = false from rfl, show decide ((2 : Int) = 1) = false from rfl, cond_false, PtD.btw] at hm
  exact hm.1.1.1.2.2
theorem dFields_e (stage : Int) (hs : stage = 1 ∨ stage = 2) (level : Nat) (hl : level < 4) (d : DsD) (hm : d.may stage level = true) (w : World) : Fn Tryz.prog 163 [dpV stage level d].toArray w [] (fun u hn => ∃ h1, Own 330 3 u h1 ((d.fields stage level).map fdV) ∧ HpLe h1 hn) := by
  have hlv : decide ((level : Int) = 3) = decide (level = 3) := by rw [Bool.eq_iff_iff, decide_eq_true_eq, decide_eq_true_eq]; omega
  obtain ⟨k1, k2, k3, k4⟩ := may_kinds hm
  have hf : 0 ≤ d.frame ∧ d.frame ≤ 4095 := by
    rcases k1 with e | e | e
    · have := k2 e; omega
    · have := k3 e; omega
    · have := k4 e; omega
  have hf0 := hf.1
  have hf1 := hf.2
  have hfz : ((d.frame.toNat : Nat) : Int) = d.frame := by omega
  refine enter Tryz.func163 ?_
  refine run ?_
  intro B
  refine run ?_
  refine st_cond _ rfl (fun hk => ?_) (fun hk => ?_)
  · have hk0 : d.kind = 0 := by simpa using hk
    have hn0 := (k2 hk0).2.1
    have hn1 := (k2 hk0).2.2
    have hnz : ((d.note.toNat : Nat) : Int) = d.note := by omega
    refine run ?_
    intro T
    refine fin1 ?_
    have e : d.fields stage level = [⟨4, 4, d.note.toNat⟩] := by simp [DsD.fields, hk0]
    rw [e]
    refine ⟨_, own_row T 1 [.int .i64 4, .int .i64 4, .int .u64 d.note] (by simp [fdV, hnz]) rfl (by simp [fdV, Value.oneCell']), ?_⟩
    (exact clcntL)
  · have hk0 : decide (d.kind = 0) = false := by simpa using hk
    refine run ?_
    refine drawM 15 [0, 1, 2, 3, 4, 5, 6, 7, 8, 9, 10, 11, 12, 13] [14] [] ?_
    refine de1_s rfl (fun hx2 => x_call (calOk 251 rfl) rfl (fun wc hG => dBit_e 0 true wc)) ?_
    refine runS ?_
    refine de1g (hy := fun hx2 hg => x_move rfl) (h := ?_)
    refine runS ?_
    refine de1_s rfl (fun hx2 => x_call (calOk 251 rfl) rfl (fun wc hG => dBit_e 1 _ wc)) ?_
    refine runS ?_
    refine eBS (fdC [⟨0, 1, 1⟩, ⟨1, 1, b1 (decide (d.kind = 1) || decide (level = 3))⟩, ⟨12, 12, d.frame.toNat⟩]) (h := ?_) (hn := ?_)
    · refine eNil ?_
      simp only [DN]
      rintro _ hn ⟨T, rfl, rfl⟩
      refine dNil ?_
      refine opsF ?_
      simp only [List.cons_append, List.nil_append, List.append_nil]
      refine run ?_
      refine st_cond _ rfl (fun hk1 => ?_) (fun hk1 => ?_)
      · have hk1' : decide (d.kind = 1) = true := hk1
        refine run ?_
        refine fin1 ?_
        have e : d.fields stage level = [⟨0, 1, 1⟩, ⟨1, 1, 1⟩, ⟨12, 12, d.frame.toNat⟩] := by simp only [DsD.fields, hk0, hk1', cond_false, cond_true]
        rw [e]
        simp only [hk1', Bool.true_or, show b1 true = 1 from rfl]
        refine ⟨_, own_fds T 3 _, ?_⟩
        (exact clcntL)
      · have hk1' : decide (d.kind = 1) = false := by simpa using hk1
        have hk2 : d.kind = 2 := by
          simp at hk0 hk1'
          rcases k1 with e | e | e
          · exact absurd e hk0
          · exact absurd e hk1'
          · exact e
        simp only [hk1', Bool.false_or]
        refine run ?_
        refine drawM 13 [0, 1, 2, 3, 4, 5, 6, 7, 8, 9, 10, 11] [12] [] ?_
        refine runS ?_
        refine de1_s rfl (fun hx2 => x_call (calOk 251 rfl) rfl (fun wc hG => dBit_e 10 _ wc)) ?_
        refine runS ?_
        refine de1_s rfl (fun hx2 => x_call (calOk 251 rfl) rfl (fun wc hG => dBit_e 54 _ wc)) ?_
        refine runS ?_
        refine eBS (fdC [⟨10, 1, b1 d.af⟩, ⟨54, 1, b1 (!d.x)⟩]) (h := ?_) (hn := by cases d.af <;> cases d.x <;> rfl)
        refine eNil ?_
        simp only [DN]
        rintro _ hn ⟨T2, rfl, rfl⟩
        refine dNil ?_
        refine opsF ?_
        simp only [List.cons_append, List.nil_append, List.append_nil]
        refine appendM (m := 2) ([⟨10, 1, b1 d.af⟩, ⟨54, 1, b1 (!d.x)⟩].map fdV) [⟨T2, (fdC [⟨10, 1, b1 d.af⟩, ⟨54, 1, b1 (!d.x)⟩]).toArray, 330⟩, ⟨B, #[.int .i64 stage, .int .i64 (level : Int), .int .i64 d.kind, .int .i64 d.frame, .bool d.r, .bool d.w, .bool d.x, .bool d.af, .bool d.ng, .int .i64 d.soft, .int .i64 d.note], 257⟩] (own_fds T 3 [⟨0, 1, 1⟩, ⟨1, 1, b1 (decide (level = 3))⟩, ⟨12, 12, d.frame.toNat⟩]) (by simp) (fun v' ha' hA' => ?_) (by simp) rfl (fdC_all _) (news_own (m := 6) mh rfl) (hperm := by (exact clcntP))
        refine ops_le (⟨B, #[.int .i64 stage, .int .i64 (level : Int), .int .i64 d.kind, .int .i64 d.frame, .bool d.r, .bool d.w, .bool d.x, .bool d.af, .bool d.ng, .int .i64 d.soft, .int .i64 d.note], 257⟩ :: ha') clcntL ?_
        obtain ⟨q, cap, rfl⟩ := hA'.opened
        refine run ?_
        refine st_cond _ rfl (fun h1 => ?_) (fun h1 => ?_)
        · have h1' : decide (stage = 1) = true := h1
          refine run ?_
          refine drawM 13 [0, 1, 2, 3, 4, 5, 6, 7, 8, 9, 10, 11] [12] [] ?_
          refine runS ?_
          refine de1_s rfl (fun hx2 => x_call (calOk 251 rfl) rfl (fun wc hG => dBit_e 7 _ wc)) ?_
          refine runS ?_
          refine de1_s rfl (fun hx2 => x_call (calOk 251 rfl) rfl (fun wc hG => dBit_e 11 _ wc)) ?_
          refine runS ?_
          refine eBS (fdC [⟨7, 1, b1 (!d.w)⟩, ⟨11, 1, b1 d.ng⟩]) (h := ?_) (hn := by cases d.w <;> cases d.ng <;> rfl)
          refine eNil ?_
          simp only [DN]
          rintro _ hn ⟨T3, rfl, rfl⟩
          refine dNil ?_
          refine opsF ?_
          simp only [List.cons_append, List.nil_append, List.append_nil]
          refine appendM (m := 2) ([⟨7, 1, b1 (!d.w)⟩, ⟨11, 1, b1 d.ng⟩].map fdV) [⟨T3, (fdC [⟨7, 1, b1 (!d.w)⟩, ⟨11, 1, b1 d.ng⟩]).toArray, 330⟩, ⟨B, #[.int .i64 stage, .int .i64 (level : Int), .int .i64 d.kind, .int .i64 d.frame, .bool d.r, .bool d.w, .bool d.x, .bool d.af, .bool d.ng, .int .i64 d.soft, .int .i64 d.note], 257⟩] hA' (by simp) (fun v2 ha2 hA2 => ?_) (by simp) rfl (fdC_all _) (news_own (m := 6) mh rfl) (hperm := by (exact clcntP))
          refine run ?_
          refine fin1 ?_
          have e : d.fields stage level = [⟨0, 1, 1⟩, ⟨1, 1, b1 (decide (level = 3))⟩, ⟨12, 12, d.frame.toNat⟩, ⟨10, 1, b1 d.af⟩, ⟨54, 1, b1 (!d.x)⟩, ⟨7, 1, b1 (!d.w)⟩, ⟨11, 1, b1 d.ng⟩] := by simp only [DsD.fields, hk0, hk1', h1', cond_false, cond_true]
          rw [e]
          exact ⟨ha2, hA2, by (exact clcntL)⟩
        · have h1' : decide (stage = 1) = false := by simpa using h1
          have hso := may_soft hm hk2 h1'
          have hs0 := hso.1
          have hs1 := hso.2
          have hsz : ((d.soft.toNat : Nat) : Int) = d.soft := by omega
          refine run ?_
          refine drawM 18 [0, 1, 2, 3, 4, 5, 6, 7, 8, 9, 10, 11, 12, 13, 14, 15, 16] [17] [] ?_
          refine runS ?_
          refine de1_s rfl (fun hx2 => x_call (calOk 251 rfl) rfl (fun wc hG => dBit_e 6 _ wc)) ?_
          refine runS ?_
          refine de1_s rfl (fun hx2 => x_call (calOk 251 rfl) rfl (fun wc hG => dBit_e 7 _ wc)) ?_
          refine runS ?_
          refine eBS (fdC [⟨6, 1, b1 d.r⟩, ⟨7, 1, b1 d.w⟩, ⟨55, 4, d.soft.toNat⟩]) (h := ?_) (hn := by rw [← hsz]; cases d.r <;> cases d.w <;> rfl)
          refine eNil ?_
          simp only [DN]
          rintro _ hn ⟨T3, rfl, rfl⟩
          refine dNil ?_
          refine opsF ?_
          simp only [List.cons_append, List.nil_append, List.append_nil]
          refine appendM (m := 3) ([⟨6, 1, b1 d.r⟩, ⟨7, 1, b1 d.w⟩, ⟨55, 4, d.soft.toNat⟩].map fdV) [⟨T3, (fdC [⟨6, 1, b1 d.r⟩, ⟨7, 1, b1 d.w⟩, ⟨55, 4, d.soft.toNat⟩]).toArray, 330⟩, ⟨B, #[.int .i64 stage, .int .i64 (level : Int), .int .i64 d.kind, .int .i64 d.frame, .bool d.r, .bool d.w, .bool d.x, .bool d.af, .bool d.ng, .int .i64 d.soft, .int .i64 d.note], 257⟩] hA' (by simp) (fun v2 ha2 hA2 => ?_) (by simp) rfl (fdC_all _) (news_own (m := 9) mh rfl) (hperm := by (exact clcntP))
          refine run ?_
          refine fin1 ?_
          have e : d.fields stage level = [⟨0, 1, 1⟩, ⟨1, 1, b1 (decide (level = 3))⟩, ⟨12, 12, d.frame.toNat⟩, ⟨10, 1, b1 d.af⟩, ⟨54, 1, b1 (!d.x)⟩, ⟨6, 1, b1 d.r⟩, ⟨7, 1, b1 d.w⟩, ⟨55, 4, d.soft.toNat⟩] := by simp only [DsD.fields, hk0, hk1', h1', cond_false, cond_true]
          rw [e]
          exact ⟨ha2, hA2, by (exact clcntL)⟩
    · rw [hlv, ← hfz]
      cases decide (d.kind = 1) <;> cases decide (level = 3) <;> rfl
theorem dCheck_e (stage : Int) (hs : stage = 1 ∨ stage = 2) (level : Nat) (hl : level < 4) (d : DsD) (w : World) : Fn Tryz.prog 161 [.int .i64 stage, .int .i64 (level : Int), dsV d].toArray w [] (fun u _ => u = .int .i64 (bif d.may stage level then 0 else 1)) := by
  refine enter Tryz.func161 ?_
  refine run ?_
  intro B C
  refine runG ?_
  refine callE (fun wc hG => dThereT_e stage hs level hl wc) ?_
  refine runG ?_
  refine callEG (fun hg wc hG => dMay_e stage hs level hl d wc) ?_
  refine runG ?_
  refine st_cond _ rfl (fun hc => ?_) (fun hc => ?_)
  · refine run ?_
    refine fin1 ?_
    have : d.may stage level = false := by simpa using hc
    rw [this]; rfl
  · refine run ?_
    refine fin1 ?_
    have : d.may stage level = true := by simpa using hc
    rw [this]; rfl
theorem dWord_e (stage : Int) (hs : stage = 1 ∨ stage = 2) (level : Nat) (hl : level < 4) (d : DsD) (w : World) : Fn Tryz.prog 76 [.int .i64 stage, .int .i64 (level : Int), dsV d].toArray w [] (fun u _ => u = .tuple #[.int .u64 (bif d.may stage level then (d.word stage level : Int) else 0), .int .i64 (bif d.may stage level then 0 else 1)]) := by
  refine enter Tryz.func76 ?_
  refine run ?_
  intro B
  refine callE (fun wc hG => dCheck_e stage hs level hl d wc) ?_
  cases hm : d.may stage level with
  | false =>
    simp only [cond_false]
    refine runC ?_
    exact fin2 rfl
  | true =>
    simp only [cond_true]
    refine runC ?_
    refine callB (fun wc hG => dFields_e stage hs level hl d hm wc) ?_
    rintro v hn ⟨h1, hO, hle⟩
    refine ops_le h1 (cnt1 hle) ?_
    refine callE (fun wc hG => wJoin_e _ (DsD.fields_ok hm) (hO.lie hG.here (by rw [List.length_map]; exact Nat.le_trans (DsD.fields_len stage level d) (by decide)))) ?_
    rw [DsD.joinE_fields]
    refine run ?_
    exact fin2 rfl
theorem dOnI (ai : Int) (v a : Nat) (hai : ai = (a : Int)) (ha : a ≤ 63) (hv : v < 18446744073709551616) (B : Nat) (w : World) (hB : w.cell? ⟨B, 0, none⟩ = some (.int .u64 (v : Int))) : Fn Tryz.prog 319 [.int .i64 ai, .pointer (some ⟨B, 0, none⟩)].toArray w [] (fun u _ => u = .bool (decide (getN v a 1 = 1))) := by
  subst hai
  exact dOn_e v a ha hv B w hB
theorem Good.cell1 {w0 w : World} {mu : List Nat} {hp : Hp} (hG : Good w0 mu hp w) {b t : Nat} {v : Value} (h : (⟨b, #[v], t⟩ : Blk) ∈ hp) : w.cell? ⟨b, 0, none⟩ = some v := by
  rw [cell_of_block (hG.here _ h)]; rfl
theorem dGuess_e (stage : Int) (hs : stage = 1 ∨ stage = 2) (level : Nat) (hl : level < 4) (v : Nat) (hv : v < 18446744073709551616) (w : World) : Fn Tryz.prog 253 [.agg #[.int .i64 stage, .int .i64 (level : Int)], .int .u64 (v : Int)].toArray w [] (fun u _ => u = dsV (guessL stage level v)) := by
  have hlv : decide ((level : Int) = 3) = decide (level = 3) := by rw [Bool.eq_iff_iff, decide_eq_true_eq, decide_eq_true_eq]; omega
  refine enter Tryz.func253 ?_
  refine run ?_
  intro B C D
  refine callF (fs := []) (vs := [.int .i64 0]) (us := [.pointer (some ⟨C, 0, none⟩)]) (fun wc hG => dOnI 0 v 0 rfl (by decide) hv C wc (hG.cell1 (t := 47) (by simp))) ?_
  refine run ?_
  refine st_cond _ rfl (fun h0 => ?_) (fun h0 => ?_)
  · have h0' : (!decide (getN v 0 1 = 1)) = true := h0
    refine run ?_
    refine callE (fun wc hG => dPart_e v 4 4 (by decide) (by decide) (by decide) hv wc) ?_
    refine run ?_
    refine finA ?_
    rw [guessL, h0', cond_true]
    rfl
  · have h0' : (!decide (getN v 0 1 = 1)) = false := by simpa using h0
    refine run ?_
    refine callF (fs := []) (vs := [.int .i64 1]) (us := [.pointer (some ⟨C, 0, none⟩)]) (fun wc hG => dOnI 1 v 1 rfl (by decide) hv C wc (hG.cell1 (t := 47) (by simp))) ?_
    refine runG ?_
    refine st_cond _ rfl (fun h1 => ?_) (fun h1 => ?_)
    · rw [hlv] at h1
      refine run ?_
      refine callE (fun wc hG => dPart_e v 12 12 (by decide) (by decide) (by decide) hv wc) ?_
      refine run ?_
      refine finA ?_
      rw [guessL, h0', cond_false, h1]
      rfl
    · have h1' : (decide (getN v 1 1 = 1) && !decide ((level : Int) = 3)) = false := by simpa using h1
      rw [hlv] at h1'
      refine run ?_
      refine callE (fun wc hG => dPart_e v 12 12 (by decide) (by decide) (by decide) hv wc) ?_
      refine run ?_
      refine callF (fs := []) (vs := [.int .i64 10]) (us := [.pointer (some ⟨C, 0, none⟩)]) (fun wc hG => dOnI 10 v 10 rfl (by decide) hv C wc (hG.cell1 (t := 47) (by simp))) ?_
      refine run ?_
      refine callF (fs := []) (vs := [.int .i64 54]) (us := [.pointer (some ⟨C, 0, none⟩)]) (fun wc hG => dOnI 54 v 54 rfl (by decide) hv C wc (hG.cell1 (t := 47) (by simp))) ?_
      refine run ?_
      intro E
      refine run ?_
      refine st_cond _ rfl (fun hst => ?_) (fun hst => ?_)
      · have hst' : decide (stage = 1) = true := hst
        refine run ?_
        refine callF (fs := []) (vs := [.int .i64 7]) (us := [.pointer (some ⟨C, 0, none⟩)]) (fun wc hG => dOnI 7 v 7 rfl (by decide) hv C wc (hG.cell1 (t := 47) (by simp))) ?_
        refine run ?_
        refine callF (fs := []) (vs := [.int .i64 11]) (us := [.pointer (some ⟨C, 0, none⟩)]) (fun wc hG => dOnI 11 v 11 rfl (by decide) hv C wc (hG.cell1 (t := 47) (by simp))) ?_
        refine run ?_
        refine finA ?_
        rw [guessL, h0', cond_false, h1', cond_false, hst', cond_true]
        rfl
      · have hst' : decide (stage = 1) = false := by simpa using hst
        refine run ?_
        refine drawW 8 [⟨D, #[.int .i64 0, .int .i64 0, .bool false, .bool false, .bool false, .bool false, .bool false, .int .i64 0, .int .i64 0], 124⟩, ⟨C, #[.int .u64 (v : Int)], 47⟩, ⟨B, #[.int .i64 stage, .int .i64 (level : Int)], 255⟩] ?_
        refine runW ?_
        refine dwf_a (by rfl) (by decide +kernel) (x_callF (fs := []) (vs := [.int .i64 6]) (us := [.pointer (some ⟨C, 0, none⟩)]) (calOk 319 rfl) rfl rfl (fun wc hG => dOnI 6 v 6 rfl (by decide) hv C wc (hG.cell1 (t := 47) (by simp)))) ?_
        refine runW ?_
        refine dwf_b (by rfl) (by decide +kernel) (fun hx => x_callF (fs := []) (vs := [.int .i64 7]) (us := [.pointer (some ⟨C, 0, none⟩)]) (calOk 319 rfl) rfl rfl (fun wc hG => dOnI 7 v 7 rfl (by decide) hv C wc (hG.cell1 (t := 47) (by simp)))) ?_
        refine runW ?_
        refine callWA (fun wc hG => dPart_e v 55 4 (by decide) (by decide) (by decide) hv wc) ?_
        refine runW ?_
        refine run ?_
        refine finA ?_
        rw [guessL, h0', cond_false, h1', cond_false, hst', cond_false]
        rfl
theorem dOf_e (stage : Int) (hs : stage = 1 ∨ stage = 2) (level : Nat) (hl : level < 4) (v : Nat) (hv : v < 18446744073709551616) (w : World) : Fn Tryz.prog 168 [.int .i64 stage, .int .i64 (level : Int), .int .u64 (v : Int)].toArray w [] (fun u _ => u = .tuple #[dsV (ofL stage level v), .int .i64 0]) := by
  refine enter Tryz.func168 ?_
  refine run ?_
  intro B C
  refine callE (fun wc hG => dThereT_e stage hs level hl wc) ?_
  refine runC ?_
  refine callE (fun wc hG => dGuess_e stage hs level hl v hv wc) ?_
  refine run ?_
  intro D
  refine run ?_
  refine callE (fun wc hG => dWord_e stage hs level hl _ wc) ?_
  refine runG ?_
  have hm2 : ∀ b : Bool, decide ((bif b then (0 : Int) else 1) = 0) = b := by decide
  refine st_cond _ rfl (fun hc => ?_) (fun hc => ?_)
  · refine run ?_
    refine finA1 ?_
    have : ofL stage level v = noDs := by
      unfold ofL
      rw [hm2] at hc
      cases hm : (guessL stage level v).may stage level
      · rfl
      · rw [hm] at hc
        have hne : ¬ (guessL stage level v).word stage level = v := by simpa [Int.ofNat_inj] using hc
        simp [hne]
    rw [this]
    rfl
  · refine run ?_
    refine finA1 ?_
    have : ofL stage level v = guessL stage level v := by
      unfold ofL
      rw [hm2] at hc
      cases hm : (guessL stage level v).may stage level
      · rw [hm] at hc; simp at hc
      · rw [hm] at hc
        have he : (guessL stage level v).word stage level = v := by simpa [Int.ofNat_inj] using hc
        simp [he]
    rw [this]
end Go.Proofs.YtiaelhhmlbfkmaaGreat
