/- Layer 18 (part): PartAsks walks. -/
import Derived.Test.YtdfkcjjbflcafaaPartQ
namespace Go.Proofs.Ytdfkcjjbflcafaa
open Go.RowKit
set_option linter.unusedVariables false
set_option linter.unusedSimpArgs false
set_option maxRecDepth 20000
attribute [local irreducible] Hy St Ops DH DHF
/-- An act. -/
structure ActD where
  cpu : Int
  kind : Int
  vm : Int
  frame : Int
  mid : Int
  vcpu : Int
  ccpu : Int
  stop : Bool
deriving Inhabited
def actV (x : ActD) : List Value := [.int .i64 x.cpu, .int .i64 x.kind, .int .i64 x.vm, .int .i64 x.frame, .int .i64 x.mid, .int .i64 x.vcpu, .int .i64 x.ccpu, .bool x.stop]
structure ActD.Wf (x : ActD) : Prop where
  cpu : I64 x.cpu
  kind : I64 x.kind
  vm : I64 x.vm
  frame : I64 x.frame
  mid : I64 x.mid
  vcpu : I64 x.vcpu
  ccpu : I64 x.ccpu
/-- A script: a partition, acts. -/
structure ScrG (w : World) (v : Value) (P : PtD) (A : List ActD) : Prop where
  is : ∃ pv gv ov lv, v = .agg #[pv, gv, ov, lv] ∧ PartG w pv gv ov P ∧ SlAt w lv 8 (A.map actV)
  wf : ∀ x ∈ A, x.Wf
theorem here_no (w : World) : ¬ Here [⟨0, #[], 0⟩, ⟨0, #[.bool true], 0⟩] w := fun hw => by
  have h1 := hw _ (List.mem_cons_self ..)
  have h2 := hw _ (List.mem_cons_of_mem _ (List.mem_cons_self ..))
  rw [h1] at h2
  simp at h2
theorem slAt_nil (w : World) (sz : Nat) : SlAt w (.slice none 0 0) sz [] := ⟨⟨none, 0, rfl, fun h => absurd rfl h⟩, by simp⟩
theorem partG_nil (w : World) : PartG w (.slice none 0 0) (.slice none 0 0) (.slice none 0 0) ⟨[], [], []⟩ :=
  ⟨slAt_nil w 2, ⟨fun _ => .slice none 0 0, fun _ => .slice none 0 0, slAt_nil w 5, fun i hi => absurd hi (by simp)⟩, slAt_nil w 2, ⟨fun f hf => absurd hf (by simp), fun i hi => absurd hi (by simp), fun c hc => absurd hc (by simp)⟩⟩
theorem bootR_some (f c : Int) : ∃ v hn, BootR f c v hn := by
  cases h : mayBoot f c
  · exact ⟨_, [], by rw [BootR, h]; rfl⟩
  · refine ⟨.tuple #[.agg #[.bool true, .bool true, .bool true], .int .i64 0], [⟨0, #[], 0⟩, ⟨0, #[.bool true], 0⟩], ?_⟩
    rw [BootR, h]
    refine ⟨_, _, _, rfl, fun w hw => ?_⟩
    have h1 := hw _ (List.mem_cons_self ..)
    have h2 := hw _ (List.mem_cons_of_mem _ (List.mem_cons_self ..))
    rw [h1] at h2
    simp at h2
theorem BootR.cases {f c : Int} {v : Value} {hn : Hp} (h : BootR f c v hn) : (mayBoot f c = true ∧ ∃ pv gv ov, v = .tuple #[.agg #[pv, gv, ov], .int .i64 0] ∧ ∀ w, Here hn w → PartG w pv gv ov (bootL f.toNat c.toNat)) ∨ (mayBoot f c = false ∧ v = .tuple #[.agg #[.slice none 0 0, .slice none 0 0, .slice none 0 0], .int .i64 1]) := by
  unfold BootR at h
  cases hm : mayBoot f c with
  | true => rw [hm] at h; exact .inl ⟨rfl, h⟩
  | false => rw [hm] at h; exact .inr ⟨rfl, h⟩
theorem partAsks_e {w : World} {v : Value} {P : PtD} {A : List ActD} (h : ScrG w v P A) : Fn Try.prog 3 [v].toArray w [] (fun u _ => u = .bool true) := by
  obtain ⟨⟨pv, gv, ov, lv, rfl, hp, hl⟩, hwf⟩ := h
  obtain ⟨p, pc, g, gc, o, oc, rfl, rfl, rfl, hl1, hl2, hl3⟩ := hp.slices
  obtain ⟨a, ac, rfl, hane, hal⟩ := hl.opened
  refine enter Try.func3 ?_
  refine run ?_
  intro B
  refine run ?_
  refine callV (fun wc hG => heavy_e rfl (hp.good hG)) ?_
  rintro _ ⟨hv, rfl, _⟩
  refine run ?_
  refine st_cond _ rfl (fun hc => ?_) (fun hc => ?_)
  · refine run ?_
    exact fin1 rfl
  refine run ?_
  refine callE (fun wc hG => partR_e (hp.good hG)) ?_
  refine run ?_
  refine loopS (σ := Int) (fun who => [(4, .int .i64 who)]) (fun s => [⟨B, #[.slice p P.pages.length pc, .slice g P.guests.length gc, .slice o P.on.length oc, .slice a A.length ac], 29⟩]) (fun who => -2 ≤ who ∧ who ≤ 6) (fun who => (6 - who).toNat) (-2) ⟨by omega, by omega⟩ ?_
  rintro who m hm ⟨hw0, hw1⟩
  refine run ?_
  refine st_cond _ rfl (fun hc1 => ?_) (fun hc1 => ?_)
  · simp only [decide_eq_true_eq] at hc1
    refine run ?_
    refine callE (fun wc hG => of_e (hp.good hG) who) ?_
    refine runG ?_
    refine callEG (fun h1 wc hG => who_e _ wc) ?_
    refine runG ?_
    obtain ⟨I, hI⟩ : ∃ I, I = (P.mayR && PtD.who who) := ⟨_, rfl⟩
    rw [← hI]
    refine st_cutD (σ := Unit) (fun _ => [(10, .int .i64 (bif I then 0 else 1))]) (fun _ => [⟨B, #[.slice p P.pages.length pc, .slice g P.guests.length gc, .slice o P.on.length oc, .slice a A.length ac], 29⟩]) (fun _ => True) ?_ ?_
    · refine st_cond _ rfl (fun hi => ?_) (fun hi => ?_)
      · refine run ?_
        rw [hi]
        exact meetS () trivial
      · refine run ?_
        rw [hi]
        exact meetS () trivial
    rintro _ _
    have hJ : ∀ f, (P.may && PtD.btw who (-1) 4 && PtD.btw f 0 ((P.pages.length : Int) - 1)) = (I && PtD.btw f 0 ((P.pages.length : Int) - 1)) := fun f => by rw [hI, PtD.may_eq]; rfl
    refine run ?_
    refine loopS (σ := Int × Int × Int) (fun s => [(12, .int .i64 s.1), (8, .int .i64 s.2.1), (9, .int .i64 s.2.2)]) (fun _ => [⟨B, #[.slice p P.pages.length pc, .slice g P.guests.length gc, .slice o P.on.length oc, .slice a A.length ac], 29⟩]) (fun s => -1 ≤ s.1 ∧ s.1 ≤ P.pages.length + 1 ∧ s.2.1 = (bif I then (((P.pages.take s.1.toNat).filter fun x => decide (x.own = who)).length : Int) else 0) ∧ s.2.2 = (bif I then (((List.range (min s.1.toNat P.pages.length)).filter (P.uses who)).length : Int) else 0)) (fun s => (P.pages.length + 1 - s.1).toNat) (-1, 0, 0) ⟨by simp, by dsimp only; omega, by cases I <;> simp, by cases I <;> simp⟩ ?_
    rintro ⟨f, ca, cb⟩ m2 hm2 ⟨hf0, hf1, ha, hb⟩
    dsimp only at hm2 hf0 hf1 ha hb ⊢
    refine run ?_
    refine st_cond _ rfl (fun hc2 => ?_) (fun hc2 => ?_)
    · simp only [decide_eq_true_eq] at hc2
      refine run ?_
      refine callE (fun wc hG => uses2_e (hp.good hG) who f) ?_
      rw [hJ]
      cases hJ2 : (I && PtD.btw f 0 ((P.pages.length : Int) - 1))
      · refine runG ?_
        refine callEG (fun h1 wc hG => num_e _ _ wc) ?_
        refine runG ?_
        refine st_cond _ rfl (fun hp => ?_) (fun hp => ?_)
        · rw [PtD.btw] at hJ2
          rw [hJ2] at hp; cases hp
        refine run ?_
        refine callE (fun wc hG => num18_e _ wc) ?_
        refine runG ?_
        refine st_cond _ rfl (fun hp => absurd hp (by simp)) (fun hp => ?_)
        refine run ?_
        refine nextS (f + 1, ca, cb) ⟨by dsimp only; omega, by dsimp only; omega, ?_, ?_⟩
        · dsimp only
          rw [ha]
          cases I
          · rfl
          · simp only [Bool.true_and, PtD.btw, Bool.and_eq_false_iff, decide_eq_false_iff_not] at hJ2
            simp only [cond_true]
            congr 2
            rcases hJ2 with h | h
            · rw [show f.toNat = 0 by omega, show (f + 1).toNat = 0 by omega]
            · rw [List.take_of_length_le (by omega), List.take_of_length_le (by omega)]
        · dsimp only
          rw [hb]
          cases I
          · rfl
          · simp only [Bool.true_and, PtD.btw, Bool.and_eq_false_iff, decide_eq_false_iff_not] at hJ2
            simp only [cond_true]
            rw [show min (f + 1).toNat P.pages.length = min f.toNat P.pages.length by omega]
      · simp only [Bool.and_eq_true] at hJ2
        obtain ⟨rfl, hbt⟩ := hJ2
        have hbt' := hbt
        simp only [PtD.btw, Bool.and_eq_true, decide_eq_true_eq] at hbt'
        obtain ⟨k, rfl⟩ : ∃ k : Nat, f = (k : Int) := ⟨f.toNat, by omega⟩
        have hk : k < P.pages.length := by omega
        have hI' := hI.symm
        simp only [Bool.and_eq_true] at hI'
        have hm' : P.may = true := by rw [PtD.may_eq]; exact hI'.1
        obtain ⟨L, e1, e2, e3, hV⟩ := hp.open (may_len hm')
        cases e1
        cases e2
        cases e3
        have hr := hV.pg0 hk
        refine runG ?_
        refine callEG (fun h1 wc hG => num_e _ _ wc) ?_
        refine runG ?_
        refine st_cond _ rfl (fun hp => ?_) (fun hp => ?_)
        · refine run ?_
          refine callE (fun wc hG => usesR_e (hV.good hG) who k hk _ _) ?_
          refine run ?_
          have hcA : ((P.pages.take (k + 1)).filter fun x => decide (x.own = who)).length = ((P.pages.take k).filter fun x => decide (x.own = who)).length + (bif decide ((P.pg k).own = who) then 1 else 0) := by
            have htk : P.pages.take (k + 1) = P.pages.take k ++ [P.pg k] := by
              rw [List.take_succ_eq_append_getElem hk, PtD.pg, List.getD_eq_getElem?_getD, List.getElem?_eq_getElem hk]; rfl
            rw [htk, List.filter_append, List.length_append]
            congr 1
            cases hq : decide ((P.pg k).own = who) <;> simp [hq]
          have hcB : ((List.range (min (k + 1) P.pages.length)).filter (P.uses who)).length = ((List.range (min k P.pages.length)).filter (P.uses who)).length + (bif P.uses who k then 1 else 0) := by
            rw [Nat.min_eq_left (by omega), Nat.min_eq_left (by omega), List.range_succ, List.filter_append, List.length_append]
            congr 1
            cases hq : P.uses who k <;> simp [hq]
          simp only [Int.toNat_natCast] at ha hb
          have hle : ((P.pages.take k).filter fun x => decide (x.own = who)).length ≤ 281474976710656 := by
            have h1 := List.length_filter_le (fun x : PgD => decide (x.own = who)) (P.pages.take k)
            have h2 := List.length_take_le k P.pages
            omega
          have hle2 : ((List.range (min k P.pages.length)).filter (P.uses who)).length ≤ 281474976710656 := by
            have h1 := List.length_filter_le (P.uses who) (List.range (min k P.pages.length))
            rw [List.length_range] at h1
            omega
          have hca : 0 ≤ ca ∧ ca ≤ 281474976710656 := by rw [ha]; simp only [cond_true]; omega
          have hcb : 0 ≤ cb ∧ cb ≤ 281474976710656 := by rw [hb]; simp only [cond_true]; omega
          refine st_cond _ rfl (fun q1 => ?_) (fun q1 => ?_)
          · refine run ?_
            refine st_cond _ rfl (fun q2 => ?_) (fun q2 => ?_)
            · skip
              refine run ?_
              refine callE (fun wc hG => num18_e _ wc) ?_
              refine runG ?_
              refine st_cond _ rfl (fun hp => absurd hp (by simp)) (fun hp => ?_)
              refine run ?_
              refine nextS ((k : Int) + 1, ca + 1, cb + 1) ⟨by dsimp only; omega, by dsimp only; omega, ?_, ?_⟩
              · simp only [cond_true] at ha ⊢
                rw [ha, show ((k : Int) + 1).toNat = k + 1 by omega, hcA, q1]
                simp
              · simp only [cond_true] at hb ⊢
                rw [hb, show ((k : Int) + 1).toNat = k + 1 by omega, hcB, q2]
                simp
            · skip
              refine run ?_
              refine callE (fun wc hG => num18_e _ wc) ?_
              refine runG ?_
              refine st_cond _ rfl (fun hp => absurd hp (by simp)) (fun hp => ?_)
              refine run ?_
              refine nextS ((k : Int) + 1, ca + 1, cb) ⟨by dsimp only; omega, by dsimp only; omega, ?_, ?_⟩
              · simp only [cond_true] at ha ⊢
                rw [ha, show ((k : Int) + 1).toNat = k + 1 by omega, hcA, q1]
                simp
              · simp only [cond_true] at hb ⊢
                rw [hb, show ((k : Int) + 1).toNat = k + 1 by omega, hcB, q2]
                simp
          · refine run ?_
            refine st_cond _ rfl (fun q2 => ?_) (fun q2 => ?_)
            · skip
              refine run ?_
              refine callE (fun wc hG => num18_e _ wc) ?_
              refine runG ?_
              refine st_cond _ rfl (fun hp => absurd hp (by simp)) (fun hp => ?_)
              refine run ?_
              refine nextS ((k : Int) + 1, ca, cb + 1) ⟨by dsimp only; omega, by dsimp only; omega, ?_, ?_⟩
              · simp only [cond_true] at ha ⊢
                rw [ha, show ((k : Int) + 1).toNat = k + 1 by omega, hcA, q1]
                simp
              · simp only [cond_true] at hb ⊢
                rw [hb, show ((k : Int) + 1).toNat = k + 1 by omega, hcB, q2]
                simp
            · skip
              refine run ?_
              refine callE (fun wc hG => num18_e _ wc) ?_
              refine runG ?_
              refine st_cond _ rfl (fun hp => absurd hp (by simp)) (fun hp => ?_)
              refine run ?_
              refine nextS ((k : Int) + 1, ca, cb) ⟨by dsimp only; omega, by dsimp only; omega, ?_, ?_⟩
              · simp only [cond_true] at ha ⊢
                rw [ha, show ((k : Int) + 1).toNat = k + 1 by omega, hcA, q1]
                simp
              · simp only [cond_true] at hb ⊢
                rw [hb, show ((k : Int) + 1).toNat = k + 1 by omega, hcB, q2]
                simp
        · rw [PtD.btw] at hbt
          rw [hbt] at hp; cases hp
    · simp only [decide_eq_false_iff_not] at hc2
      have hof : ofL P who = (ca, cb, bif I then 0 else 1) := by
        rw [ha, hb, ofL, show (P.may && PtD.btw who (-1) 4) = I by rw [hI, PtD.may_eq]; rfl]
        cases I
        · rfl
        · simp only [cond_true]
          rw [List.take_of_length_le (by omega), Nat.min_eq_right (by omega)]
      refine run ?_
      refine callE (fun wc hG => num18_e _ wc) ?_
      refine runG ?_
      refine st_cond _ rfl (fun hp => ?_) (fun hp => ?_)
      · rw [hof] at hp; simp at hp
      refine run ?_
      exact nextS (who + 1) ⟨by omega, by omega⟩
  · refine run ?_
    refine loopS (σ := Nat) (fun k => [(17, .int .i64 (k : Int))]) (fun s => [⟨B, #[.slice p P.pages.length pc, .slice g P.guests.length gc, .slice o P.on.length oc, .slice a A.length ac], 29⟩]) (fun k => k ≤ A.length) (fun k => A.length - k) 0 (by omega) ?_
    rintro k m2 hm2 hk
    refine runG ?_
    refine st_cond _ rfl (fun hc2 => ?_) (fun hc2 => ?_)
    · simp only [Bool.and_eq_true, decide_eq_true_eq] at hc2
      obtain ⟨b, of, rfl⟩ := hane (by intro e; rw [e] at hc2; simp at hc2; omega)
      have hr := hl.row (k := k) (by omega)
      simp only [actV] at hr
      have hr0 := rangeAt_cell0 hr
      have hr3 := rangeAt_cell (k := 3) hr rfl
      generalize A.getD k default = x at hr hr0 hr3
      refine run ?_
      refine late 18 16 ?_
      refine drawMA 18 [0, 1, 2, 3, 4, 5, 6, 7, 8, 9, 10, 11, 12] [13, 17] [14, 15, 16] ?_
      refine runS ?_
      refine eCall (fun wc hG => boot_e _ _ wc) (bootR_some _ _) ?_
      refine eAlloc ?_
      refine eNil ?_
      rintro _ _ ⟨X, rfl, rfl⟩ v hn hv
      refine dMove ?_
      rcases hv.cases with ⟨hmb, pv, gv, ov, rfl, hpg⟩ | ⟨hmb, rfl⟩
      · skip
        have hmb' := hmb
        simp only [mayBoot, PtD.btw, Bool.and_eq_true, decide_eq_true_eq] at hmb'
        obtain ⟨F, hF⟩ : ∃ k : Nat, x.frame = (k : Int) := ⟨x.frame.toNat, by omega⟩
        obtain ⟨C, hC⟩ : ∃ k : Nat, x.cpu = (k : Int) := ⟨x.cpu.toNat, by omega⟩
        rw [hF] at hr3
        rw [hC] at hr0
        rw [hF, hC] at hmb hpg
        simp only [Int.toNat_natCast] at hpg
        refine dExtract ?_
        refine dExtract ?_
        refine dNil ?_
        refine opsF ?_
        simp only [List.cons_append, List.nil_append, List.append_nil]
        refine ops_perm (_ :: (_ ++ hn)) (.cons _ List.perm_append_comm) ?_
        simp only [List.cons_append, List.nil_append]
        refine opsW fun wn hGn => ?_
        obtain ⟨p', pc', g', gc', o', oc', rfl, rfl, rfl, _⟩ := (hpg wn (hGn.lie fun e he => by simp [he])).slices
        refine run ?_
        intro Y
        refine drawAll ?_
        refine runD ?_
        refine callD (fun wc hG => mayBoot_e _ _ wc) ?_
        refine runD ?_
        refine run ?_
        refine st_cond _ rfl (fun hq => ?_) (fun hq => ?_)
        · refine run ?_
          refine drawM 14 [0, 1, 2, 3, 4, 5, 6, 7, 8, 9, 10, 11, 12] [13] [] ?_
          refine runS ?_
          refine eCall (fun wc hG => bootR_e F C (by omega) (by omega) (by omega) wc) ⟨.agg #[.bool true, .bool true, .bool true], [⟨0, #[], 0⟩, ⟨0, #[.bool true], 0⟩], _, _, _, rfl, fun w hw => absurd hw (here_no w)⟩ ?_
          refine eNil ?_
          rintro _ hn2 ⟨pv2, gv2, ov2, rfl, hpg2⟩
          simp only [DN]
          refine dNil ?_
          refine opsF ?_
          simp only [List.append_nil]
          refine ops_perm (_ ++ hn2) List.perm_append_comm ?_
          simp only [List.cons_append, List.nil_append]
          refine opsW fun wn hGn => ?_
          obtain ⟨p2, pc2, g2, gc2, o2, oc2, rfl, rfl, rfl, _⟩ := (hpg2 wn (hGn.lie fun e he => by simp [he])).slices
          refine run ?_
          refine callE (fun wc hG => num18_e _ wc) ?_
          refine runG ?_
          refine callEG (fun hg wc hG => eqPart_e (hpg wc (hG.lie fun e he => by simp [he])) (hpg2 wc (hG.lie fun e he => by simp [he]))) ?_
          refine runG ?_
          refine st_cond _ rfl (fun hq => absurd hq (by simp)) (fun hq => ?_)
          refine run ?_
          exact nextS (k + 1) (by omega) (h2 := by (repeat (first | exact True.intro | exact HpLe.refl _ | (with_reducible exact HpLe.left _ _) | (with_reducible exact HpLe.right _ _) | (refine Exists.intro _ (And.intro (by first | exact p0 | exact p1 | exact p2 | exact p3 | exact p4 | exact p5) ?_)) | (with_reducible apply HpLe.app) | (with_reducible apply HpLe.skip))))
        · rw [hmb] at hq; cases hq
      · refine dExtract ?_
        refine dExtract ?_
        refine dNil ?_
        refine opsF ?_
        simp only [List.cons_append, List.nil_append]
        refine run ?_
        intro Y
        refine drawAll ?_
        refine runD ?_
        refine callD (fun wc hG => mayBoot_e _ _ wc) ?_
        refine runD ?_
        refine run ?_
        refine st_cond _ rfl (fun hq => ?_) (fun hq => ?_)
        · rw [hmb] at hq; cases hq
        refine run ?_
        refine callE (fun wc hG => num18_e _ wc) ?_
        refine runG ?_
        refine callEG (fun hg wc hG => eqPart_e (partG_nil wc) (partG_nil wc)) ?_
        refine runG ?_
        refine st_cond _ rfl (fun hq => absurd hq (by simp)) (fun hq => ?_)
        refine run ?_
        exact nextS (k + 1) (by omega) (h2 := by (repeat (first | exact True.intro | exact HpLe.refl _ | (with_reducible exact HpLe.left _ _) | (with_reducible exact HpLe.right _ _) | (refine Exists.intro _ (And.intro (by first | exact p0 | exact p1 | exact p2 | exact p3 | exact p4 | exact p5) ?_)) | (with_reducible apply HpLe.app) | (with_reducible apply HpLe.skip))))
    · refine run ?_
      refine callE (fun wc hG => wakes_e wc) ?_
      refine run ?_
      exact fin1 rfl
end Go.Proofs.Ytdfkcjjbflcafaa
