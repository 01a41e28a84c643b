/- Layer 21 (abs): AbsBoots. -/
import Derived.Test.YtiaelhhmlbfkmaaGreatAbH
import Derived.Test.YtiaelhhmlbfkmaaGreatEngAr
import Derived.Test.YtiaelhhmlbfkmaaGreatOpY
namespace Go.Proofs.YtiaelhhmlbfkmaaGreat
open Go.RowKit
set_option linter.unusedVariables false
set_option linter.unusedSimpArgs false
set_option maxRecDepth 20000
attribute [local irreducible] Hy St Ops DH DHF DE1 DE2 DE3 DS DCh DWF
/-- A change as it is asked for. -/
structure Sp21 where
  wd : Int
  cp : Int
  vm : Int
  nn : Int
  v : Nat
  e : EnD
instance : Inhabited Sp21 := ⟨⟨0, 0, 0, 0, 0, default⟩⟩
def sp21V (s : Sp21) : List Value := [.int .i64 s.wd, .int .i64 s.cp, .int .i64 s.vm, .int .i64 s.nn, .int .u64 (s.v : Int), .int .i64 s.e.kind, .int .i64 s.e.vmid, .int .i64 s.e.asid, .bool s.e.all, .int .i64 s.e.page, .int .i64 s.e.level, .int .i64 s.e.frame, .int .i64 s.e.mid, .bool s.e.r, .bool s.e.w, .bool s.e.x, .bool s.e.af, .bool s.e.ng, .int .i64 s.e.soft]
theorem lawAbsBoots_e {w : World} {lv : Value} {L : List Sp21} (h : SlAt w lv 19 (L.map sp21V)) (p1 p2 p3 p4 : Option Addr) (n1 n2 n3 n4 c1 c2 c3 c4 : Nat) : Fn Tryz.prog 3 [.agg #[.slice p1 n1 c1, .slice p2 n2 c2, .slice p3 n3 c3, .slice p4 n4 c4, lv]].toArray w [] (fun u _ => u = .bool true) := by
  obtain ⟨q, cap, rfl, hne, _⟩ := h.opened
  refine enter Tryz.func3 ?_
  refine run ?_
  intro A
  refine loopS (σ := Nat) (fun k => [(3, .int .i64 (k : Int))]) (fun _ => [⟨A, #[.slice p1 n1 c1, .slice p2 n2 c2, .slice p3 n3 c3, .slice p4 n4 c4, .slice q L.length cap], 32⟩]) (fun k => 1 ≤ k ∧ k ≤ 4) (fun k => 4 - k) 1 ⟨Nat.le_refl _, by decide⟩ ?_
  rintro C m hm ⟨hC1, hC4⟩
  refine run ?_
  refine st_cond _ rfl (fun hc => ?_) (fun hc => ?_)
  · have hC3 : C ≤ 3 := by simp at hc; omega
    obtain ⟨hm1, hF1⟩ := boot_m (F := 24 + 8 * C) (by omega) (by omega)
    have hB := bootM_ok (bootT_all hC1 hC3)
    refine run ?_
    rw [show (24 + 8 * (C : Int)) = ((24 + 8 * C : Nat) : Int) by omega]
    refine callB (fun wc hG => rBoot_e (24 + 8 * C) C (by omega) (by omega) hC1 hC3 wc) ?_
    rintro _ hn ⟨a1, d1, a2, d2, a3, d3, a4, d4, rfl, hH⟩
    replace hH : ∀ w, Here hn w → HyAt w (.slice a1 ((24 + 8 * C) * 8) d1) (.slice a2 C d2) (.slice a3 4 d3) (.slice a4 C d4) (bootM (24 + 8 * C)) (List.replicate C cpu0) (List.replicate 4 vm0) (List.replicate C noRg) := hH
    refine run ?_
    intro Hb
    refine run ?_
    refine callB (fun wc hG => absPart_e (ws := bootM (24 + 8 * C)) (hH wc (hG.lie (fun e he => by simp [he]))) hF1 hm1 hC1 hC3) ?_
    rintro _ hnp ⟨b1, b2, b3, e1, e2, e3, l1, l2, l3, rfl, hP⟩
    rw [hB.1] at hP
    refine run ?_
    intro Pb
    refine drawC 10 18 [0, 1, 2, 3, 4, 5, 6, 7, 8] [9] (⟨Pb, #[.slice b1 l1 e1, .slice b2 l2 e2, .slice b3 l3 e3], 38⟩ :: (hnp ++ ⟨Hb, #[.slice a1 ((24 + 8 * C) * 8) d1, .slice a2 C d2, .slice a3 4 d3, .slice a4 C d4], 29⟩ :: (hn ++ [⟨A, #[.slice p1 n1 c1, .slice p2 n2 c2, .slice p3 n3 c3, .slice p4 n4 c4, .slice q L.length cap], 32⟩]))) ?_
    refine runZ ?_
    refine sCallB (fun wc hx hG => num21_e 0 wc) ?_
    refine runZG ?_
    rw [show (24 + 8 * (C : Int)) = ((24 + 8 * C : Nat) : Int) by omega]
    refine cCallT (fun wc hG => bootR_e (24 + 8 * C) C (by omega) (by omega) hC3 wc) rfl ?_
    rintro _ hnq ⟨pv, gv, ov, rfl, hQ⟩
    refine dc_nil ?_
    refine opsC ?_
    refine runG ?_
    refine callEG (fun hg wc hG => eqPart_e (hP wc (hG.lie (fun e he => by simp [he]))) (hQ wc (hG.lie (fun e he => by simp [he])))) ?_
    refine runG ?_
    have hCk : ∀ {wc : World}, HyAt wc (.slice a1 ((24 + 8 * C) * 8) d1) (.slice a2 C d2) (.slice a3 4 d3) (.slice a4 C d4) (bootM (24 + 8 * C)) (List.replicate C cpu0) (List.replicate 4 vm0) (List.replicate C noRg) → Fn Tryz.prog 20 [.agg #[.slice a1 ((24 + 8 * C) * 8) d1, .slice a2 C d2, .slice a3 4 d3, .slice a4 C d4]].toArray wc [] (fun u _ => u = .int .i64 0) := fun h5 => by
      have := absCheck_e h5 hF1 hm1 hC1 hC3
      rw [hB.1, hB.2.1, hB.2.2] at this
      exact this
    refine callEG (fun hg wc hG => hCk (hH wc (hG.lie (fun e he => by simp [he])))) ?_
    refine runG ?_
    refine callEG (fun hg wc hG => num21_e 0 wc) ?_
    refine runG ?_
    refine st_cond _ rfl (fun hd => absurd hd (by decide)) (fun hd => ?_)
    refine run ?_
    clear hd
    refine loopS (σ := Nat) (fun k => [(7, .int .i64 (k : Int))]) (fun _ => ⟨Pb, #[.slice b1 l1 e1, .slice b2 l2 e2, .slice b3 l3 e3], 38⟩ :: ⟨Hb, #[.slice a1 ((24 + 8 * C) * 8) d1, .slice a2 C d2, .slice a3 4 d3, .slice a4 C d4], 29⟩ :: ⟨A, #[.slice p1 n1 c1, .slice p2 n2 c2, .slice p3 n3 c3, .slice p4 n4 c4, .slice q L.length cap], 32⟩ :: (hn ++ hnp)) (fun k => k ≤ L.length) (fun k => L.length - k) 0 (Nat.zero_le _) ?_ (hh := by (exact clcntL))
    rintro k m2 hm2 hk
    refine runG ?_
    refine st_cond _ rfl (fun hc2 => ?_) (fun hc2 => ?_)
    rotate_left
    · refine run ?_
      refine nextS (C + 1) ⟨by omega, by omega⟩ (h2 := by (exact clcntL))
    have hlt : k < L.length := by simp at hc2; omega
    obtain ⟨bq, oq, rfl⟩ := hne (by intro e; rw [e] at hlt; simp at hlt)
    have hr := h.row hlt
    generalize L.getD k default = s at hr
    unfold sp21V at hr
    have hr0 := rangeAt_cell (k := 0) hr rfl
    have hr3 := rangeAt_cell (k := 3) hr rfl
    refine run ?_
    refine callE (fun wc hG => within_e wc s.wd 88 (by decide) (by decide)) ?_
    have hp88 := wthn_lt s.wd (show 0 < 88 by decide)
    generalize wthn s.wd 88 = p at hp88
    refine run ?_
    refine callB (fun wc hG => cHyp_e (hH wc (hG.lie (fun e he => by simp [he]))) (by rw [bootM_len]; omega) hC3) ?_
    rintro _ hny ⟨v1, h1, v2, h2, v3, h3, v4, h4, rfl, hO, hA2, hA3, hA4, hle⟩
    obtain ⟨q1, k1, x1⟩ := hO.opened
    obtain ⟨q2, k2, x2⟩ := hA2.own.opened
    obtain ⟨q3, k3, x3⟩ := hA3.own.opened
    obtain ⟨q4, k4, x4⟩ := hA4.own.opened
    rw [List.length_map] at x1
    rw [List.length_map, List.length_replicate] at x2 x3 x4
    rw [bootM_len] at x1
    subst x1 x2 x3 x4
    refine run ?_
    intro Yb
    have hp : p < (bootM (24 + 8 * C)).length := by rw [bootM_len]; omega
    have hw64 : W64 (bootM (24 + 8 * C)) := W64.memF (fun q => putW_lt _ _ _)
    obtain ⟨g, cw, cur, ew, rfl, hsz, hset⟩ := hO.setU hp
    rw [bootM_len] at ew
    injection ew with ew _ ew'
    subst ew ew'
    have hn0 := hO.nthU hp
    refine st_le (⟨g, cur, 47⟩ :: ⟨Yb, #[.slice (some ⟨g, 0, none⟩) ((24 + 8 * C) * 8) k1, .slice q2 C k2, .slice q3 4 k3, .slice q4 C k4], 29⟩ :: ⟨Pb, #[.slice b1 l1 e1, .slice b2 l2 e2, .slice b3 l3 e3], 38⟩ :: ⟨Hb, #[.slice a1 ((24 + 8 * C) * 8) d1, .slice a2 C d2, .slice a3 4 d3, .slice a4 C d4], 29⟩ :: ⟨A, #[.slice p1 n1 c1, .slice p2 n2 c2, .slice p3 n3 c3, .slice p4 n4 c4, .slice (some ⟨bq, oq, none⟩) L.length cap], 32⟩ :: ((h2 ++ (h3 ++ h4)) ++ (hn ++ hnp))) (cnt1 hle) ?_
    refine drawN 20 ?_
    refine runD ?_
    refine callD (fun wc hG => within_e wc s.nn 64 (by decide) (by decide)) ?_
    have hk64 := wthn_lt s.nn (show 0 < 64 by decide)
    generalize wthn s.nn 64 = kk at hk64
    refine runD ?_
    refine opD (x_shlN rfl rfl 1 kk rfl rfl (by omega)) ?_
    refine runD ?_
    refine opD (x_xorN rfl rfl ((bootM (24 + 8 * C)).getD p 0) ((1 <<< kk) % 18446744073709551616) rfl rfl (hw64.at p) (Nat.mod_lt _ (by decide))) ?_
    refine runD ?_
    rw [show (1 <<< kk) % 18446744073709551616 = 2 ^ kk by rw [Nat.one_shiftLeft, Nat.mod_eq_of_lt]; exact Nat.pow_lt_pow_right (n := 64) (by decide) hk64]
    refine run ?_
    have hOf : Own 47 1 (.slice (some ⟨g, 0, none⟩) ((24 + 8 * C) * 8) k1) [⟨g, cur.setIfInBounds p (.int .u64 (((bootM (24 + 8 * C)).getD p 0 ^^^ 2 ^ kk : Nat) : Int)), 47⟩] ((flipL (bootM (24 + 8 * C)) p kk).map uV) := by
      have := hset ((bootM (24 + 8 * C)).getD p 0 ^^^ 2 ^ kk)
      rwa [bootM_len] at this
    have hfl : (flipL (bootM (24 + 8 * C)) p kk).length = (24 + 8 * C) * 8 := by rw [flip_len, bootM_len]
    have hYA : ∀ wc hp, Good w [] hp wc → (∀ e ∈ ⟨g, cur.setIfInBounds p (.int .u64 (((bootM (24 + 8 * C)).getD p 0 ^^^ 2 ^ kk : Nat) : Int)), 47⟩ :: (h2 ++ (h3 ++ h4)), e ∈ hp) → HyAt wc (.slice (some ⟨g, 0, none⟩) ((24 + 8 * C) * 8) k1) (.slice q2 C k2) (.slice q3 4 k3) (.slice q4 C k4) (flipL (bootM (24 + 8 * C)) p kk) (List.replicate C cpu0) (List.replicate 4 vm0) (List.replicate C noRg) := fun wc hp hG hs => by
      refine ⟨flip_w64 hw64 p hk64, hOf.lie (hG.lie fun e he => hs e (by simp at he; simp [he])) (by rw [List.length_map]; omega), ⟨hA2.own.lie (hG.lie fun e he => hs e (by simp [he])) (by simp; omega), fun c hc => ?_, fun c hc => ?_⟩, ⟨hA3.own.lie (hG.lie fun e he => hs e (by simp [he])) (by simp), fun c hc => ?_, fun c hc => ?_, fun c hc => ?_⟩, hA4.own.lie (hG.lie fun e he => hs e (by simp [he])) (by simp; omega)⟩
      · rw [List.eq_of_mem_replicate hc]; exact slAt_nil _ _
      · rw [List.eq_of_mem_replicate hc]; exact slAt_nil _ _
      · rw [List.eq_of_mem_replicate hc]; exact slAt_nil _ _
      · rw [List.eq_of_mem_replicate hc]; exact slAt_nil _ _
      · rw [List.eq_of_mem_replicate hc]; exact slAt_nil _ _
    have hmf : memOk (flipL (bootM (24 + 8 * C)) p kk).length = true := by rw [flip_len]; exact hm1
    have hFf : 24 ≤ (flipL (bootM (24 + 8 * C)) p kk).length / 8 := by rw [flip_len]; exact hF1
    refine callB (fun wc hG => absPart_e (ws := flipL (bootM (24 + 8 * C)) p kk) (hYA wc _ hG (fun e he => by simp at he ⊢; rcases he with he | he | he | he <;> simp [he])) hFf hmf hC1 hC3) ?_
    rintro _ hno ⟨f1, f2, f3, i1, i2, i3, j1, j2, j3, rfl, hPf⟩
    refine run ?_
    intro Fb
    have hCkf := fun wc hp (hG : Good w [] hp wc) hs => absCheck_e (hYA wc hp hG hs) hFf hmf hC1 hC3
    have hnof := fun h => flip_no (C := C) (k := kk) hp88 hp (by rw [hB.1]; exact hB.2.2) h
    rw [hB.1] at hnof
    have hlf : (absL (flipL (bootM (24 + 8 * C)) p kk) C).pages.length = (bootL (24 + 8 * C) C).pages.length := by rw [← hB.1]; simp [absL, flip_len]
    obtain ⟨Pf, hPe⟩ : ∃ P, P = absL (flipL (bootM (24 + 8 * C)) p kk) C := ⟨_, rfl⟩
    rw [← hPe] at hPf hCkf hnof hlf
    generalize hosL (flipL (bootM (24 + 8 * C)) p kk) Pf.pages = t1 at hCkf hnof
    generalize Pf.may = t2 at hCkf
    refine callE (fun wc hG => num21_e 0 wc) ?_
    refine runG ?_
    refine callEG (fun hg wc hG => hCkf wc _ hG (fun e he => by simp at he ⊢; rcases he with he | he | he | he <;> simp [he])) ?_
    refine runG ?_
    refine callEG (fun hg wc hG => num21_e _ wc) ?_
    refine runG ?_
    refine callEGG (v := .bool false) (fun hg0 hg wc hG => ?_) ?_
    · have hb1 : t1 = true := by
        revert hg
        cases t1 <;> cases t2 <;> intro hg <;> first | rfl | (simp [wnt] at hg)
      exact eqPartNe_e (hPf wc (hG.lie (fun e he => by simp [he]))) (hP wc (hG.lie (fun e he => by simp [he]))) hlf (hnof hb1)
    refine runG ?_
    refine st_cond _ rfl (fun hd => ?_) (fun hd => ?_)
    · exfalso
      revert hd
      cases t1 <;> cases t2 <;> simp
    refine run ?_
    refine nextS (k + 1) (by omega) (hm := by omega) (h2 := by (exact clcntL))
  refine run ?_
  refine callE (fun wc hG => wakes21_e wc) ?_
  refine runC ?_
  exact fin1 rfl
end Go.Proofs.YtiaelhhmlbfkmaaGreat
