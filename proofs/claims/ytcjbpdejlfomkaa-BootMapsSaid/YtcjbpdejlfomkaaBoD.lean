/- Layer 20 (boot): the law BootMaps. -/
import Derived.Test.YtcjbpdejlfomkaaBoC
import Derived.Test.YtcjbpdejlfomkaaWkA
namespace Go.Proofs.Ytcjbpdejlfomkaa
open Go.RowKit
set_option linter.unusedVariables false
set_option linter.unusedSimpArgs false
set_option maxRecDepth 20000
/-- What is asked of a page: by walking, and of the descriptor. -/
def bmOk (F mid : Nat) : Bool :=
  let M := midL (memF (F * 8) (putW F 64)) true 0 mid 1
  let G := getL (memF (F * 8) (putW F 64)) 0 mid
  (decide (M.f.kind = 0) == (decide (16 ≤ mid) && decide (mid < F))) && (!(decide (16 ≤ mid) && decide (mid < F)) || (decide (M.h.frame = (mid : Int)) && M.h.r && M.h.x)) && (!decide (mid < 16) || (decide (G.e = 0) && decide (G.level = 3) && decide (G.d.note = 1)))
theorem bm_all : ([24, 32, 40, 48, 56, 64].all fun F => (List.range 80).all fun mid => bmOk F mid) = true := by decide +kernel
attribute [local irreducible] Hy St Ops DH DHF DE1 DE2 DE3 DS DCh
theorem lawBootMaps_e {w : World} {nv wv cv mv rv lv : Value} {N : List (Int × Int)} {ms : List VmD} {L : List Int} (h : AskAt20 w nv wv cv mv rv lv N ms L) : Fn Try.prog 6 [.agg #[nv, wv, cv, mv, rv, lv]].toArray w [] (fun u _ => u = .bool true) := by
  have h' := h
  obtain ⟨q1, c1, rfl, hne1, _⟩ := h.n.opened
  obtain ⟨q2, n2, c2, rfl⟩ := h.ws
  obtain ⟨q3, n3, c3, rfl⟩ := h.cs
  obtain ⟨q4, c4, rfl, _, _⟩ := h.ms.rows.opened
  obtain ⟨q5, n5, c5, rfl⟩ := h.rs
  obtain ⟨q6, c6, rfl, hne6, _⟩ := h.l.opened
  refine enter Try.func6 ?_
  refine run ?_
  intro B
  refine loopS (σ := Nat) (fun F => [(3, .int .i64 (F : Int))]) (fun _ => [⟨B, #[.slice q1 N.length c1, .slice q2 n2 c2, .slice q3 n3 c3, .slice q4 ms.length c4, .slice q5 n5 c5, .slice q6 L.length c6], 76⟩]) (fun F => F % 8 = 0 ∧ 24 ≤ F ∧ F ≤ 72) (fun F => 72 - F) 24 (by decide) ?_
  rintro F m hm ⟨h8, hF1, hF2⟩
  refine run ?_
  refine st_cond _ rfl (fun hc => ?_) (fun hc => ?_)
  · have hlt : F ≤ 64 := by simp at hc; omega
    have hmay : mayBoot (F : Int) 1 = true := by
      simp only [mayBoot, PtD.btw, Bool.and_eq_true, decide_eq_true_eq]; omega
    have hall : ∀ mid, mid < 80 → bmOk F mid = true := by
      intro mid hmid
      have h1 := List.all_eq_true.1 bm_all F (by simp; omega)
      exact List.all_eq_true.1 h1 mid (List.mem_range.2 hmid)
    refine run ?_
    have hR := fun wc => bBoot_e (F : Int) 1 wc
    refine callB (fun wc hG => hR wc) ?_
    intro u hn hR
    simp only [BootHR, hmay, cond_true] at hR
    obtain ⟨g1, k1, g2, k2, g3, k3, g4, k4, rfl, hP⟩ := hR
    rw [Int.toNat_natCast] at hP ⊢
    refine ops_perm (_ ++ hn) List.perm_append_comm ?_
    simp only [List.cons_append, List.nil_append]
    refine run ?_
    intro X
    refine run ?_
    refine callE (fun wc hG => num20_e 0 wc) ?_
    refine runC ?_
    refine st_cond _ rfl (fun hp => absurd hp (by simp)) (fun hp => ?_)
    refine run ?_
    have hn8 : (memF (F * 8) (putW F 64)).length = F * 8 := memF_len _ _
    have hw64 : W64 (memF (F * 8) (putW F 64)) := W64.memF (putW_lt _ _)
    have hmk : memOk (F * 8) = true := by simp only [memOk, Bool.and_eq_true, decide_eq_true_eq]; omega
    refine loopS (σ := Nat) (fun k => [(6, .int .i64 (k : Int))]) (fun _ => ⟨X, #[.slice g1 (F * 8) k1, .slice g2 (Int.toNat 1) k2, .slice g3 4 k3, .slice g4 (Int.toNat 1) k4], 74⟩ :: ⟨B, #[.slice q1 N.length c1, .slice q2 n2 c2, .slice q3 n3 c3, .slice q4 ms.length c4, .slice q5 n5 c5, .slice q6 L.length c6], 76⟩ :: hn) (fun k => k ≤ 80) (fun k => 80 - k) 0 (by decide) ?_
    rintro k m2 hm2 hk
    refine run ?_
    refine st_cond _ rfl (fun hc2 => ?_) (fun hc2 => ?_)
    · have hk80 : k < 80 := by simp at hc2; omega
      have hbm := hall k hk80
      simp only [bmOk] at hbm
      refine run ?_
      refine callB (fun wc hG => rMid_e _ hw64 (hP wc (fun b hb => hG.here b (by simp [hb]))).ws (by rw [hn8]; omega) true 0 0 (by decide) k (by omega) 1) ?_
      rintro u hn2 ⟨v2, h2, rfl, hO, hle2⟩
      generalize hM : midL (memF (F * 8) (putW F 64)) true 0 k 1 = M at hbm hO
      obtain ⟨q7, c7, e7⟩ := hO.opened
      subst e7
      refine ops_le (⟨X, #[.slice g1 (F * 8) k1, .slice g2 (Int.toNat 1) k2, .slice g3 4 k3, .slice g4 (Int.toNat 1) k4], 74⟩ :: ⟨B, #[.slice q1 N.length c1, .slice q2 n2 c2, .slice q3 n3 c3, .slice q4 ms.length c4, .slice q5 n5 c5, .slice q6 L.length c6], 76⟩ :: (hn ++ h2)) (by (refine hpLe_cnt fun a => ?_; have := HpLe.cnt hle2 a; simp only [cntB_app, cntB_cons, cntB_nil] at *; omega)) ?_
      refine run ?_
      intro Y Z
      refine runG ?_
      have hown : (decide (16 ≤ (k : Int)) && decide ((k : Int) < (F : Int))) = (decide (16 ≤ k) && decide (k < F)) := by
        rw [Bool.eq_iff_iff]; simp; omega
      rw [hown]
      rw [Bool.and_eq_true, Bool.and_eq_true] at hbm
      obtain ⟨⟨hb1, hb2⟩, hb3⟩ := hbm
      generalize (decide (16 ≤ k) && decide (k < F)) = own at hb1 hb2 ⊢
      have hb1' : decide (M.f.kind = 0) = own := by simpa using hb1
      rw [hb1']
      have hcnd : (own != own || own && (!decide (M.h.frame = (k : Int)) || !M.h.r || !M.h.x)) = false := by
        cases own with
        | false => rfl
        | true =>
          simp only [Bool.not_true, Bool.false_or, Bool.and_eq_true] at hb2
          rw [hb2.1.1, hb2.1.2, hb2.2]; rfl
      refine st_cond _ rfl (fun hp => absurd (hcnd.symm.trans hp) (by decide)) (fun hp => ?_)
      clear hcnd hp
      refine run ?_
      refine callE (fun wc hG => rGetw_e _ hw64 (hP wc (fun b hb => hG.here b (by simp [hb]))).ws 0 k (by omega) (by rw [hn8]; omega)) ?_
      generalize hG : getL (memF (F * 8) (putW F 64)) 0 k = G at hb3
      refine run ?_
      intro W
      refine runG ?_
      have hcnd : (decide ((k : Int) < 16) && (!decide (G.e = 0) || !decide ((G.level : Int) = 3) || !decide (G.d.note = 1))) = false := by
        cases h16 : decide ((k : Int) < 16) with
        | false => rfl
        | true =>
          have h16' : decide (k < 16) = true := by simp at h16 ⊢; omega
          rw [h16'] at hb3
          simp only [Bool.not_true, Bool.false_or, Bool.and_eq_true, decide_eq_true_eq] at hb3
          obtain ⟨⟨ha, hb⟩, hc⟩ := hb3
          simp [ha, hb, hc]
      refine st_cond _ rfl (fun hp => absurd (hcnd.symm.trans hp) (by decide)) (fun hp => ?_)
      clear hcnd hp
      refine run ?_
      refine nextS (k + 1) hk80 (h2 := by (refine hpLe_cnt fun a => ?_; simp only [cntB_app, cntB_cons, cntB_nil]; omega))
    · refine run ?_
      refine nextS (F + 8) ⟨by omega, by omega, by omega⟩ (h2 := by (refine hpLe_cnt fun a => ?_; simp only [cntB_app, cntB_cons, cntB_nil]; omega))
  · refine runG ?_
    refine opsGT ?_ rfl
    refine callE (fun wc hG => wakes20_e wc) ?_
    refine runC ?_
    exact fin1 rfl
end Go.Proofs.Ytcjbpdejlfomkaa
