/- Layer 18 (part): the reference's first partition. -/
import Derived.Test.YtdfkcjjbflcafaaPartO
namespace Go.Proofs.Ytdfkcjjbflcafaa
open Go.RowKit
set_option linter.unusedVariables false
set_option linter.unusedSimpArgs false
set_option maxRecDepth 20000
attribute [local irreducible] Hy St Ops DH DHF
theorem bootR_e (F C : Nat) (hF : F ≤ 64) (hF1 : 1 ≤ F) (hC : C ≤ 3) (w : World) : Fn Try.prog 14 [.int .i64 (F : Int), .int .i64 (C : Int)].toArray w [] (fun u hn => ∃ pv gv ov, u = .agg #[pv, gv, ov] ∧ ∀ w, Here hn w → PartG w pv gv ov (bootL F C)) := by
  refine enter Try.func14 ?_
  refine run ?_
  intro Rb
  refine drawM 5 [1] [0, 2, 4] [3] ?_
  refine runS ?_
  refine eMake (m := 4) (sz := 5) (z := .agg #[.bool false, .bool false, .int .i64 0, .slice none 0 0, .slice none 0 0]) ?_ (by omega) (hcs := by exact made_rows [.bool false, .bool false, .int .i64 0, .slice none 0 0, .slice none 0 0] 4 5 rfl (by omega))
  refine eMake (m := C) (sz := 2) (z := .agg #[.int .i64 0, .int .i64 0]) ?_ (by omega) (hcs := by exact made_rows [.int .i64 0, .int .i64 0] C 2 rfl (by omega))
  refine eAlloc ?_
  refine eNil ?_
  rintro _ _ ⟨Bp, rfl, rfl⟩ _ _ ⟨Bo, rfl, rfl⟩ _ _ ⟨Bg, rfl, rfl⟩
  refine dBuild ?_
  refine dNil ?_
  refine opsF ?_
  simp only [List.cons_append, List.nil_append]
  obtain ⟨GC, hGC⟩ : ∃ G : Array Value, G = ((List.replicate 4 [Value.bool false, .bool false, .int .i64 0, .slice none 0 0, .slice none 0 0]).flatten).toArray := ⟨_, rfl⟩
  obtain ⟨OC, hOC⟩ : ∃ G : Array Value, G = ((List.replicate C [Value.int .i64 0, .int .i64 0]).flatten).toArray := ⟨_, rfl⟩
  rw [← hGC, ← hOC]
  refine run ?_
  refine loopS (σ := Nat × Value × Hp) (fun s => [(6, .int .i64 (s.1 : Int))]) (fun s => ⟨Bp, #[s.2.1, .slice (some ⟨Bg, 0, none⟩) 4 4, .slice (some ⟨Bo, 0, none⟩) C C], 26⟩ :: ⟨Rb, #[.slice none 0 0, .slice none 0 0, .slice none 0 0], 26⟩ :: ⟨Bg, GC, 58⟩ :: ⟨Bo, OC, 60⟩ :: s.2.2) (fun s => s.1 ≤ F ∧ Acc 41 2 s.2.1 s.2.2 ((bootL s.1 C).pages.map pgV)) (fun s => F - s.1) (0, _, []) ⟨by omega, Acc.nil _ _⟩ ?_
  rintro ⟨k, pv, ha⟩ m hm ⟨hk, hA⟩
  dsimp only at hm hk hA ⊢
  have hpl : (bootL k C).pages.length = k := by simp [bootL]
  refine run ?_
  refine st_cond _ rfl (fun hc => ?_) (fun hc => ?_)
  · have hlt : k < F := by simp at hc; omega
    have hstep : ∀ (x : PgD) (v' : Value) (ha' : Hp), x = ⟨bif decide (k < 16) then -1 else 0, -2⟩ → Acc 41 2 v' ha' ((bootL k C).pages.map pgV ++ [pgV x]) → Acc 41 2 v' ha' ((bootL (k + 1) C).pages.map pgV) := by
      rintro x v' ha' rfl h
      simpa [bootL, List.range_succ] using h
    refine run ?_
    intro X
    refine st_cond _ rfl (fun hc2 => ?_) (fun hc2 => ?_)
    · have hc2' : decide (k < 16) = true := by simp at hc2 ⊢; omega
      refine run ?_
      intro T
      refine appendR (c := pgV ⟨-1, -2⟩) [_, _, _, _, _, _] hA (fun v' ha' hA' => ?_) (by simp [hpl]; omega) (news_own (m := 2) mh rfl)
      obtain ⟨g, gc, cur, rfl, hha, _⟩ := hA'.open (by simp)
      simp only [List.cons_append, List.nil_append]
      refine run ?_
      refine nextS (k + 1, _, ha') ⟨by omega, hstep _ _ _ (by rw [hc2']; rfl) hA'⟩
    · have hc2' : decide (k < 16) = false := by simp at hc2 ⊢; omega
      refine run ?_
      intro T
      refine appendR (c := pgV ⟨0, -2⟩) [_, _, _, _, _, _] hA (fun v' ha' hA' => ?_) (by simp [hpl]; omega) (news_own (m := 2) mh rfl)
      obtain ⟨g, gc, cur, rfl, hha, _⟩ := hA'.open (by simp)
      simp only [List.cons_append, List.nil_append]
      refine run ?_
      refine nextS (k + 1, _, ha') ⟨by omega, hstep _ _ _ (by rw [hc2']; rfl) hA'⟩
  have hge : k = F := by simp at hc; omega
  subst hge
  subst hGC hOC
  obtain ⟨q, qc, hq, _⟩ : ∃ q qc, pv = .slice q (bootL k C).pages.length qc ∧ True := by
    rcases hA.2 with ⟨h, _⟩ | ⟨_, g, cap, cur, rfl, _, _⟩
    · rw [List.map_eq_nil_iff] at h; rw [h] at hpl; simp at hpl; omega
    · exact ⟨_, cap, by rw [List.length_map], trivial⟩
  subst hq
  refine run ?_
  refine finA ?_
  refine ⟨_, _, _, rfl, fun w' hw' => bootG (tg := 58) (tq := 60) hA (by omega) (by omega) (hw'.sub ?_)⟩
  intro e he
  simp only [List.mem_cons] at he ⊢
  rcases he with rfl | rfl | he
  · simp
  · simp
  · simp [he]
end Go.Proofs.Ytdfkcjjbflcafaa
