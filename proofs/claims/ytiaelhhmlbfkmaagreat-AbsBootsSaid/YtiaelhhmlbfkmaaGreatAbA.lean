/- Layer 21 (abs): what the host's tables are to be. -/
import Derived.Test.YtiaelhhmlbfkmaaGreatBoB
import Derived.Test.YtiaelhhmlbfkmaaGreatBtA
import Derived.Test.YtiaelhhmlbfkmaaGreatEngAr
namespace Go.Proofs.YtiaelhhmlbfkmaaGreat
open Go.RowKit
set_option linter.unusedVariables false
set_option linter.unusedSimpArgs false
set_option maxRecDepth 20000
attribute [local irreducible] Hy St Ops DH DHF DE1 DE2 DE3 DS DCh DWF
theorem levels_e (w : World) : Fn Tryz.prog 75 [].toArray w [] (fun u _ => u = .agg #[.int .i64 1, .int .i64 1, .int .i64 1, .int .i64 8]) := by
  refine enter Tryz.func75 ?_
  refine run ?_
  intro B
  refine run ?_
  refine op1 (by rfl) (x_buildA (out := #[.int .i64 1, .int .i64 1, .int .i64 1, .int .i64 8]) rfl rfl rfl (by rfl) rfl) ?_
  refine run ?_
  exact finA (cs := #[.int .i64 1, .int .i64 1, .int .i64 1, .int .i64 8]) rfl
theorem lv_nth : ∀ k : Nat, k < 4 → (#[.int .i64 1, .int .i64 1, .int .i64 1, .int .i64 8] : Array Value)[k]? = some (.int .i64 (if k = 3 then 8 else 1)) := by
  intro k hk
  have : k = 0 ∨ k = 1 ∨ k = 2 ∨ k = 3 := by omega
  rcases this with rfl | rfl | rfl | rfl <;> rfl
theorem says_e (f own wth : Int) (h1 : -1 ≤ own) (h2 : own ≤ 1000) (w : World) : Fn Tryz.prog 164 [.int .i64 f, .agg #[.int .i64 own, .int .i64 wth]].toArray w [] (fun u _ => u = dsV (ownD own wth f)) := by
  refine enter Tryz.func164 ?_
  refine run ?_
  intro B C
  refine runG ?_
  refine st_cond _ rfl (fun hc => ?_) (fun hc => ?_)
  · refine run ?_
    refine callE (fun wc hG => bLeaf_e f 0 wc) ?_
    refine run ?_
    rw [show ownD own wth f = leafD f 0 by unfold ownD; rw [hc, cond_true]]
    exact finA (cs := #[.int .i64 (leafD f 0).kind, .int .i64 (leafD f 0).frame, .bool (leafD f 0).r, .bool (leafD f 0).w, .bool (leafD f 0).x, .bool (leafD f 0).af, .bool (leafD f 0).ng, .int .i64 (leafD f 0).soft, .int .i64 (leafD f 0).note]) rfl
  refine run ?_
  refine st_cond _ rfl (fun hc2 => ?_) (fun hc2 => ?_)
  · refine run ?_
    refine callE (fun wc hG => bLeaf_e f 1 wc) ?_
    refine run ?_
    rw [show ownD own wth f = leafD f 1 by unfold ownD; rw [hc, cond_false, hc2, cond_true]]
    exact finA (cs := #[.int .i64 (leafD f 1).kind, .int .i64 (leafD f 1).frame, .bool (leafD f 1).r, .bool (leafD f 1).w, .bool (leafD f 1).x, .bool (leafD f 1).af, .bool (leafD f 1).ng, .int .i64 (leafD f 1).soft, .int .i64 (leafD f 1).note]) rfl
  refine run ?_
  refine st_cond _ rfl (fun hc3 => ?_) (fun hc3 => ?_)
  · refine run ?_
    refine callE (fun wc hG => bLeaf_e f 2 wc) ?_
    refine run ?_
    rw [show ownD own wth f = leafD f 2 by unfold ownD; rw [hc, cond_false, hc2, cond_false, hc3, cond_true]]
    exact finA (cs := #[.int .i64 (leafD f 2).kind, .int .i64 (leafD f 2).frame, .bool (leafD f 2).r, .bool (leafD f 2).w, .bool (leafD f 2).x, .bool (leafD f 2).af, .bool (leafD f 2).ng, .int .i64 (leafD f 2).soft, .int .i64 (leafD f 2).note]) rfl
  have hne := of_decide_eq_false hc2
  refine run ?_
  refine st_cond _ rfl (fun hc4 => ?_) (fun hc4 => ?_)
  · have hp : 0 < own := of_decide_eq_true hc4
    refine run ?_
    rw [show ownD own wth f = noteD (1 + own) by unfold ownD; rw [hc, cond_false, hc2, cond_false, hc3, cond_false, decide_eq_false (by omega), cond_false]]
    exact finA (cs := #[.int .i64 0, .int .i64 0, .bool false, .bool false, .bool false, .bool false, .bool false, .int .i64 0, .int .i64 (1 + own)]) rfl
  have hp : ¬ 0 < own := of_decide_eq_false hc4
  refine run ?_
  rw [show ownD own wth f = noteD 1 by unfold ownD; rw [hc, cond_false, hc2, cond_false, hc3, cond_false, decide_eq_true (by omega), cond_true]]
  exact finA (cs := #[.int .i64 0, .int .i64 0, .bool false, .bool false, .bool false, .bool false, .bool false, .int .i64 0, .int .i64 1]) rfl
/-- The host's descriptor at a place. -/
def firstD (pages : List PgD) (lv tb at_ : Nat) : DsD :=
  bif decide (lv = 3) then pagesD pages (tb * 8 + at_) else bif decide (lv = 2) then tabD (3 + (at_ : Int)) else bif decide (at_ = 0) then tabD ((lv : Int) + 1) else noDs
theorem abFirst_e {w : World} (X : Nat) {pv gv ov : Value} (pages : List PgD) (h : SlAt w pv 2 (pages.map pgV)) (hpg : ∀ a ∈ pages, -1 ≤ a.own ∧ a.own ≤ 14) (lv tb at_ : Nat) (hl : lv < 4) (ht : tb < 8) (ha : at_ < 8) : Fn Tryz.prog 77 [.pointer (some ⟨X, 0, none⟩), .agg #[pv, gv, ov], .int .i64 (lv : Int), .int .i64 (tb : Int), .int .i64 (at_ : Int)].toArray w [] (fun u _ => u = dsV (firstD pages lv tb at_)) := by
  have h' := h
  obtain ⟨q, cap, rfl, hne, hle⟩ := h.opened
  refine enter Tryz.func77 ?_
  refine run ?_
  intro P D
  refine st_cond _ rfl (fun hc => ?_) (fun hc => ?_)
  · have hl3 : lv < 3 := by simp at hc; omega
    refine run ?_
    refine callE (fun wc hG => levels_e wc) ?_
    refine run ?_
    refine loopS (σ := Nat) (fun k => [(18, .int .i64 (k : Int)), (11, .int .i64 ((min k (lv + 1) : Nat) : Int))]) (fun _ => ⟨D, #[.int .i64 0, .int .i64 0, .bool false, .bool false, .bool false, .bool false, .bool false, .int .i64 0, .int .i64 0], 124⟩ :: [⟨P, #[.slice q pages.length cap, gv, ov], 38⟩]) (fun k => k ≤ 4) (fun k => 4 - k) 0 (Nat.zero_le _) ?_
    rintro k m hm hk
    refine run ?_
    refine st_cond _ rfl (fun hc2 => ?_) (fun hc2 => ?_)
    · have hk3 : k < 4 := by simp at hc2; omega
      refine run ?_
      refine op1 (by rfl) (x_indexV rfl rfl rfl rfl (by omega) (by omega) (lv_nth k hk3)) ?_
      refine run ?_
      refine st_cond _ rfl (fun hc3 => ?_) (fun hc3 => ?_)
      · have hkl : k ≤ lv := by simp at hc3; omega
        rw [if_neg (by omega : ¬ k = 3), show min k (lv + 1) = k by omega]
        refine run ?_
        exact nextS (k + 1) hk3 (h1 := by rw [show min (k + 1) (lv + 1) = k + 1 by omega]; (repeat (first | exact True.intro | (refine And.intro (by first | exact Or.inl rfl | exact Or.inr rfl) ?_))))
      · have hkl : lv < k := by simp at hc3; omega
        refine run ?_
        exact nextS (k + 1) hk3 (h1 := by rw [show min (k + 1) (lv + 1) = min k (lv + 1) by omega]; (repeat (first | exact True.intro | (refine And.intro (by first | exact Or.inl rfl | exact Or.inr rfl) ?_))))
    · have hk4 : k = 4 := by simp at hc2; omega
      subst hk4
      rw [show min 4 (lv + 1) = lv + 1 by omega]
      refine run ?_
      refine st_cond _ rfl (fun hc3 => ?_) (fun hc3 => ?_)
      · have h2 : lv = 2 := by simp at hc3; omega
        subst h2
        rw [show ((2 + 1 : Nat) : Int) = 3 from rfl]
        refine run ?_
        exact finA (cs := #[.int .i64 1, .int .i64 (3 + (at_ : Int)), .bool false, .bool false, .bool false, .bool false, .bool false, .int .i64 0, .int .i64 0]) rfl
      · have h2 : lv ≠ 2 := by simp at hc3; omega
        refine run ?_
        refine st_cond _ rfl (fun hc4 => ?_) (fun hc4 => ?_)
        · have h0 : at_ = 0 := by simp at hc4; omega
          have hfd : firstD pages lv tb at_ = tabD ((lv + 1 : Nat) : Int) := by unfold firstD; rw [decide_eq_false (by omega), decide_eq_false h2, decide_eq_true h0]; simp [tabD]
          rw [hfd]
          refine run ?_
          exact finA (cs := #[.int .i64 1, .int .i64 ((lv + 1 : Nat) : Int), .bool false, .bool false, .bool false, .bool false, .bool false, .int .i64 0, .int .i64 0]) rfl
        · have h0 : at_ ≠ 0 := by simp at hc4; omega
          have hfd : firstD pages lv tb at_ = noDs := by unfold firstD; rw [decide_eq_false (by omega), decide_eq_false h2, decide_eq_false h0]; rfl
          rw [hfd]
          refine run ?_
          exact finA (cs := #[.int .i64 0, .int .i64 0, .bool false, .bool false, .bool false, .bool false, .bool false, .int .i64 0, .int .i64 0]) rfl
  have hl3 : lv = 3 := by simp at hc; omega
  subst hl3
  refine run ?_
  refine st_cond _ rfl (fun hc2 => ?_) (fun hc2 => ?_)
  · have hfd : firstD pages 3 tb at_ = noDs := by
      have : ¬ tb * 8 + at_ < pages.length := by simp at hc2; omega
      unfold firstD pagesD; rw [decide_eq_false this]; rfl
    rw [hfd]
    refine run ?_
    exact finA (cs := #[.int .i64 0, .int .i64 0, .bool false, .bool false, .bool false, .bool false, .bool false, .int .i64 0, .int .i64 0]) rfl
  have hlt : tb * 8 + at_ < pages.length := by simp at hc2; omega
  obtain ⟨b, o, rfl⟩ := hne (by intro e; rw [e] at hlt; simp at hlt)
  have hr := h.row hlt
  have hpp := hpg _ (getD_mem hlt)
  have hfd : firstD pages 3 tb at_ = ownD (pages.getD (tb * 8 + at_) default).own (pages.getD (tb * 8 + at_) default).wit ((tb * 8 + at_ : Nat) : Int) := by
    unfold firstD pagesD; rw [decide_eq_true hlt]; rfl
  rw [hfd]
  generalize pages.getD (tb * 8 + at_) default = pg at hr hpp ⊢
  rw [show (tb : Int) * 8 + (at_ : Int) = ((tb * 8 + at_ : Nat) : Int) by omega]
  refine run ?_
  refine callE (fun wc hG => says_e _ pg.own pg.wit hpp.1 (by omega) wc) ?_
  refine run ?_
  generalize ownD pg.own pg.wit ((tb * 8 + at_ : Nat) : Int) = d
  exact finA (cs := #[.int .i64 d.kind, .int .i64 d.frame, .bool d.r, .bool d.w, .bool d.x, .bool d.af, .bool d.ng, .int .i64 d.soft, .int .i64 d.note]) rfl
end Go.Proofs.YtiaelhhmlbfkmaaGreat
