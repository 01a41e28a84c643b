/- Layer 16, plain: pages of a small space mapped and unmapped: what the walk tells. -/
import Derived.Test.YtiggoglimlnmmaaPgA
namespace Go.Proofs.Ytiggoglimlnmmaa
open Go.RowKit
set_option linter.unusedVariables false
set_option linter.unusedSimpArgs false
set_option maxRecDepth 20000
instance : DecidableEq DsD := fun a b => decidable_of_iff (a.kind = b.kind ∧ a.frame = b.frame ∧ a.r = b.r ∧ a.w = b.w ∧ a.x = b.x ∧ a.af = b.af ∧ a.ng = b.ng ∧ a.soft = b.soft ∧ a.note = b.note) (by cases a; cases b; simp)
def lfD (h : Int) : DsD := ⟨2, h, true, false, false, true, false, 0, 0⟩
def lfW (h : Int) : Nat := if h = 0 then 0 else if h < 0 then (noteD 3).word 2 3 else (lfD h).word 2 3
/-- The words: a the places of tables of the last level, in the order in which they were made; hv what is mapped. -/
def pbW (a : List Nat) (hv : List Int) (p : Nat) : Nat :=
  if p / 8 = 0 then (if p % 8 = 0 ∧ a ≠ [] then (tabD 1).word 2 0 else 0)
  else if p / 8 = 1 then (if p % 8 = 0 ∧ a ≠ [] then (tabD 2).word 2 1 else 0)
  else if p / 8 = 2 then (if p % 8 ∈ a then (tabD (3 + (a.idxOf (p % 8) : Nat) : Int)).word 2 2 else 0)
  else if p / 8 - 3 < a.length then lfW (hv.getD (8 * a.getD (p / 8 - 3) 0 + p % 8) 0) else 0
def pbM (a : List Nat) (hv : List Int) : List Nat := (List.range 192).map (pbW a hv)
def pbFull : List Int := [1, 2, 3, 4, 5, 6, 7, 8, 9, 10, 11, 12, 13, 14, 15]
def pbF (a : List Nat) : List Int := pbFull.drop (if a = [] then 0 else 2 + a.length)
structure PbI (a : List Nat) (hv : List Int) : Prop where
  nd : a.Nodup
  lt : ∀ i ∈ a, i < 8
  len : hv.length = 64
  rg : ∀ k, k < 64 → -1 ≤ hv.getD k 0 ∧ hv.getD k 0 ≤ 60
  at_ : ∀ k, k < 64 → hv.getD k 0 ≠ 0 → k / 8 ∈ a
theorem nodup_le : ∀ (n : Nat) (a : List Nat), a.Nodup → (∀ i ∈ a, i < n) → a.length ≤ n
  | 0, [], _, _ => Nat.le_refl _
  | 0, x :: _, _, h => absurd (h x (List.mem_cons_self ..)) (by omega)
  | n + 1, a, hn, h => by
    by_cases hm : n ∈ a
    · have h1 := nodup_le n (a.erase n) (hn.erase n) (fun i hi => by
        have h2 := h i (List.mem_of_mem_erase hi)
        have h3 : i ≠ n := fun e => by subst e; exact hn.not_mem_erase hi
        omega)
      rw [List.length_erase_of_mem hm] at h1
      have := List.length_pos_of_mem hm
      omega
    · have h1 := nodup_le n a hn (fun i hi => by
        have h2 := h i hi
        have h3 : i ≠ n := fun e => by subst e; exact hm hi
        omega)
      omega
theorem PbI.le {a : List Nat} {hv : List Int} (h : PbI a hv) : a.length ≤ 8 := nodup_le 8 a h.nd h.lt
theorem idx_0 : ∀ page, page < 64 → indexN 0 page = 0 ∧ indexN 1 page = 0 ∧ indexN 2 page = page / 8 ∧ indexN 3 page = page % 8 := by decide
theorem tab_of : ∀ f : Nat, f < 24 → ofL 2 0 ((tabD (f : Int)).word 2 0) = tabD f ∧ ofL 2 1 ((tabD (f : Int)).word 2 1) = tabD f ∧ ofL 2 2 ((tabD (f : Int)).word 2 2) = tabD f := by decide +kernel
theorem leaf_of : ∀ f : Nat, f < 61 → 0 < f → ofL 2 3 (lfW (f : Int)) = lfD f := by decide +kernel
theorem none_of : ofL 2 0 0 = noDs ∧ ofL 2 1 0 = noDs ∧ ofL 2 2 0 = noDs ∧ ofL 2 3 0 = noDs := by decide +kernel
theorem pbM_len (a : List Nat) (hv : List Int) : (pbM a hv).length = 192 := by simp [pbM]
theorem pbM_at (a : List Nat) (hv : List Int) {p : Nat} (h : p < 192) : (pbM a hv).getD p 0 = pbW a hv p := by
  unfold pbM
  rw [List.getD_eq_getElem?_getD, List.getElem?_map, List.getElem?_range h]
  rfl
theorem pb_dAt (a : List Nat) (hv : List Int) (f : Int) (g : Nat) (hfg : f = (g : Int)) (hg : g < 24) (level page : Nat) : dAt (pbM a hv) (atN f level page) level = ofL 2 level (pbW a hv (g * 8 + indexN level page)) := by
  subst hfg
  have := indexN_lt level page
  unfold dAt atN
  rw [Int.toNat_natCast, pbM_at a hv (by omega)]
theorem walkL_tab {ws : List Nat} {page k level : Nat} {f : Int} {fs : List Int} {d d' : DsD} (h1 : hasF ws.length f = true) (h2 : dAt ws (atN f level page) level = d') (h3 : d'.kind = 1) (h4 : level ≠ 3) : walkL ws page 3 (k + 1) level f fs d = walkL ws page 3 k (level + 1) d'.frame (fs ++ [f]) d' := by
  rw [walkL, h1, cond_true, h2, h3]
  simp [h4]
theorem walkL_end {ws : List Nat} {page k level : Nat} {f : Int} {fs : List Int} {d d' : DsD} (h1 : hasF ws.length f = true) (h2 : dAt ws (atN f level page) level = d') (h3 : d'.kind ≠ 1 ∨ level = 3) : walkL ws page 3 (k + 1) level f fs d = ⟨fs ++ [f], d', true⟩ := by
  rw [walkL, h1, cond_true, h2]
  rcases h3 with h3 | h3 <;> simp [h3]
theorem pb_has (a : List Nat) (hv : List Int) {f : Int} {g : Nat} (hfg : f = (g : Int)) (hg : g < 24) : hasF (pbM a hv).length f = true := by
  rw [pbM_len]; subst hfg; unfold hasF; simp; omega
/-- The words, a frame and a place in it. -/
theorem pbW_at (a : List Nat) (hv : List Int) (g s : Nat) (hs : s < 8) : pbW a hv (g * 8 + s) = if g = 0 then (if s = 0 ∧ a ≠ [] then (tabD 1).word 2 0 else 0)
  else if g = 1 then (if s = 0 ∧ a ≠ [] then (tabD 2).word 2 1 else 0)
  else if g = 2 then (if s ∈ a then (tabD (3 + (a.idxOf s : Nat) : Int)).word 2 2 else 0)
  else if g - 3 < a.length then lfW (hv.getD (8 * a.getD (g - 3) 0 + s) 0) else 0 := by
  unfold pbW
  rw [show (g * 8 + s) / 8 = g by omega, show (g * 8 + s) % 8 = s by omega]
theorem pb_way0 (hv : List Int) {page : Nat} (hp : page < 64) : wayL (pbM [] hv) 0 page 3 = ⟨[0], noDs, true⟩ := by
  obtain ⟨i0, i1, i2, i3⟩ := idx_0 page hp
  unfold wayL
  rw [walkL_end (pb_has (f := 0) _ _ (g := 0) rfl (by decide)) (d' := noDs) (by rw [pb_dAt _ _ 0 0 rfl (by decide), i0, pbW_at _ _ 0 0 (by decide)]; exact none_of.1) (.inl (by decide))]
  rfl
theorem pb_way1 {a : List Nat} (hv : List Int) (ha : a ≠ []) {page : Nat} (hp : page < 64) (hm : page / 8 ∉ a) : wayL (pbM a hv) 0 page 3 = ⟨[0, 1, 2], noDs, true⟩ := by
  obtain ⟨i0, i1, i2, i3⟩ := idx_0 page hp
  unfold wayL
  rw [walkL_tab (pb_has (f := 0) _ _ (g := 0) rfl (by decide)) (d' := tabD 1) (by rw [pb_dAt _ _ 0 0 rfl (by decide), i0, pbW_at _ _ 0 0 (by decide)]; simpa [ha] using (tab_of 1 (by decide)).1) rfl (by decide)]
  rw [walkL_tab (pb_has (f := (tabD 1).frame) _ _ (g := 1) rfl (by decide)) (d' := tabD 2) (by rw [pb_dAt _ _ (tabD 1).frame 1 rfl (by decide), show indexN (0 + 1) page = 0 from i1, pbW_at _ _ 1 0 (by decide)]; simpa [ha] using (tab_of 2 (by decide)).2.1) rfl (by decide)]
  rw [walkL_end (pb_has (f := (tabD 2).frame) _ _ (g := 2) rfl (by decide)) (d' := noDs) (by rw [pb_dAt _ _ (tabD 2).frame 2 rfl (by decide), show indexN (0 + 1 + 1) page = page / 8 from i2, pbW_at _ _ 2 _ (by omega)]; simpa [hm] using none_of.2.2.1) (.inl (by decide))]
  rfl
def pbD (h : Int) : DsD := if h = 0 then noDs else if h < 0 then noteD 3 else lfD h
theorem note_of : ofL 2 3 ((noteD 3).word 2 3) = noteD 3 := by decide +kernel
theorem leaf_ok {h : Int} (h0 : -1 ≤ h) (h6 : h ≤ 60) : ofL 2 3 (lfW h) = pbD h := by
  unfold pbD
  by_cases e : h = 0
  · subst e; exact none_of.2.2.2
  · rw [if_neg e]
    by_cases e2 : h < 0
    · rw [if_pos e2]; unfold lfW; rw [if_neg e, if_pos e2]; exact note_of
    · rw [if_neg e2]
      have := leaf_of h.toNat (by omega) (by omega)
      rwa [Int.toNat_of_nonneg (by omega)] at this
theorem idx_lt {a : List Nat} {i : Nat} (h : i ∈ a) : a.idxOf i < a.length ∧ a.getD (a.idxOf i) 0 = i := by
  have h1 := List.idxOf_lt_length_iff.2 h
  refine ⟨h1, ?_⟩
  rw [List.getD_eq_getElem?_getD, List.getElem?_eq_getElem h1, List.getElem_idxOf]
  rfl
theorem pb_way2 {a : List Nat} {hv : List Int} (hI : PbI a hv) {page : Nat} (hp : page < 64) (hm : page / 8 ∈ a) : wayL (pbM a hv) 0 page 3 = ⟨[0, 1, 2, (3 + (a.idxOf (page / 8) : Nat) : Int)], pbD (hv.getD page 0), true⟩ := by
  obtain ⟨i0, i1, i2, i3⟩ := idx_0 page hp
  have ha : a ≠ [] := by rintro rfl; simp at hm
  have hl := hI.le
  obtain ⟨hj, hjv⟩ := idx_lt hm
  have hr := hI.rg page hp
  generalize hje : a.idxOf (page / 8) = j at hj hjv
  unfold wayL
  rw [walkL_tab (pb_has (f := 0) _ _ (g := 0) rfl (by decide)) (d' := tabD 1) (by rw [pb_dAt _ _ 0 0 rfl (by decide), i0, pbW_at _ _ 0 0 (by decide)]; simpa [ha] using (tab_of 1 (by decide)).1) rfl (by decide)]
  rw [walkL_tab (pb_has (f := (tabD 1).frame) _ _ (g := 1) rfl (by decide)) (d' := tabD 2) (by rw [pb_dAt _ _ (tabD 1).frame 1 rfl (by decide), show indexN (0 + 1) page = 0 from i1, pbW_at _ _ 1 0 (by decide)]; simpa [ha] using (tab_of 2 (by decide)).2.1) rfl (by decide)]
  rw [walkL_tab (pb_has (f := (tabD 2).frame) _ _ (g := 2) rfl (by decide)) (d' := tabD (3 + (j : Int))) (by rw [pb_dAt _ _ (tabD 2).frame 2 rfl (by decide), show indexN (0 + 1 + 1) page = page / 8 from i2, pbW_at _ _ 2 _ (by omega), hje]; simpa [hm] using (tab_of (3 + j) (by omega)).2.2) rfl (by decide)]
  rw [walkL_end (pb_has (f := (tabD (3 + (j : Int))).frame) _ _ (g := 3 + j) (by simp [tabD]) (by omega)) (d' := pbD (hv.getD page 0)) (by rw [pb_dAt _ _ (tabD (3 + (j : Int))).frame (3 + j) (by simp [tabD]) (by omega), show indexN (0 + 1 + 1 + 1) page = page % 8 from i3, pbW_at _ _ (3 + j) _ (by omega), if_neg (by omega), if_neg (by omega), if_neg (by omega), if_pos (by omega), show 3 + j - 3 = j by omega, hjv, show 8 * (page / 8) + page % 8 = page by omega]; exact leaf_ok hr.1 hr.2) (.inr rfl)]
  simp [tabD]
theorem getD_setN {l : List Nat} {i p v : Nat} (hi : i < l.length) : (l.set i v).getD p 0 = if p = i then v else l.getD p 0 := by
  rw [List.getD_eq_getElem?_getD, List.getD_eq_getElem?_getD, List.getElem?_set]
  by_cases e : i = p
  · subst e; simp [hi]
  · rw [if_neg e, if_neg (fun h => e h.symm)]
theorem getD_setI {l : List Int} {i p : Nat} {v : Int} (hi : i < l.length) : (l.set i v).getD p 0 = if p = i then v else l.getD p 0 := by
  rw [List.getD_eq_getElem?_getD, List.getD_eq_getElem?_getD, List.getElem?_set]
  by_cases e : i = p
  · subst e; simp [hi]
  · rw [if_neg e, if_neg (fun h => e h.symm)]
theorem getD_zeroK (ws : List Nat) (o p : Nat) : ∀ k, o + k ≤ ws.length → (zeroK ws o k).getD p 0 = if o ≤ p ∧ p < o + k then 0 else ws.getD p 0
  | 0, _ => by rw [if_neg (by omega)]; rfl
  | k + 1, h => by
    rw [zeroK, getD_setN (by rw [zeroK_len]; omega), getD_zeroK ws o p k (by omega)]
    by_cases e : p = o + k
    · rw [if_pos e, if_pos (by omega)]
    · rw [if_neg e]
      by_cases e2 : o ≤ p ∧ p < o + k
      · rw [if_pos e2, if_pos (by omega)]
      · rw [if_neg e2, if_neg (by omega)]
theorem getD_zeroF {ws : List Nat} {f : Int} {g p : Nat} (hfg : f = (g : Int)) (h : g * 8 + 8 ≤ ws.length) : (zeroF ws f).getD p 0 = if p / 8 = g then 0 else ws.getD p 0 := by
  subst hfg
  unfold zeroF
  rw [Int.toNat_natCast, getD_zeroK _ _ _ _ h]
  by_cases e : p / 8 = g
  · rw [if_pos e, if_pos (by omega)]
  · rw [if_neg e, if_neg (by omega)]
theorem pb_ext {a : List Nat} {hv : List Int} {l : List Nat} (hl : l.length = 192) (h : ∀ g s, g < 24 → s < 8 → l.getD (g * 8 + s) 0 = pbW a hv (g * 8 + s)) : l = pbM a hv := by
  refine List.ext_getElem (by rw [hl, pbM_len]) fun p h1 h2 => ?_
  have h3 := h (p / 8) (p % 8) (by omega) (by omega)
  rw [show p / 8 * 8 + p % 8 = p by omega, ← pbM_at a hv (by omega), List.getD_eq_getElem?_getD, List.getD_eq_getElem?_getD, List.getElem?_eq_getElem h1, List.getElem?_eq_getElem h2] at h3
  exact h3
theorem getD_inj {a : List Nat} (hn : a.Nodup) {i j : Nat} (hi : i < a.length) (hj : j < a.length) (h : a.getD i 0 = a.getD j 0) : i = j := by
  rw [List.getD_eq_getElem?_getD, List.getD_eq_getElem?_getD, List.getElem?_eq_getElem hi, List.getElem?_eq_getElem hj] at h
  exact (List.getElem_inj hn).1 h
theorem pbW_set {a : List Nat} {hv : List Int} (hI : PbI a hv) {page : Nat} (hp : page < 64) (hm : page / 8 ∈ a) (x : Int) (g s : Nat) (hs : s < 8) : pbW a (hv.set page x) (g * 8 + s) = if g * 8 + s = (3 + a.idxOf (page / 8)) * 8 + page % 8 then lfW x else pbW a hv (g * 8 + s) := by
  obtain ⟨hj, hjv⟩ := idx_lt hm
  generalize a.idxOf (page / 8) = j at hj hjv
  rw [pbW_at _ _ g s hs, pbW_at _ _ g s hs]
  by_cases g0 : g = 0
  · subst g0; rw [if_neg (by omega : ¬ 0 * 8 + s = _)]; rfl
  by_cases g1 : g = 1
  · subst g1; rw [if_neg (by omega : ¬ 1 * 8 + s = _)]; rfl
  by_cases g2 : g = 2
  · subst g2; rw [if_neg (by omega : ¬ 2 * 8 + s = _)]; rfl
  rw [if_neg g0, if_neg g1, if_neg g2, if_neg g0, if_neg g1, if_neg g2, getD_setI (by rw [hI.len]; exact hp)]
  by_cases hg : g - 3 < a.length
  · rw [if_pos hg, if_pos hg]
    by_cases e : 8 * a.getD (g - 3) 0 + s = page
    · have h1 : a.getD (g - 3) 0 = a.getD j 0 := by rw [hjv]; omega
      have h2 := getD_inj hI.nd hg hj h1
      rw [if_pos e, if_pos (by omega)]
    · rw [if_neg e, if_neg (fun h => e (by rw [show g - 3 = j by omega, hjv]; omega))]
  · rw [if_neg hg, if_neg hg, if_neg (by omega)]
theorem PbI.set {a : List Nat} {hv : List Int} (hI : PbI a hv) {page : Nat} (hp : page < 64) (hm : page / 8 ∈ a) {x : Int} (h0 : -1 ≤ x) (h6 : x ≤ 60) : PbI a (hv.set page x) := by
  refine ⟨hI.nd, hI.lt, by rw [List.length_set]; exact hI.len, fun k hk => ?_, fun k hk => ?_⟩ <;> rw [getD_setI (by rw [hI.len]; exact hp)]
  · by_cases e : k = page
    · rw [if_pos e]; exact ⟨h0, h6⟩
    · rw [if_neg e]; exact hI.rg k hk
  · by_cases e : k = page
    · subst e; exact fun _ => hm
    · rw [if_neg e]; exact hI.at_ k hk
theorem place3 (fs : List Int) (j page : Nat) (d : DsD) (hp : page < 64) (hf : fs = [0, 1, 2, (3 + (j : Nat) : Int)]) : (⟨fs, d, true⟩ : WkD).place page = (3 + j) * 8 + page % 8 := by
  subst hf
  show atN (3 + (j : Int)) 3 page = _
  unfold atN
  rw [(idx_0 page hp).2.2.2]
  omega
theorem putL_getD {ws : List Nat} {q level p : Nat} {d : DsD} (hq : q < ws.length) : (putL ws q level d).getD p 0 = if p = q then d.word 2 level else ws.getD p 0 := getD_setN hq
theorem note_0 : (noteD 3).word 2 3 = lfW (-1) := by decide +kernel
theorem leafW_pos {x : Int} (h : 0 < x) : (lfD x).word 2 3 = lfW x := by unfold lfW; rw [if_neg (by omega), if_neg (by omega)]
theorem pb_unmap {a : List Nat} {hv : List Int} (hI : PbI a hv) {page : Nat} (hp : page < 64) (hh : 0 < hv.getD page 0) : unmapL (pbM a hv) 0 page 3 = (⟨pbM a (hv.set page (-1)), [], 0⟩, lfD (hv.getD page 0)) := by
  have hm := hI.at_ page hp (by omega)
  have hl := hI.le
  have hj := (idx_lt hm).1
  unfold unmapL
  rw [pb_way2 hI hp hm]
  dsimp only
  rw [place3 _ _ page _ hp rfl]
  have hd : pbD (hv.getD page 0) = lfD (hv.getD page 0) := by unfold pbD; rw [if_neg (by omega), if_neg (by omega)]
  rw [hd]
  have he : putL (pbM a hv) ((3 + a.idxOf (page / 8)) * 8 + page % 8) 3 (noteD 3) = pbM a (hv.set page (-1)) := by
    refine pb_ext (by rw [putL_len, pbM_len]) fun g s hg hs => ?_
    rw [putL_getD (by rw [pbM_len]; omega), pbM_at _ _ (by omega), pbW_set hI hp hm _ _ _ hs, note_0]
  rw [he]
  rfl
def pbA (a : List Nat) (page : Nat) : List Nat := if page / 8 ∈ a then a else a ++ [page / 8]
theorem free_0 : freeL 192 [0] pbFull = true := by decide +kernel
theorem free_1 : ∀ n : Nat, n < 8 → freeL 192 [0, 1, 2] (pbFull.drop (2 + n)) = true := by decide +kernel
theorem free_2 : ∀ n : Nat, n < 9 → ∀ j : Nat, j < n → freeL 192 [0, 1, 2, (3 + (j : Nat) : Int)] (pbFull.drop (2 + n)) = true := by decide +kernel
theorem pbF_ne {a : List Nat} (h : a ≠ []) : pbF a = pbFull.drop (2 + a.length) := by unfold pbF; rw [if_neg h]
theorem pb_nil {hv : List Int} (hI : PbI [] hv) {k : Nat} (hk : k < 64) : hv.getD k 0 = 0 := Decidable.byContradiction fun h => by have := hI.at_ k hk h; simp at this
theorem leafD_kind (x : Int) : (lfD x).kind = 2 := rfl
theorem pb_map2 {a : List Nat} {hv : List Int} (hI : PbI a hv) {page : Nat} (hp : page < 64) (hh : hv.getD page 0 ≤ 0) {x : Int} (h0 : 0 < x) (hm : page / 8 ∈ a) : mapL (pbM a hv) 0 (pbF a) page (lfD x) = ⟨pbM a (hv.set page x), pbF a, 0⟩ := by
  have ha : a ≠ [] := by rintro rfl; simp at hm
  have hl := hI.le
  have hj := (idx_lt hm).1
  unfold mapL
  rw [pb_way2 hI hp hm, pbM_len, pbF_ne ha]
  dsimp only
  rw [free_2 a.length (by omega) _ hj]
  have hk0 : (pbD (hv.getD page 0)).kind = 0 := by
    unfold pbD
    by_cases e : hv.getD page 0 = 0
    · rw [if_pos e]; rfl
    · rw [if_neg e, if_pos (by omega)]; rfl
  generalize pbD (hv.getD page 0) = D at hk0
  have hlen : decide (pbFull.length - (2 + a.length) + 4 < 4) = false := decide_eq_false (by omega)
  rw [place3 _ _ page _ hp rfl]
  have he : putL (pbM a hv) ((3 + a.idxOf (page / 8)) * 8 + page % 8) 3 (lfD x) = pbM a (hv.set page x) := by
    refine pb_ext (by rw [putL_len, pbM_len]) fun g s hg hs => ?_
    rw [putL_getD (by rw [pbM_len]; omega), pbM_at _ _ (by omega), pbW_set hI hp hm _ _ _ hs, leafW_pos (by omega)]
  simp [hk0, WkD.lv, linkL, he, hlen]
theorem PbI.add {a : List Nat} {hv : List Int} (hI : PbI a hv) {i : Nat} (hi : i < 8) (hm : i ∉ a) : PbI (a ++ [i]) hv := by
  refine ⟨List.nodup_append.2 ⟨hI.nd, by simp, fun x hx y hy => ?_⟩, fun j hj => ?_, hI.len, hI.rg, fun k hk h => List.mem_append_left _ (hI.at_ k hk h)⟩
  · simp only [List.mem_singleton] at hy
    subst hy; rintro rfl; exact hm hx
  · rcases List.mem_append.1 hj with h | h
    · exact hI.lt j h
    · simp only [List.mem_singleton] at h; omega
/-- A table of the last level is new: the words with it, ahead of the page. -/
theorem pbW_add {a : List Nat} {hv : List Int} (hI : PbI a hv) {i : Nat} (hi : i < 8) (hm : i ∉ a) (ha : a ≠ []) (g s : Nat) (hs : s < 8) : pbW (a ++ [i]) hv (g * 8 + s) = if g * 8 + s = 16 + i then (tabD (3 + (a.length : Nat) : Int)).word 2 2 else if g = 3 + a.length then 0 else pbW a hv (g * 8 + s) := by
  have e16 : g * 8 + s = 16 + i ↔ g = 2 ∧ s = i := by omega
  rw [pbW_at _ _ g s hs, pbW_at _ _ g s hs]
  simp only [e16]
  by_cases g0 : g = 0
  · subst g0; simp [ha, show ¬ 0 = 3 + a.length by omega]
  by_cases g1 : g = 1
  · subst g1; simp [ha, show ¬ 1 = 3 + a.length by omega]
  by_cases g2 : g = 2
  · subst g2
    by_cases e : s = i
    · subst e
      simp [List.idxOf_append, hm]
    · by_cases e2 : s ∈ a
      · simp [e, e2, List.idxOf_append, show ¬ 2 = 3 + a.length by omega]
      · simp [e, e2, show ¬ 2 = 3 + a.length by omega]
  simp only [g0, g1, g2, false_and, if_false, List.length_append, List.length_singleton]
  by_cases e : g = 3 + a.length
  · subst e
    rw [show 3 + a.length - 3 = a.length by omega, if_pos (by omega), if_pos rfl]
    rw [show (a ++ [i]).getD a.length 0 = i by simp]
    have : hv.getD (8 * i + s) 0 = 0 := Decidable.byContradiction fun h => hm (by have := hI.at_ (8 * i + s) (by omega) h; rwa [show (8 * i + s) / 8 = i by omega] at this)
    rw [this]; rfl
  · rw [if_neg e]
    by_cases e2 : g - 3 < a.length
    · rw [if_pos (by omega), if_pos e2]
      rw [show (a ++ [i]).getD (g - 3) 0 = a.getD (g - 3) 0 by simp [List.getD_eq_getElem?_getD, List.getElem?_append_left e2]]
    · rw [if_neg (by omega), if_neg e2]
theorem place1 (page : Nat) (d : DsD) (hp : page < 64) : (⟨[0, 1, 2], d, true⟩ : WkD).place page = 16 + page / 8 := by
  show atN 2 2 page = _
  unfold atN
  rw [(idx_0 page hp).2.2.1]
  rfl
theorem full_at : ∀ n : Nat, n < 8 → (pbFull.drop (2 + n)).take 1 = [(3 + (n : Nat) : Int)] ∧ pbFull.drop (2 + n + 1) = (pbFull.drop (2 + n)).drop 1 := by decide
theorem pb_map1 {a : List Nat} {hv : List Int} (hI : PbI a hv) {page : Nat} (hp : page < 64) {x : Int} (h0 : 0 < x) (h6 : x ≤ 60) (ha : a ≠ []) (hm : page / 8 ∉ a) : mapL (pbM a hv) 0 (pbF a) page (lfD x) = ⟨pbM (a ++ [page / 8]) (hv.set page x), pbF (a ++ [page / 8]), 0⟩ := by
  have hI2 := hI.add (i := page / 8) (by omega) hm
  have hl := hI2.le
  rw [List.length_append, List.length_singleton] at hl
  obtain ⟨f1, f2⟩ := full_at a.length (by omega)
  unfold mapL
  rw [pb_way1 hv ha hp hm, pbM_len, pbF_ne ha, pbF_ne (by simp)]
  dsimp only
  rw [free_1 a.length (by omega)]
  have hlen : decide (pbFull.length - (2 + a.length) + 3 < 4) = false := decide_eq_false (by show ¬ (15 - _ + 3 < 4); omega)
  rw [place1 page _ hp]
  have he : putL (putL (zeroF (pbM a hv) (3 + (a.length : Int))) (16 + page / 8) 2 (tabD (3 + (a.length : Int)))) (atN (3 + (a.length : Int)) 3 page) 3 (lfD x) = pbM (a ++ [page / 8]) (hv.set page x) := by
    have hat : atN (3 + (a.length : Int)) 3 page = (3 + a.length) * 8 + page % 8 := by
      unfold atN; rw [(idx_0 page hp).2.2.2]; omega
    rw [hat]
    refine pb_ext (by rw [putL_len, putL_len, zeroF_len, pbM_len]) fun g s hg hs => ?_
    have hix : (a ++ [page / 8]).idxOf (page / 8) = a.length := by simp [List.idxOf_append, hm]
    rw [putL_getD (by rw [putL_len, zeroF_len, pbM_len]; omega), putL_getD (by rw [zeroF_len, pbM_len]; omega), getD_zeroF (g := 3 + a.length) (by omega) (by rw [pbM_len]; omega), pbM_at _ _ (by omega), pbW_set hI2 hp (by simp) _ _ _ hs, pbW_add hI (by omega) hm ha _ _ hs, hix, leafW_pos (by omega), show (g * 8 + s) / 8 = g by omega]
  have hA : (pbFull.drop (2 + a.length)).take (4 - ([0, 1, 2] : List Int).length) = [(3 + (a.length : Nat) : Int)] := f1
  have hB : decide ((pbFull.drop (2 + a.length)).length + ([0, 1, 2] : List Int).length < 4) = false := decide_eq_false (by rw [List.length_drop]; show ¬ (15 - _ + 3 < 4); omega)
  rw [hA, hB]
  show (⟨putL (putL (zeroF (pbM a hv) (3 + (a.length : Int))) (16 + page / 8) 2 (tabD (3 + (a.length : Int)))) (atN (3 + (a.length : Int)) 3 page) 3 (lfD x), (pbFull.drop (2 + a.length)).drop 1, 0⟩ : TbR) = _
  rw [he, ← f2, List.length_append, List.length_singleton, Nat.add_assoc]
theorem pb_map0 {hv : List Int} (hI : PbI [] hv) {page : Nat} (hp : page < 64) {x : Int} (h0 : 0 < x) (h6 : x ≤ 60) : mapL (pbM [] hv) 0 (pbF []) page (lfD x) = ⟨pbM [page / 8] (hv.set page x), pbF [page / 8], 0⟩ := by
  have hI2 : PbI [page / 8] hv := hI.add (i := page / 8) (by omega) (by simp)
  unfold mapL
  rw [pb_way0 hv hp, pbM_len]
  dsimp only
  rw [show freeL 192 [0] (pbF []) = true from free_0]
  have he : putL (putL (zeroF (putL (zeroF (putL (zeroF (pbM [] hv) 1) 0 0 (tabD 1)) 2) (atN 1 1 page) 1 (tabD 2)) 3) (atN 2 2 page) 2 (tabD 3)) (atN 3 3 page) 3 (lfD x) = pbM [page / 8] (hv.set page x) := by
    obtain ⟨i0, i1, i2, i3⟩ := idx_0 page hp
    rw [show atN 1 1 page = 8 by unfold atN; rw [i1]; rfl, show atN 2 2 page = 16 + page / 8 by unfold atN; rw [i2]; rfl, show atN 3 3 page = 24 + page % 8 by unfold atN; rw [i3]; rfl]
    refine pb_ext (by simp only [putL_len, zeroF_len, pbM_len]) fun g s hg hs => ?_
    rw [putL_getD (by simp only [putL_len, zeroF_len, pbM_len]; omega), putL_getD (by simp only [putL_len, zeroF_len, pbM_len]; omega), getD_zeroF (g := 3) (by omega) (by simp only [putL_len, zeroF_len, pbM_len]; omega), putL_getD (by simp only [putL_len, zeroF_len, pbM_len]; omega), getD_zeroF (g := 2) (by omega) (by simp only [putL_len, zeroF_len, pbM_len]; omega), putL_getD (by simp only [putL_len, zeroF_len, pbM_len]; omega), getD_zeroF (g := 1) (by omega) (by simp only [putL_len, zeroF_len, pbM_len]; omega), pbM_at _ _ (by omega), pbW_set hI2 hp (by simp) _ _ _ hs, leafW_pos (by omega), show (g * 8 + s) / 8 = g by omega, pbW_at _ _ g s hs, pbW_at _ _ g s hs]
    have hn : ∀ k, k < 64 → hv.getD k 0 = 0 := fun k hk => pb_nil hI hk
    have h8 := hn (8 * (page / 8) + s) (by omega)
    rw [show (([page / 8] : List Nat).idxOf (page / 8)) = 0 by simp, show (3 + 0) * 8 + page % 8 = 24 + page % 8 from rfl]
    have c1 : g * 8 + s = 24 + page % 8 ↔ g = 3 ∧ s = page % 8 := by omega
    have c2 : g * 8 + s = 16 + page / 8 ↔ g = 2 ∧ s = page / 8 := by omega
    have c3 : g * 8 + s = 8 ↔ g = 1 ∧ s = 0 := by omega
    have c4 : g * 8 + s = 0 ↔ g = 0 ∧ s = 0 := by omega
    simp only [c1, c2, c3, c4]
    have hl0 : lfW 0 = 0 := rfl
    by_cases g3 : g = 3
    · subst g3
      by_cases e : s = page % 8
      · subst e; simp
      · simp only [e, and_false, if_false, if_true, List.length_singleton, List.getD_cons_zero, h8, hl0, show ¬ 3 = 0 by decide, show ¬ 3 = 1 by decide, show ¬ 3 = 2 by decide, false_and, show 3 - 3 < 1 by decide, show 3 - 3 = 0 from rfl]
    by_cases g0 : g = 0
    · subst g0; simp
    by_cases g1 : g = 1
    · subst g1; simp
    by_cases g2 : g = 2
    · subst g2
      by_cases e : s = page / 8
      · subst e; simp
      · simp [e]
    simp [g0, g1, g2, g3, show ¬ g - 3 = 0 by omega]
  have hL : linkL page [1, 2, 3] 0 0 (pbM [] hv) = (atN 3 3 page, putL (zeroF (putL (zeroF (putL (zeroF (pbM [] hv) 1) 0 0 (tabD 1)) 2) (atN 1 1 page) 1 (tabD 2)) 3) (atN 2 2 page) 2 (tabD 3)) := rfl
  rw [show (pbF []).take (4 - ([0] : List Int).length) = [1, 2, 3] from rfl, show decide ((pbF []).length + ([0] : List Int).length < 4) = false from rfl, show (⟨[0], noDs, true⟩ : WkD).place page = 0 from (by show atN 0 0 page = 0; unfold atN; rw [(idx_0 page hp).1]; rfl), show (⟨[0], noDs, true⟩ : WkD).lv = 0 from rfl, show (pbF []).drop (4 - ([0] : List Int).length) = pbF [page / 8] from rfl, hL]
  dsimp only
  rw [he]
  rfl
theorem pb_map {a : List Nat} {hv : List Int} (hI : PbI a hv) {page : Nat} (hp : page < 64) (hh : hv.getD page 0 ≤ 0) {x : Int} (h0 : 0 < x) (h6 : x ≤ 60) : mapL (pbM a hv) 0 (pbF a) page (lfD x) = ⟨pbM (pbA a page) (hv.set page x), pbF (pbA a page), 0⟩ ∧ PbI (pbA a page) (hv.set page x) := by
  unfold pbA
  by_cases hm : page / 8 ∈ a
  · rw [if_pos hm]
    exact ⟨pb_map2 hI hp hh h0 hm, hI.set hp hm (by omega) h6⟩
  · rw [if_neg hm]
    refine ⟨?_, (hI.add (by omega) hm).set hp (by simp) (by omega) h6⟩
    by_cases ha : a = []
    · subst ha; exact pb_map0 hI hp h0 h6
    · exact pb_map1 hI hp h0 h6 ha hm
theorem pb_get {a : List Nat} {hv : List Int} (hI : PbI a hv) {page : Nat} (hp : page < 64) : (getL (pbM a hv) 0 page).e = 0 ∧ (getL (pbM a hv) 0 page).d = pbD (hv.getD page 0) ∧ (hv.getD page 0 ≠ 0 → (getL (pbM a hv) 0 page).level = 3) := by
  unfold getL
  by_cases hm : page / 8 ∈ a
  · rw [pb_way2 hI hp hm]
    exact ⟨rfl, rfl, fun _ => rfl⟩
  · have h0 : hv.getD page 0 = 0 := Decidable.byContradiction fun h => hm (hI.at_ page hp h)
    rw [h0]
    by_cases ha : a = []
    · subst ha; rw [pb_way0 hv hp]; exact ⟨rfl, rfl, fun h => absurd rfl h⟩
    · rw [pb_way1 hv ha hp hm]; exact ⟨rfl, rfl, fun h => absurd rfl h⟩
theorem pb_kind (h : Int) : (decide ((pbD h).kind = 2) = decide (0 < h)) ∧ (0 < h → (pbD h).frame = h) := by
  unfold pbD
  by_cases e : h = 0
  · subst e; exact ⟨rfl, fun h => absurd h (by decide)⟩
  · rw [if_neg e]
    by_cases e2 : h < 0
    · rw [if_pos e2]
      refine ⟨?_, fun h => absurd h (by omega)⟩
      rw [decide_eq_false (by omega : ¬ 0 < h)]; rfl
    · rw [if_neg e2]
      refine ⟨?_, fun _ => rfl⟩
      rw [decide_eq_true (by omega : 0 < h)]; rfl
theorem pbM_64 {a : List Nat} {hv : List Int} : ∀ x ∈ pbM a hv, x < 18446744073709551616 := by
  intro x hx
  obtain ⟨p, _, rfl⟩ := List.mem_map.1 hx
  unfold pbW lfW
  repeat' split
  all_goals first | exact DsD.word_lt _ _ _ | decide
end Go.Proofs.Ytiggoglimlnmmaa
