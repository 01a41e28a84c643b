/- Layer 16 (pgt), plain: walks, tables linked, pages mapped. -/
import Derived.Test.YtiaelhhmlbfkmaaGreatDsC
namespace Go.Proofs.YtiaelhhmlbfkmaaGreat
open Go.RowKit
set_option linter.unusedVariables false
set_option linter.unusedSimpArgs false
set_option maxRecDepth 20000
/-- Is a frame in a memory of so many words? -/
def hasF (n : Nat) (f : Int) : Bool := decide (0 ≤ f) && decide (f < ((n / 8 : Nat) : Int))
def atN (f : Int) (level page : Nat) : Nat := f.toNat * 8 + indexN level page
def dAt (ws : List Nat) (p level : Nat) : DsD := ofL 2 level (ws.getD p 0)
/-- A walk: the tables, what it ends at, whether all were there. -/
structure WkD where
  fs : List Int
  d : DsD
  ok : Bool
deriving Inhabited
def walkL (ws : List Nat) (page down : Nat) : Nat → Nat → Int → List Int → DsD → WkD
  | 0, _, _, fs, d => ⟨fs, d, false⟩
  | k + 1, level, f, fs, d => bif hasF ws.length f then
      (bif !decide ((dAt ws (atN f level page) level).kind = 1) || decide (level = down) then ⟨fs ++ [f], dAt ws (atN f level page) level, true⟩
      else walkL ws page down k (level + 1) (dAt ws (atN f level page) level).frame (fs ++ [f]) (dAt ws (atN f level page) level))
    else ⟨fs, d, false⟩
def wayL (ws : List Nat) (root : Int) (page down : Nat) : WkD := walkL ws page down 4 0 root [] noDs
def WkD.lv (w : WkD) : Nat := w.fs.length - 1
def WkD.place (w : WkD) (page : Nat) : Nat := atN (w.fs.getD w.lv 0) w.lv page
theorem indexN_lt (level page : Nat) : indexN level page < 8 := Nat.mod_lt _ (by decide)
theorem hasF_iff {n : Nat} {f : Int} (h : hasF n f = true) : 0 ≤ f ∧ f.toNat < n / 8 ∧ (f.toNat : Int) = f := by
  simp only [hasF, Bool.and_eq_true, decide_eq_true_eq] at h
  omega
theorem atN_lt {n : Nat} {f : Int} {level page : Nat} (h : hasF n f = true) : atN f level page < n := by
  have h1 := hasF_iff h
  have h2 := indexN_lt level page
  unfold atN
  omega
theorem may_kinds {stage : Int} {level : Nat} {d : DsD} (h : d.may stage level = true) : (d.kind = 0 ∨ d.kind = 1 ∨ d.kind = 2) ∧ (d.kind = 0 → d.frame = 0 ∧ 0 ≤ d.note ∧ d.note ≤ 15) ∧ (d.kind = 1 → level < 3 ∧ 0 ≤ d.frame ∧ d.frame ≤ 4095 ∧ d.note = 0) ∧ (d.kind = 2 → 0 < level ∧ 0 ≤ d.frame ∧ d.frame ≤ 4095 ∧ d.note = 0 ∧ d.frame.toNat % coversN level = 0) := by
  unfold DsD.may at h
  by_cases h0 : d.kind = 0
  · simp only [h0, decide_true, cond_true, Bool.and_eq_true, Bool.or_eq_true, decide_eq_true_eq] at h
    refine ⟨.inl h0, fun _ => ⟨h.1.1, ?_⟩, fun e => absurd e (by omega), fun e => absurd e (by omega)⟩
    rcases h.2 with e | ⟨_, e⟩
    · omega
    · simp only [PtD.btw, Bool.and_eq_true, decide_eq_true_eq] at e; omega
  · by_cases h1 : d.kind = 1
    · simp only [h1, decide_true, cond_true, Bool.and_eq_true, decide_eq_true_eq, show decide ((1 : Int) = 0) = false from rfl, cond_false, PtD.btw] at h
      refine ⟨.inr (.inl h1), fun e => absurd e (by omega), fun _ => ⟨h.1.2, h.2.1, h.2.2, h.1.1.2⟩, fun e => absurd e (by omega)⟩
    · by_cases h2 : d.kind = 2
      · simp only [h2, decide_true, cond_true, Bool.and_eq_true, decide_eq_true_eq, show decide ((2 : Int) = 0) = false from rfl, show decide ((2 : Int) = 1) = false from rfl, cond_false, PtD.btw] at h
        refine ⟨.inr (.inr h2), fun e => absurd e (by omega), fun e => absurd e (by omega), fun _ => ⟨h.1.1.2, h.1.2.1, h.1.2.2, h.1.1.1.1, h.2⟩⟩
      · simp [h0, h1, h2] at h
theorem dAt_may (ws : List Nat) (p level : Nat) : (dAt ws p level).may 2 level = true := ofL_may _ _ _
theorem dAt_tab {ws : List Nat} {p level : Nat} (h : (dAt ws p level).kind = 1) : level < 3 := ((may_kinds (dAt_may ws p level)).2.2.1 h).1
/-- What a walk that ends tells. -/
structure WkD.Fine (w : WkD) (ws : List Nat) (page down : Nat) : Prop where
  pos : 0 < w.fs.length
  le : w.fs.length ≤ 4
  has : ∀ f ∈ w.fs, hasF ws.length f = true
  d : w.d = dAt ws (w.place page) w.lv
  stop : w.d.kind = 1 → w.lv = down
theorem walkL_fine {ws : List Nat} {page down : Nat} : ∀ (k level : Nat) (f : Int) (fs : List Int) (d : DsD), fs.length = level → level + k = 4 → (∀ f ∈ fs, hasF ws.length f = true) → (walkL ws page down k level f fs d).ok = true → (walkL ws page down k level f fs d).Fine ws page down := by
  intro k
  induction k with
  | zero => intro level f fs d _ _ _ h; simp [walkL] at h
  | succ k ih =>
    intro level f fs d hl hk hf h
    rw [walkL] at h ⊢
    cases hh : hasF ws.length f with
    | false => rw [hh] at h; simp at h
    | true =>
      rw [hh] at h
      simp only [cond_true] at h ⊢
      have hall : ∀ g ∈ fs ++ [f], hasF ws.length g = true := by
        intro g hg
        rcases List.mem_append.1 hg with hg | hg
        · exact hf g hg
        · obtain rfl := List.mem_singleton.1 hg; exact hh
      cases hc : (!decide ((dAt ws (atN f level page) level).kind = 1) || decide (level = down)) with
      | true =>
        have hlv : (fs ++ [f]).length - 1 = level := by simp [hl]
        have hget : (fs ++ [f]).getD level 0 = f := by rw [List.getD_eq_getElem?_getD, List.getElem?_append_right (by omega), hl]; simp
        simp only [cond_true]
        refine ⟨by simp, by simp [hl]; omega, hall, ?_, fun hk1 => ?_⟩
        · simp only [WkD.place, WkD.lv, hlv, hget]
        · simp only [WkD.lv, hlv]
          have hk2 : (dAt ws (atN f level page) level).kind = 1 := hk1
          simp only [hk2, decide_true, Bool.not_true, Bool.false_or, decide_eq_true_eq] at hc
          exact hc
      | false =>
        rw [hc] at h
        simp only [cond_false] at h ⊢
        exact ih _ _ _ _ (by simp [hl]) (by omega) hall h
theorem wayL_fine {ws : List Nat} {root : Int} {page down : Nat} (h : (wayL ws root page down).ok = true) : (wayL ws root page down).Fine ws page down := walkL_fine 4 0 root [] noDs rfl rfl (by simp) h
theorem walkL_head {ws : List Nat} {page down : Nat} : ∀ (k level : Nat) (f : Int) (fs : List Int) (d : DsD) (r : Int), fs.head? = some r → (walkL ws page down k level f fs d).fs.head? = some r := by
  intro k
  induction k with
  | zero => intro level f fs d r h; exact h
  | succ k ih =>
    intro level f fs d r h
    rw [walkL]
    cases hasF ws.length f with
    | false => exact h
    | true =>
      simp only [cond_true]
      have h2 : (fs ++ [f]).head? = some r := by cases fs with | nil => cases h | cons a l => simpa using h
      cases (!decide ((dAt ws (atN f level page) level).kind = 1) || decide (level = down)) with
      | true => exact h2
      | false => exact ih _ _ _ _ _ h2
/-- The first table is the root. -/
theorem wayL_root {ws : List Nat} {root : Int} {page down : Nat} (h : (wayL ws root page down).ok = true) : root ∈ (wayL ws root page down).fs := by
  have : (wayL ws root page down).fs.head? = some root := by
    unfold wayL at h ⊢
    rw [walkL] at h ⊢
    cases hh : hasF ws.length root with
    | false => rw [hh] at h; simp at h
    | true =>
      simp only [cond_true]
      cases (!decide ((dAt ws (atN root 0 page) 0).kind = 1) || decide (0 = down)) with
      | true => rfl
      | false => exact walkL_head _ _ _ _ _ _ rfl
  exact List.mem_of_mem_head? (by rw [this]; rfl)
/-- May frames be taken for tables? -/
def freeAt (n : Nat) (fs l : List Int) (i : Nat) : Bool := hasF n (l.getD i 0) && !(l.take i).any (fun t => decide (t = l.getD i 0)) && !fs.any (fun t => decide (t = l.getD i 0))
def freeL (n : Nat) (fs l : List Int) : Bool := (List.range l.length).all (freeAt n fs l)
theorem freeL_true {n : Nat} {fs l : List Int} (h : ∀ i, i < l.length → freeAt n fs l i = true) : freeL n fs l = true := List.all_eq_true.2 fun i hi => h i (List.mem_range.1 hi)
theorem freeL_false {n : Nat} {fs l : List Int} {i : Nat} (hi : i < l.length) (h : freeAt n fs l i = false) : freeL n fs l = false := by
  cases hf : freeL n fs l with
  | false => rfl
  | true => have := List.all_eq_true.1 hf i (List.mem_range.2 hi); rw [h] at this; cases this
theorem freeL_has {n : Nat} {fs l : List Int} (h : freeL n fs l = true) {i : Nat} (hi : i < l.length) : hasF n (l.getD i 0) = true := by
  have := List.all_eq_true.1 h i (List.mem_range.2 hi)
  simp only [freeAt, Bool.and_eq_true] at this
  exact this.1.1
def putL (ws : List Nat) (p level : Nat) (d : DsD) : List Nat := ws.set p (d.word 2 level)
def tabD (f : Int) : DsD := ⟨1, f, false, false, false, false, false, 0, 0⟩
def noteD (n : Int) : DsD := ⟨0, 0, false, false, false, false, false, 0, n⟩
/-- Noughts in a frame. -/
def zeroK (ws : List Nat) (o : Nat) : Nat → List Nat
  | 0 => ws
  | k + 1 => (zeroK ws o k).set (o + k) 0
def zeroF (ws : List Nat) (f : Int) : List Nat := zeroK ws (f.toNat * 8) 8
theorem zeroK_len (ws : List Nat) (o k : Nat) : (zeroK ws o k).length = ws.length := by
  induction k with
  | zero => rfl
  | succ k ih => rw [zeroK, List.length_set, ih]
theorem zeroF_len (ws : List Nat) (f : Int) : (zeroF ws f).length = ws.length := zeroK_len _ _ _
theorem putL_len (ws : List Nat) (p level : Nat) (d : DsD) : (putL ws p level d).length = ws.length := List.length_set ..
/-- Tables linked: the place of the last one's descriptor, the words. -/
def linkL (page : Nat) : List Int → Nat → Nat → List Nat → Nat × List Nat
  | [], p, _, ws => (p, ws)
  | f :: r, p, level, ws => linkL page r (atN f (level + 1) page) (level + 1) (putL (zeroF ws f) p level (tabD f))
theorem linkL_len (page : Nat) : ∀ (l : List Int) (p level : Nat) (ws : List Nat), (linkL page l p level ws).2.length = ws.length := by
  intro l
  induction l with
  | nil => intro p level ws; rfl
  | cons f r ih => intro p level ws; rw [linkL, ih, putL_len, zeroF_len]
theorem linkL_lt (page : Nat) : ∀ (l : List Int) (p level : Nat) (ws : List Nat), p < ws.length → (∀ f ∈ l, hasF ws.length f = true) → (linkL page l p level ws).1 < ws.length := by
  intro l
  induction l with
  | nil => intro p level ws h _; exact h
  | cons f r ih =>
    intro p level ws h hf
    have hl : (putL (zeroF ws f) p level (tabD f)).length = ws.length := by rw [putL_len, zeroF_len]
    rw [linkL]
    have := ih (atN f (level + 1) page) (level + 1) (putL (zeroF ws f) p level (tabD f)) (by rw [hl]; exact atN_lt (hf f (List.mem_cons_self ..))) (fun g hg => by rw [hl]; exact hf g (List.mem_cons_of_mem _ hg))
    rwa [hl] at this
/-- A memory and what is left, or an error. -/
structure TbR where
  ws : List Nat
  left : List Int
  e : Int
deriving Inhabited
def badM (e : Int) : TbR := ⟨[], [], e⟩
def mapL (ws : List Nat) (root : Int) (free : List Int) (page : Nat) (d : DsD) : TbR :=
  let w := wayL ws root page 3
  bif !(w.ok && freeL ws.length w.fs free) then badM 2
  else bif decide (w.d.kind = 2) || (decide (w.fs.length < 4) && !decide (w.d.note = 0)) then badM 4
  else bif decide (free.length + w.fs.length < 4) then badM 5
  else let r := linkL page (free.take (4 - w.fs.length)) (w.place page) w.lv ws
    ⟨putL r.2 r.1 3 d, free.drop (4 - w.fs.length), 0⟩
def putM (ws : List Nat) (root : Int) (page level : Nat) (d : DsD) : TbR :=
  let w := wayL ws root page level
  bif !w.ok then badM 2 else bif !decide (w.lv = level) then badM 3 else ⟨putL ws (w.place page) level d, [], 0⟩
def unmapL (ws : List Nat) (root : Int) (page : Nat) (note : Int) : TbR × DsD :=
  let w := wayL ws root page 3
  bif !w.ok then (badM 2, noDs) else bif !decide (w.d.kind = 2) || !decide (w.lv = 3) then (badM 3, noDs)
  else (⟨putL ws (w.place page) 3 (noteD note), [], 0⟩, w.d)
def eightL (ws : List Nat) (o level : Nat) (d : DsD) : Nat → List Nat
  | 0 => ws
  | k + 1 => putL (eightL ws o level d k) (o + k) level { d with frame := d.frame + ((k * coversN level : Nat) : Int) }
theorem eightL_len (ws : List Nat) (o level : Nat) (d : DsD) (k : Nat) : (eightL ws o level d k).length = ws.length := by
  induction k with
  | zero => rfl
  | succ k ih => rw [eightL, putL_len, ih]
def splitL (ws : List Nat) (root : Int) (free : List Int) (page : Nat) : TbR :=
  let w := wayL ws root page 3
  bif !(w.ok && freeL ws.length w.fs free) then badM 2
  else bif !decide (w.d.kind = 2) || decide (w.lv = 3) then badM 3
  else bif free.isEmpty then badM 5
  else ⟨putL (eightL ws ((free.getD 0 0).toNat * 8) (w.lv + 1) w.d 8) (w.place page) w.lv (tabD (free.getD 0 0)), free.drop 1, 0⟩
structure GtD where
  d : DsD
  level : Nat
  e : Int
def getL (ws : List Nat) (root : Int) (page : Nat) : GtD :=
  let w := wayL ws root page 3
  bif w.ok then ⟨w.d, w.lv, 0⟩ else ⟨noDs, 0, 2⟩
theorem tabD_may {level : Nat} {f : Int} (hl : level < 3) (h0 : 0 ≤ f) (h1 : f ≤ 4095) : (tabD f).may 2 level = true := by
  simp [DsD.may, tabD, DsD.bare, PtD.btw, hl, h0, h1]
theorem noteD_may {level : Nat} {n : Int} (h0 : 0 ≤ n) (h1 : n ≤ 15) : (noteD n).may 2 level = true := by
  simp [DsD.may, noteD, DsD.bare, PtD.btw, h0, h1]
/-- A block's parts may be, one level beneath. -/
theorem part_may {level : Nat} {d : DsD} (hd : d.may 2 level = true) (hk : d.kind = 2) (hl : level < 3) {k : Nat} (h8 : k < 8) : ({ d with frame := d.frame + ((k * coversN (level + 1) : Nat) : Int) } : DsD).may 2 (level + 1) = true := by
  obtain ⟨_, _, _, h2⟩ := may_kinds hd
  obtain ⟨p1, p2, p3, p4, p5⟩ := h2 hk
  unfold DsD.may at hd ⊢
  simp only [hk, decide_true, cond_true, Bool.and_eq_true, decide_eq_true_eq, show decide ((2 : Int) = 0) = false from rfl, show decide ((2 : Int) = 1) = false from rfl, cond_false, PtD.btw] at hd ⊢
  obtain ⟨⟨⟨⟨q1, q2⟩, q3⟩, q4⟩, q5⟩ := hd
  have hc : ∀ l, l < 3 → 0 < l → ∀ k, k < 8 → ∃ m, coversN l = 8 * m ∧ coversN (l + 1) = m ∧ 0 < m ∧ 4096 % (8 * m) = 0 ∧ m ∣ 64 := by
    intro l hl h0 k hk
    obtain rfl | rfl : l = 1 ∨ l = 2 := by omega
    · exact ⟨8, by decide⟩
    · exact ⟨1, by decide⟩
  obtain ⟨m, e1, e2, e3, e4, e5⟩ := hc level hl p1 k h8
  rw [e1] at p5
  rw [e2]
  have hz : (d.frame.toNat : Int) = d.frame := by omega
  have ht : (d.frame + ((k * m : Nat) : Int)).toNat = d.frame.toNat + k * m := by omega
  have hkm : k * m ≤ 7 * m := Nat.mul_le_mul_right _ (by omega)
  have hle : d.frame.toNat + 8 * m ≤ 4096 := by
    generalize hq : d.frame.toNat = x at *
    have h3 : (8 * m) ∣ x := Nat.dvd_of_mod_eq_zero p5
    have h4 : (8 * m) ∣ 4096 := Nat.dvd_of_mod_eq_zero e4
    have h5 : x < 4096 := by omega
    exact Nat.le_of_lt_add_of_dvd (by omega) (Nat.dvd_add h3 (Nat.dvd_refl _)) h4
  refine ⟨⟨⟨⟨q1, q2⟩, by omega⟩, ⟨by omega, by omega⟩⟩, ?_⟩
  rw [ht]
  have h3 : m ∣ d.frame.toNat := Nat.dvd_trans ⟨8, Nat.mul_comm _ _⟩ (Nat.dvd_of_mod_eq_zero p5)
  exact Nat.mod_eq_zero_of_dvd (Nat.dvd_add h3 ⟨k, Nat.mul_comm _ _⟩)
theorem way_tab {ws : List Nat} {root : Int} {page : Nat} (h : (wayL ws root page 3).ok = true) : (wayL ws root page 3).d.kind = 1 → False := by
  intro hk
  have hf := wayL_fine h
  have h3 := hf.stop hk
  rw [hf.d] at hk
  have := dAt_tab hk
  omega
end Go.Proofs.YtiaelhhmlbfkmaaGreat
