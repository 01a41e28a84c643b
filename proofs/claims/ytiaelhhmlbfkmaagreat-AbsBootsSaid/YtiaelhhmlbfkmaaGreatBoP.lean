/- Layer 20 (boot), plain: what is done in the first frames alone is done so in any memory; the host's first tables. -/
import Derived.Test.YtiaelhhmlbfkmaaGreatPgI
namespace Go.Proofs.YtiaelhhmlbfkmaaGreat
open Go.RowKit
set_option linter.unusedVariables false
set_option linter.unusedSimpArgs false
set_option maxRecDepth 20000
theorem hasF_mono {n m : Nat} {f : Int} (h : n ≤ m) (hf : hasF n f = true) : hasF m f = true := by
  simp only [hasF, Bool.and_eq_true, decide_eq_true_eq] at hf ⊢
  have := Nat.div_le_div_right (c := 8) h
  omega
theorem dAt_app {A Z : List Nat} {p level : Nat} (h : p < A.length) : dAt (A ++ Z) p level = dAt A p level := by
  unfold dAt
  rw [List.getD_eq_getElem?_getD, List.getD_eq_getElem?_getD, List.getElem?_append_left h]
theorem walkL_app {A Z : List Nat} {page down : Nat} : ∀ (k level : Nat) (f : Int) (fs : List Int) (d : DsD), (walkL A page down k level f fs d).ok = true → walkL (A ++ Z) page down k level f fs d = walkL A page down k level f fs d := by
  intro k
  induction k with
  | zero => intro level f fs d h; rfl
  | succ k ih =>
    intro level f fs d h
    simp only [walkL] at h ⊢
    cases hh : hasF A.length f with
    | false => simp [hh] at h
    | true =>
      have hh2 : hasF (A ++ Z).length f = true := hasF_mono (by simp) hh
      simp only [hh, hh2, cond_true, dAt_app (atN_lt hh)] at h ⊢
      cases hc : (!decide ((dAt A (atN f level page) level).kind = 1) || decide (level = down)) with
      | true => rfl
      | false =>
        rw [hc] at h
        exact ih _ _ _ _ h
theorem zeroK_app {A Z : List Nat} {o : Nat} : ∀ k, o + k ≤ A.length → zeroK (A ++ Z) o k = zeroK A o k ++ Z := by
  intro k
  induction k with
  | zero => intro _; rfl
  | succ k ih =>
    intro h
    rw [zeroK, ih (by omega), List.set_append_left _ _ (by rw [zeroK_len]; omega)]; rfl
theorem putL_app {A Z : List Nat} {p level : Nat} {d : DsD} (h : p < A.length) : putL (A ++ Z) p level d = putL A p level d ++ Z := List.set_append_left _ _ h
theorem linkL_app {Z : List Nat} (page : Nat) : ∀ (l : List Int) (p level : Nat) (A : List Nat), p < A.length → (∀ f ∈ l, hasF A.length f = true) → linkL page l p level (A ++ Z) = ((linkL page l p level A).1, (linkL page l p level A).2 ++ Z) := by
  intro l
  induction l with
  | nil => intro p level A _ _; rfl
  | cons f r ih =>
    intro p level A hp hf
    have hff := hf f (List.mem_cons_self ..)
    have h8 := (hasF_iff hff).2.1
    have hl : (putL (zeroF A f) p level (tabD f)).length = A.length := by rw [putL_len, zeroF_len]
    rw [linkL, linkL, show zeroF (A ++ Z) f = zeroF A f ++ Z from zeroK_app 8 (by omega), putL_app (by rw [zeroF_len]; exact hp)]
    exact ih _ _ _ (by rw [hl]; exact atN_lt hff) (fun g hg => by rw [hl]; exact hf g (List.mem_cons_of_mem _ hg))
theorem freeL_mono {n m : Nat} {fs l : List Int} (h : n ≤ m) (hf : freeL n fs l = true) : freeL m fs l = true := by
  refine freeL_true fun i hi => ?_
  have := List.all_eq_true.1 hf i (List.mem_range.2 hi)
  simp only [freeAt, Bool.and_eq_true] at this ⊢
  exact ⟨⟨hasF_mono h this.1.1, this.1.2⟩, this.2⟩
theorem mapL_app {A Z : List Nat} {root : Int} {free : List Int} {page : Nat} {d : DsD} (h : (mapL A root free page d).e = 0) : mapL (A ++ Z) root free page d = ⟨(mapL A root free page d).ws ++ Z, (mapL A root free page d).left, 0⟩ := by
  unfold mapL at h ⊢
  dsimp only at h ⊢
  cases hok : (wayL A root page 3).ok with
  | false => simp [hok, badM] at h
  | true =>
    have hfine := wayL_fine hok
    have e1 : wayL (A ++ Z) root page 3 = wayL A root page 3 := walkL_app _ _ _ _ _ hok
    rw [e1]
    simp only [hok, Bool.true_and] at h ⊢
    generalize hW : wayL A root page 3 = W at *
    cases hfr : freeL A.length W.fs free with
    | false => simp [hfr, badM] at h
    | true =>
      rw [freeL_mono (by simp) hfr]
      simp only [hfr, Bool.not_true, cond_false] at h ⊢
      cases h3 : (decide (W.d.kind = 2) || (decide (W.fs.length < 4) && !decide (W.d.note = 0))) with
      | true => simp [h3, badM] at h
      | false =>
        simp only [h3, cond_false] at h ⊢
        cases h4 : decide (free.length + W.fs.length < 4) with
        | true => simp [h4, badM] at h
        | false =>
          simp only [cond_false]
          have hp := hfine.place_lt
          have hall : ∀ f ∈ free.take (4 - W.fs.length), hasF A.length f = true := by
            intro f hf
            obtain ⟨i, hi, rfl⟩ := List.getElem_of_mem (List.mem_of_mem_take hf)
            have := freeL_has hfr hi
            rwa [List.getD_eq_getElem?_getD, List.getElem?_eq_getElem hi] at this
          rw [linkL_app page _ _ _ _ hp hall]
          dsimp only
          rw [putL_app (by rw [linkL_len]; exact linkL_lt page _ _ _ _ hp hall)]
theorem putM_app {A Z : List Nat} {root : Int} {page level : Nat} {d : DsD} (h : (putM A root page level d).e = 0) : putM (A ++ Z) root page level d = ⟨(putM A root page level d).ws ++ Z, [], 0⟩ := by
  unfold putM at h ⊢
  dsimp only at h ⊢
  cases hok : (wayL A root page level).ok with
  | false => simp [hok, badM] at h
  | true =>
    have hfine := wayL_fine hok
    have e1 : wayL (A ++ Z) root page level = wayL A root page level := walkL_app _ _ _ _ _ hok
    rw [e1]
    simp only [hok, Bool.not_true, cond_false] at h ⊢
    generalize hW : wayL A root page level = W at *
    cases h3 : decide (W.lv = level) with
    | false => simp [h3, badM] at h
    | true =>
      simp only [Bool.not_true, cond_false]
      rw [putL_app hfine.place_lt]
theorem mapL_len0 {A : List Nat} {root : Int} {free : List Int} {page : Nat} {d : DsD} (h : (mapL A root free page d).e = 0) : (mapL A root free page d).ws.length = A.length := by
  unfold mapL at h ⊢
  dsimp only at h ⊢
  revert h
  cases (!((wayL A root page 3).ok && freeL A.length (wayL A root page 3).fs free)) with
  | true => simp [badM]
  | false =>
    simp only [cond_false]
    cases (decide ((wayL A root page 3).d.kind = 2) || (decide ((wayL A root page 3).fs.length < 4) && !decide ((wayL A root page 3).d.note = 0))) with
    | true => simp [badM]
    | false =>
      simp only [cond_false]
      cases decide (free.length + (wayL A root page 3).fs.length < 4) with
      | true => simp [badM]
      | false => intro _; simp only [cond_false]; rw [putL_len, linkL_len]
theorem putM_len0 {A : List Nat} {root : Int} {page level : Nat} {d : DsD} (h : (putM A root page level d).e = 0) : (putM A root page level d).ws.length = A.length := by
  unfold putM at h ⊢
  dsimp only at h ⊢
  revert h
  cases (!(wayL A root page level).ok) with
  | true => simp [badM]
  | false =>
    simp only [cond_false]
    cases (!decide ((wayL A root page level).lv = level)) with
    | true => simp [badM]
    | false => intro _; simp only [cond_false]; rw [putL_len]
/-- A page's leaf. -/
def leafD (f soft : Int) : DsD := ⟨2, f, true, true, true, true, false, soft, 0⟩
def freeB : List Int := [1, 2, 3, 4, 5, 6, 7, 8, 9, 10, 11, 12, 13, 14, 15]
/-- .. so many pages mapped, in a memory of so many words. -/
def bMap (n : Nat) : Nat → TbR
  | 0 => ⟨List.replicate n 0, freeB, 0⟩
  | k + 1 => mapL (bMap n k).ws 0 (bMap n k).left k (leafD k 0)
/-- What the program lays at a page then. -/
def bD (F k : Nat) : Option DsD := bif decide (k < 16) then some (noteD 1) else bif decide (F ≤ k) then some noDs else none
def bPut (n F : Nat) : Nat → List Nat
  | 0 => (bMap n 64).ws
  | k + 1 => match bD F k with
    | some d => (putM (bPut n F k) 0 k 3 d).ws
    | none => bPut n F k
/-- What the document says of a page. -/
def ownD (own wth f : Int) : DsD :=
  bif decide (own = 0) && decide (wth = -2) then leafD f 0 else bif decide (own = 0) then leafD f 1 else bif decide (wth = 0) then leafD f 2
  else bif decide (own = -1) then noteD 1 else noteD (1 + own)
def tabK (n : Nat) (dd : Nat → DsD) : Nat → TbR
  | 0 => ⟨List.replicate n 0, freeB, 0⟩
  | k + 1 => ⟨(putM (mapL (tabK n dd k).ws 0 (tabK n dd k).left k (leafD k 0)).ws 0 k 3 (dd k)).ws, (mapL (tabK n dd k).ws 0 (tabK n dd k).left k (leafD k 0)).left, 0⟩
def bootD (F k : Nat) : DsD := bif decide (k < 16) then noteD 1 else bif decide (F ≤ k) then noDs else leafD k 0
/-- A memory, word by word. -/
def memF (n : Nat) (g : Nat → Nat) : List Nat := (List.range n).map g
theorem memF_len (n : Nat) (g : Nat → Nat) : (memF n g).length = n := by simp [memF]
theorem memF_get {n p : Nat} (g : Nat → Nat) (h : p < n) : (memF n g).getD p 0 = g p := by
  simp [memF, List.getD_eq_getElem?_getD, List.getElem?_range h]
theorem memF_congr {n : Nat} {g g' : Nat → Nat} (h : ∀ q, q < n → g q = g' q) : memF n g = memF n g' := List.map_congr_left fun q hq => h q (List.mem_range.1 hq)
theorem memF_set {n : Nat} (g : Nat → Nat) (p w : Nat) : (memF n g).set p w = memF n fun q => bif Nat.beq q p then w else g q := by
  apply List.ext_getElem?
  intro i
  rw [List.getElem?_set]
  simp only [memF, List.length_map, List.length_range, List.getElem?_map]
  by_cases hp : p = i
  · subst hp
    by_cases hl : p < n
    · simp [hl, List.getElem?_range hl]
    · simp [hl, List.getElem?_eq_none (show (List.range n).length ≤ p by simp; omega)]
  · have : Nat.beq i p = false := by
      cases h : Nat.beq i p with
      | false => rfl
      | true => exact absurd (Nat.eq_of_beq_eq_true h).symm hp
    rw [if_neg hp]
    by_cases hl : i < n
    · simp [List.getElem?_range hl, this]
    · simp [List.getElem?_eq_none (show (List.range n).length ≤ i by simp; omega)]
theorem memF_zeros {n : Nat} {g : Nat → Nat} {o : Nat} : ∀ k, (∀ q, o ≤ q → q < o + k → g q = 0) → zeroK (memF n g) o k = memF n g := by
  intro k
  induction k with
  | zero => intro _; rfl
  | succ k ih =>
    intro h
    rw [zeroK, ih (fun q h1 h2 => h q h1 (by omega)), memF_set]
    refine memF_congr fun q hq => ?_
    cases hb : Nat.beq q (o + k) with
    | false => rfl
    | true => rw [cond_true, Nat.eq_of_beq_eq_true hb, h _ (by omega) (by omega)]
theorem memF_zero (n : Nat) : List.replicate n 0 = memF n fun _ => 0 := by
  apply List.ext_getElem?
  intro i
  simp only [memF, List.getElem?_map, List.getElem?_replicate]
  by_cases hl : i < n
  · simp [hl, List.getElem?_range hl]
  · simp [hl, List.getElem?_eq_none (show (List.range n).length ≤ i by simp; omega)]
theorem memF_dAt {n p level : Nat} {g : Nat → Nat} (h : p < n) : dAt (memF n g) p level = ofL 2 level (g p) := by unfold dAt; rw [memF_get g h]
instance : DecidableEq DsD := fun a b => decidable_of_iff (a.kind = b.kind ∧ a.frame = b.frame ∧ a.r = b.r ∧ a.w = b.w ∧ a.x = b.x ∧ a.af = b.af ∧ a.ng = b.ng ∧ a.soft = b.soft ∧ a.note = b.note) (by cases a; cases b; simp)
def tabW (f : Nat) : Nat := (tabD (f : Int)).word 2 0
theorem tabW_lv (f level : Nat) : (tabD (f : Int)).word 2 level = tabW f := rfl
theorem tabW_of {f level : Nat} (hf : f < 16) (hl : level < 3) : ofL 2 level (tabW f) = tabD (f : Int) := by
  have : ∀ f, f < 16 → ∀ level, level < 3 → ofL 2 level (tabW f) = tabD (f : Int) := by decide +kernel
  exact this f hf level hl
theorem zero_of {level : Nat} (hl : level < 4) : ofL 2 level 0 = noDs := by
  have : ∀ level, level < 4 → ofL 2 level 0 = noDs := by decide +kernel
  exact this level hl
theorem place0 : ∀ k, k < 64 → atN 0 0 k = 0 := by decide +kernel
theorem place1 : ∀ k, k < 64 → atN 1 1 k = 8 := by decide +kernel
theorem place2 : ∀ k, k < 64 → atN 2 2 k = 16 + k / 8 := by decide +kernel
theorem place3 : ∀ k, k < 64 → atN ((3 + k / 8 : Nat) : Int) 3 k = 24 + k := by decide +kernel
theorem hasN {n : Nat} {f : Nat} (hn : 128 ≤ n) (hf : f < 16) : hasF n (f : Int) = true := by
  simp [hasF]; omega
theorem way3 {g : Nat → Nat} {n k : Nat} (hn : 128 ≤ n) (hk : k < 64) (h0 : g 0 = tabW 1) (h1 : g 8 = tabW 2) (h2 : g (16 + k / 8) = tabW (3 + k / 8)) : wayL (memF n g) 0 k 3 = ⟨[0, 1, 2, ((3 + k / 8 : Nat) : Int)], ofL 2 3 (g (24 + k)), true⟩ := by
  have p0 := place0 k hk
  have p1 := place1 k hk
  have p2 := place2 k hk
  have p3 := place3 k hk
  have e0 : dAt (memF n g) 0 0 = tabD 1 := by rw [memF_dAt (by omega), h0]; exact tabW_of (by decide) (by decide)
  have e1 : dAt (memF n g) 8 1 = tabD 2 := by rw [memF_dAt (by omega), h1]; exact tabW_of (by decide) (by decide)
  have e2 : dAt (memF n g) (16 + k / 8) 2 = tabD ((3 + k / 8 : Nat) : Int) := by rw [memF_dAt (by omega), h2]; exact tabW_of (by omega) (by decide)
  have e3 : dAt (memF n g) (24 + k) 3 = ofL 2 3 (g (24 + k)) := memF_dAt (by omega)
  have f0 : hasF n 0 = true := hasN (f := 0) hn (by decide)
  have f1 : hasF n 1 = true := hasN (f := 1) hn (by decide)
  have f2 : hasF n 2 = true := hasN (f := 2) hn (by decide)
  have f3 : hasF n ((3 + k / 8 : Nat) : Int) = true := hasN hn (by omega)
  unfold wayL
  rw [walkL, memF_len, f0, cond_true, p0, e0]
  simp only [tabD, decide_true, Bool.not_true, Bool.false_or, show decide (0 = 3) = false from rfl, cond_false]
  rw [walkL, memF_len, f1, cond_true, p1, e1]
  simp only [tabD, decide_true, Bool.not_true, Bool.false_or, show decide (0 + 1 = 3) = false from rfl, cond_false]
  rw [walkL, memF_len, f2, cond_true, p2, e2]
  simp only [tabD, decide_true, Bool.not_true, Bool.false_or, show decide (0 + 1 + 1 = 3) = false from rfl, cond_false]
  rw [walkL, memF_len, f3, cond_true, p3, e3]
  simp
theorem way2 {g : Nat → Nat} {n k : Nat} (hn : 128 ≤ n) (hk : k < 64) (h0 : g 0 = tabW 1) (h1 : g 8 = tabW 2) (h2 : g (16 + k / 8) = 0) : wayL (memF n g) 0 k 3 = ⟨[0, 1, 2], noDs, true⟩ := by
  have p0 := place0 k hk
  have p1 := place1 k hk
  have p2 := place2 k hk
  have e0 : dAt (memF n g) 0 0 = tabD 1 := by rw [memF_dAt (by omega), h0]; exact tabW_of (by decide) (by decide)
  have e1 : dAt (memF n g) 8 1 = tabD 2 := by rw [memF_dAt (by omega), h1]; exact tabW_of (by decide) (by decide)
  have e2 : dAt (memF n g) (16 + k / 8) 2 = noDs := by rw [memF_dAt (by omega), h2]; exact zero_of (by decide)
  have f0 : hasF n 0 = true := hasN (f := 0) hn (by decide)
  have f1 : hasF n 1 = true := hasN (f := 1) hn (by decide)
  have f2 : hasF n 2 = true := hasN (f := 2) hn (by decide)
  unfold wayL
  rw [walkL, memF_len, f0, cond_true, p0, e0]
  simp only [tabD, decide_true, Bool.not_true, Bool.false_or, show decide (0 = 3) = false from rfl, cond_false]
  rw [walkL, memF_len, f1, cond_true, p1, e1]
  simp only [tabD, decide_true, Bool.not_true, Bool.false_or, show decide (0 + 1 = 3) = false from rfl, cond_false]
  rw [walkL, memF_len, f2, cond_true, p2, e2]
  rfl
/-- So many pages told: the words, what is left. -/
def expW (dd : Nat → DsD) (k p : Nat) : Nat :=
  bif decide (k = 0) then 0 else bif decide (p = 0) then tabW 1 else bif decide (p = 8) then tabW 2
  else bif decide (16 ≤ p ∧ p < 24 ∧ 8 * (p - 16) < k) then tabW (3 + (p - 16))
  else bif decide (24 ≤ p ∧ p < 24 + k) then (dd (p - 24)).word 2 3 else 0
def leftB (k : Nat) : List Int := bif decide (k = 0) then freeB else freeB.drop (2 + (k + 7) / 8)
theorem free_left : ∀ k, k < 64 → k ≠ 0 → freeL 128 (bif decide (k % 8 = 0) then [0, 1, 2] else [0, 1, 2, ((3 + k / 8 : Nat) : Int)]) (leftB k) = true := by decide +kernel
theorem left_mod : ∀ k, k < 64 → k ≠ 0 → (k % 8 = 0 → leftB k = ((3 + k / 8 : Nat) : Int) :: leftB (k + 1)) ∧ (k % 8 ≠ 0 → leftB k = leftB (k + 1)) := by decide +kernel
theorem put3 {g : Nat → Nat} {n k : Nat} {d : DsD} (hn : 128 ≤ n) (hk : k < 64) (h0 : g 0 = tabW 1) (h1 : g 8 = tabW 2) (h2 : g (16 + k / 8) = tabW (3 + k / 8)) : putM (memF n g) 0 k 3 d = ⟨memF n fun q => bif Nat.beq q (24 + k) then d.word 2 3 else g q, [], 0⟩ := by
  have hw := way3 hn hk h0 h1 h2
  have p3 := place3 k hk
  unfold putM
  rw [hw]
  simp only [WkD.lv, WkD.place, List.length_cons, List.length_nil, Nat.reduceAdd, Nat.reduceSub, decide_true, Bool.not_true, cond_false, List.getD_cons_succ, List.getD_cons_zero, p3, putL, memF_set]
theorem map3 {g : Nat → Nat} {n k : Nat} {d : DsD} {l : List Int} (hn : 128 ≤ n) (hk : k < 64) (h0 : g 0 = tabW 1) (h1 : g 8 = tabW 2) (h2 : g (16 + k / 8) = tabW (3 + k / 8)) (h3 : g (24 + k) = 0) (hl : freeL 128 [0, 1, 2, ((3 + k / 8 : Nat) : Int)] l = true) : mapL (memF n g) 0 l k d = ⟨memF n fun q => bif Nat.beq q (24 + k) then d.word 2 3 else g q, l, 0⟩ := by
  have hw := way3 hn hk h0 h1 h2
  have p3 := place3 k hk
  have hl' := freeL_mono hn hl
  rw [h3, zero_of (by decide)] at hw
  unfold mapL
  rw [hw]
  simp only [memF_len, hl', Bool.true_and, Bool.not_true, cond_false, noDs, List.length_cons, List.length_nil, Nat.reduceAdd, show decide ((0 : Int) = 2) = false from rfl, show decide (4 < 4) = false from rfl, Bool.false_and, Bool.or_false, show decide (l.length + 4 < 4) = false from by simp, Nat.sub_self, List.take_zero, linkL, List.drop_zero, WkD.lv, WkD.place, Nat.reduceSub, List.getD_cons_succ, List.getD_cons_zero, p3, putL, memF_set]
  rfl
theorem map2 {g : Nat → Nat} {n k : Nat} {d : DsD} {l : List Int} (hn : 128 ≤ n) (hk : k < 64) (h8 : k % 8 = 0) (h0 : g 0 = tabW 1) (h1 : g 8 = tabW 2) (h2 : g (16 + k / 8) = 0) (h3 : ∀ q, 24 + k ≤ q → q < 32 + k → g q = 0) (hl : freeL 128 [0, 1, 2] (((3 + k / 8 : Nat) : Int) :: l) = true) : mapL (memF n g) 0 (((3 + k / 8 : Nat) : Int) :: l) k d = ⟨memF n fun q => bif Nat.beq q (24 + k) then d.word 2 3 else bif Nat.beq q (16 + k / 8) then tabW (3 + k / 8) else g q, l, 0⟩ := by
  have hw := way2 hn hk h0 h1 h2
  have p2 := place2 k hk
  have p3 := place3 k hk
  have hl' := freeL_mono hn hl
  have hz : zeroF (memF n g) ((3 + k / 8 : Nat) : Int) = memF n g := memF_zeros 8 fun q a b => h3 q (by omega) (by omega)
  unfold mapL
  rw [hw]
  simp only [memF_len, hl', Bool.true_and, Bool.not_true, cond_false, noDs, List.length_cons, List.length_nil, Nat.reduceAdd, show decide ((0 : Int) = 2) = false from rfl, show decide ((0 : Int) = 0) = true from rfl, Bool.and_false, Bool.or_false, show decide (l.length + 1 + 3 < 4) = false from by simp, Nat.reduceSub, List.take_succ_cons, List.take_zero, linkL, List.drop_succ_cons, List.drop_zero, WkD.lv, WkD.place, List.getD_cons_succ, List.getD_cons_zero, p2, p3, hz, putL, memF_set, tabW_lv]
  rfl
theorem beq_ne {a b : Nat} (h : a ≠ b) : Nat.beq a b = false := by
  cases hb : Nat.beq a b with
  | false => rfl
  | true => exact absurd (Nat.eq_of_beq_eq_true hb) h
theorem map1 {n : Nat} {d : DsD} (hn : 128 ≤ n) : mapL (memF n fun _ => 0) 0 freeB 0 d = ⟨memF n fun q => bif Nat.beq q 24 then d.word 2 3 else bif Nat.beq q 16 then tabW 3 else bif Nat.beq q 8 then tabW 2 else bif Nat.beq q 0 then tabW 1 else 0, freeB.drop 3, 0⟩ := by
  have f0 : hasF n 0 = true := hasN (f := 0) hn (by decide)
  have e0 : dAt (memF n fun _ => 0) 0 0 = noDs := by rw [memF_dAt (by omega)]; exact zero_of (by decide)
  have hw : wayL (memF n fun _ => 0) 0 0 3 = ⟨[0], noDs, true⟩ := by
    unfold wayL
    rw [walkL, memF_len, f0, cond_true, place0 0 (by decide), e0]
    rfl
  have hl : freeL n [0] freeB = true := freeL_mono hn (by decide +kernel)
  unfold mapL
  rw [hw]
  simp only [memF_len, hl, Bool.true_and, Bool.not_true, cond_false]
  have hz1 : zeroF (memF n fun _ => 0) 1 = memF n fun _ => 0 := memF_zeros 8 fun q a b => rfl
  have hz2 : zeroF (memF n fun q => bif Nat.beq q 0 then tabW 1 else 0) 2 = memF n fun q => bif Nat.beq q 0 then tabW 1 else 0 := memF_zeros 8 fun q a b => by
    rw [beq_ne (show q ≠ 0 by simp at a; omega)]; rfl
  have hz3 : zeroF (memF n fun q => bif Nat.beq q 8 then tabW 2 else bif Nat.beq q 0 then tabW 1 else 0) 3 = memF n fun q => bif Nat.beq q 8 then tabW 2 else bif Nat.beq q 0 then tabW 1 else 0 := memF_zeros 8 fun q a b => by
    rw [beq_ne (show q ≠ 8 by simp at a; omega), beq_ne (show q ≠ 0 by simp at a; omega)]; rfl
  show (bif decide ((0 : Int) = 2) || (decide (1 < 4) && !decide ((0 : Int) = 0)) then badM 4 else bif decide (freeB.length + 1 < 4) then badM 5 else _) = _
  rw [show (decide ((0 : Int) = 2) || (decide (1 < 4) && !decide ((0 : Int) = 0))) = false from rfl, cond_false, show decide (freeB.length + 1 < 4) = false from rfl, cond_false]
  have hk : linkL 0 [1, 2, 3] 0 0 (memF n fun _ => 0) = (24, memF n fun q => bif Nat.beq q 16 then tabW 3 else bif Nat.beq q 8 then tabW 2 else bif Nat.beq q 0 then tabW 1 else 0) := by
    rw [linkL, hz1, putL, memF_set, linkL]
    rw [show (tabD 1).word 2 0 = tabW 1 from rfl, hz2, putL, memF_set, linkL, show (tabD 2).word 2 (0 + 1) = tabW 2 from rfl, show atN 1 (0 + 1) 0 = 8 from rfl, hz3, putL, memF_set, linkL]
    rfl
  show (⟨putL (linkL 0 [1, 2, 3] 0 0 (memF n fun _ => 0)).2 (linkL 0 [1, 2, 3] 0 0 (memF n fun _ => 0)).1 3 d, freeB.drop 3, 0⟩ : TbR) = _
  rw [hk]
  simp only [putL, memF_set]
theorem exp_tab {dd : Nat → DsD} {k : Nat} (hk : k ≠ 0) : expW dd k 0 = tabW 1 ∧ expW dd k 8 = tabW 2 := by
  simp [expW, hk]
theorem exp_mid {dd : Nat → DsD} {k j : Nat} (hk : k ≠ 0) (hj : j < 8) : expW dd k (16 + j) = bif decide (8 * j < k) then tabW (3 + j) else 0 := by
  have e1 : decide (16 + j = 0) = false := by simp
  have e2 : decide (16 + j = 8) = false := by simp; omega
  have e3 : decide (24 ≤ 16 + j ∧ 16 + j < 24 + k) = false := by simp; omega
  have e4 : decide (16 ≤ 16 + j ∧ 16 + j < 24 ∧ 8 * j < k) = decide (8 * j < k) := by
    rw [Bool.eq_iff_iff, decide_eq_true_eq, decide_eq_true_eq]; omega
  simp only [expW, hk, decide_false, cond_false, e1, e2, e3, show 16 + j - 16 = j by omega, e4]
theorem exp_hi {dd : Nat → DsD} {k q : Nat} (hq : 24 + k ≤ q) : expW dd k q = 0 := by
  unfold expW
  cases h : decide (k = 0) with
  | true => rfl
  | false =>
    have e1 : decide (q = 0) = false := by simp; omega
    have e2 : decide (q = 8) = false := by simp; omega
    have e3 : decide (16 ≤ q ∧ q < 24 ∧ 8 * (q - 16) < k) = false := by simp; omega
    have e4 : decide (24 ≤ q ∧ q < 24 + k) = false := by simp; omega
    simp only [e1, e2, e3, e4, cond_false]
theorem exp_step {dd : Nat → DsD} {k : Nat} (hk' : k < 64) (h0 : k ≠ 0) (q : Nat) : (bif Nat.beq q (24 + k) then (dd k).word 2 3 else bif (decide (k % 8 = 0) && Nat.beq q (16 + k / 8)) then tabW (3 + k / 8) else expW dd k q) = expW dd (k + 1) q := by
  have e0 : decide (k + 1 = 0) = false := by simp
  have e0' : decide (k = 0) = false := by simp [h0]
  by_cases q24 : q = 24 + k
  · subst q24
    have b : Nat.beq (24 + k) (24 + k) = true := Nat.beq_refl _
    rw [b, cond_true]
    have e1 : decide (24 + k = 0) = false := by simp
    have e2 : decide (24 + k = 8) = false := by simp; omega
    have e3 : decide (16 ≤ 24 + k ∧ 24 + k < 24 ∧ 8 * (24 + k - 16) < k + 1) = false := by simp; omega
    have e4 : decide (24 ≤ 24 + k ∧ 24 + k < 24 + (k + 1)) = true := by simp
    simp only [expW, e0, e1, e2, e3, e4, cond_false, cond_true, show 24 + k - 24 = k by omega]
  rw [beq_ne q24, cond_false]
  have e4 : decide (24 ≤ q ∧ q < 24 + (k + 1)) = decide (24 ≤ q ∧ q < 24 + k) := by
    rw [Bool.eq_iff_iff, decide_eq_true_eq, decide_eq_true_eq]; omega
  by_cases hm : k % 8 = 0 ∧ q = 16 + k / 8
  · obtain ⟨hm, rfl⟩ := hm
    rw [exp_mid (k := k + 1) (by omega) (by omega)]
    simp only [hm, decide_true, Bool.true_and, Nat.beq_refl, cond_true, show decide (8 * (k / 8) < k + 1) = true by simp; omega]
  · have b : (decide (k % 8 = 0) && Nat.beq q (16 + k / 8)) = false := by
      cases h1 : decide (k % 8 = 0) with
      | false => rfl
      | true =>
        rw [Bool.true_and, beq_ne]
        intro e; exact hm ⟨by simpa using h1, e⟩
    rw [b, cond_false]
    have e3 : decide (16 ≤ q ∧ q < 24 ∧ 8 * (q - 16) < k + 1) = decide (16 ≤ q ∧ q < 24 ∧ 8 * (q - 16) < k) := by
      rw [Bool.eq_iff_iff, decide_eq_true_eq, decide_eq_true_eq]; omega
    simp only [expW, e0, e0', e3, e4, cond_false]
theorem tabK_exp {n : Nat} (hn : 128 ≤ n) (dd : Nat → DsD) : ∀ k, k ≤ 64 → tabK n dd k = ⟨memF n (expW dd k), leftB k, 0⟩ := by
  intro k
  induction k with
  | zero => intro _; rw [tabK, memF_zero]; rfl
  | succ k ih =>
    intro hk
    have hk' : k < 64 := by omega
    rw [tabK, ih (by omega)]
    dsimp only
    by_cases h0 : k = 0
    · subst h0
      rw [show memF n (expW dd 0) = memF n fun _ => 0 from rfl, show leftB 0 = freeB from rfl, map1 hn]
      dsimp only
      rw [put3 hn (by decide) rfl rfl rfl]
      dsimp only
      rw [TbR.mk.injEq]
      refine ⟨memF_congr fun q hq => ?_, rfl, rfl⟩
      by_cases q0 : q = 0
      · subst q0; rfl
      by_cases q8 : q = 8
      · subst q8; rfl
      by_cases q16 : q = 16
      · subst q16; rfl
      by_cases q24 : q = 24
      · subst q24; rfl
      rw [beq_ne q24, beq_ne q16, beq_ne q8, beq_ne q0]
      have e3 : decide (16 ≤ q ∧ q < 24 ∧ 8 * (q - 16) < 0 + 1) = false := by simp; omega
      have e4 : decide (24 ≤ q ∧ q < 24 + (0 + 1)) = false := by simp; omega
      simp only [expW, q0, q8, e3, e4, decide_false, cond_false]
      rfl
    · obtain ⟨g0, g8⟩ := exp_tab (dd := dd) h0
      have gm := exp_mid (dd := dd) h0 (show k / 8 < 8 by omega)
      have gh := fun q => exp_hi (dd := dd) (k := k) (q := q)
      have hfr := free_left k hk' h0
      obtain ⟨l8, lo⟩ := left_mod k hk' h0
      have hstep : ∀ q, q < n → (bif Nat.beq q (24 + k) then (dd k).word 2 3 else bif (decide (k % 8 = 0) && Nat.beq q (16 + k / 8)) then tabW (3 + k / 8) else expW dd k q) = expW dd (k + 1) q := fun q _ => exp_step hk' h0 q
      by_cases h8 : k % 8 = 0
      · rw [l8 h8]
        have gz : expW dd k (16 + k / 8) = 0 := by rw [gm, show decide (8 * (k / 8) < k) = false by simp; omega]; rfl
        rw [l8 h8] at hfr
        simp only [h8, decide_true, cond_true] at hfr
        rw [map2 hn hk' h8 g0 g8 gz (fun q a b => gh q (by omega)) hfr]
        dsimp only
        rw [put3 hn hk' (by rw [beq_ne (by omega), beq_ne (by omega)]; exact g0) (by rw [beq_ne (by omega), beq_ne (by omega)]; exact g8) (by rw [beq_ne (by omega), Nat.beq_refl]; rfl)]
        dsimp only
        rw [TbR.mk.injEq]
        refine ⟨memF_congr fun q hq => ?_, rfl, rfl⟩
        rw [← hstep q hq]
        simp only [h8, decide_true, Bool.true_and]
        cases Nat.beq q (24 + k) <;> rfl
      · rw [lo h8]
        have gz : expW dd k (16 + k / 8) = tabW (3 + k / 8) := by rw [gm, show decide (8 * (k / 8) < k) = true by simp; omega]; rfl
        rw [lo h8] at hfr
        simp only [h8, decide_false, cond_false] at hfr
        rw [map3 hn hk' g0 g8 gz (gh _ (Nat.le_refl _)) hfr]
        dsimp only
        rw [put3 hn hk' (by rw [beq_ne (by omega)]; exact g0) (by rw [beq_ne (by omega)]; exact g8) (by rw [beq_ne (by omega)]; exact gz)]
        dsimp only
        rw [TbR.mk.injEq]
        refine ⟨memF_congr fun q hq => ?_, rfl, rfl⟩
        rw [← hstep q hq]
        simp only [h8, decide_false, Bool.false_and, cond_false]
        cases Nat.beq q (24 + k) <;> rfl
theorem bMap_exp {n : Nat} (hn : 128 ≤ n) : ∀ k, k ≤ 64 → bMap n k = ⟨memF n (expW (fun k => leafD k 0) k), leftB k, 0⟩ := by
  intro k
  induction k with
  | zero => intro _; rw [bMap, memF_zero]; rfl
  | succ k ih =>
    intro hk
    have hk' : k < 64 := by omega
    rw [bMap, ih (by omega)]
    dsimp only
    by_cases h0 : k = 0
    · subst h0
      rw [show memF n (expW (fun k => leafD k 0) 0) = memF n fun _ => 0 from rfl, show leftB 0 = freeB from rfl, map1 hn]
      rw [TbR.mk.injEq]
      refine ⟨memF_congr fun q hq => ?_, rfl, rfl⟩
      by_cases q0 : q = 0
      · subst q0; rfl
      by_cases q8 : q = 8
      · subst q8; rfl
      by_cases q16 : q = 16
      · subst q16; rfl
      by_cases q24 : q = 24
      · subst q24; rfl
      rw [beq_ne q24, beq_ne q16, beq_ne q8, beq_ne q0]
      have e3 : decide (16 ≤ q ∧ q < 24 ∧ 8 * (q - 16) < 0 + 1) = false := by simp; omega
      have e4 : decide (24 ≤ q ∧ q < 24 + (0 + 1)) = false := by simp; omega
      simp only [expW, q0, q8, e3, e4, decide_false, cond_false]
      rfl
    · obtain ⟨g0, g8⟩ := exp_tab (dd := fun k => leafD k 0) h0
      have gm := exp_mid (dd := fun k => leafD k 0) h0 (show k / 8 < 8 by omega)
      have gh := fun q => exp_hi (dd := fun k => leafD k 0) (k := k) (q := q)
      have hfr := free_left k hk' h0
      obtain ⟨l8, lo⟩ := left_mod k hk' h0
      have hstep := fun q => exp_step (dd := fun k => leafD k 0) hk' h0 q
      by_cases h8 : k % 8 = 0
      · rw [l8 h8]
        have gz : expW (fun k => leafD k 0) k (16 + k / 8) = 0 := by rw [gm, show decide (8 * (k / 8) < k) = false by simp; omega]; rfl
        rw [l8 h8] at hfr
        simp only [h8, decide_true, cond_true] at hfr
        rw [map2 hn hk' h8 g0 g8 gz (fun q a b => gh q (by omega)) hfr]
        rw [TbR.mk.injEq]
        refine ⟨memF_congr fun q hq => ?_, rfl, rfl⟩
        rw [← hstep q]
        simp only [h8, decide_true, Bool.true_and]
      · rw [lo h8]
        have gz : expW (fun k => leafD k 0) k (16 + k / 8) = tabW (3 + k / 8) := by rw [gm, show decide (8 * (k / 8) < k) = true by simp; omega]; rfl
        rw [lo h8] at hfr
        simp only [h8, decide_false, cond_false] at hfr
        rw [map3 hn hk' g0 g8 gz (gh _ (Nat.le_refl _)) hfr]
        rw [TbR.mk.injEq]
        refine ⟨memF_congr fun q hq => ?_, rfl, rfl⟩
        rw [← hstep q]
        simp only [h8, decide_false, Bool.false_and, cond_false]
theorem exp_in {dd : Nat → DsD} {k j : Nat} (hj : j < k) : expW dd k (24 + j) = (dd j).word 2 3 := by
  have e0 : decide (k = 0) = false := by simp; omega
  have e1 : decide (24 + j = 0) = false := by simp
  have e2 : decide (24 + j = 8) = false := by simp; omega
  have e3 : decide (16 ≤ 24 + j ∧ 24 + j < 24 ∧ 8 * (24 + j - 16) < k) = false := by simp; omega
  have e4 : decide (24 ≤ 24 + j ∧ 24 + j < 24 + k) = true := by simp; omega
  simp only [expW, e0, e1, e2, e3, e4, cond_false, cond_true, show 24 + j - 24 = j by omega]
/-- The words, some pages turned. -/
def putW (F k q : Nat) : Nat := bif decide (24 ≤ q ∧ q < 24 + k) then (bootD F (q - 24)).word 2 3 else expW (fun k => leafD k 0) 64 q
theorem bPut_exp {n : Nat} (hn : 128 ≤ n) (F : Nat) : ∀ k, k ≤ 64 → bPut n F k = memF n (putW F k) := by
  intro k
  induction k with
  | zero =>
    intro _
    rw [bPut, bMap_exp hn 64 (Nat.le_refl _)]
    refine memF_congr fun q hq => ?_
    have e4 : decide (24 ≤ q ∧ q < 24 + 0) = false := by simp
    rw [putW, e4, cond_false]
  | succ k ih =>
    intro hk
    have hk' : k < 64 := by omega
    have hlow : ∀ q, q < 24 → putW F k q = expW (fun k => leafD k 0) 64 q := fun q hq => by
      have e4 : decide (24 ≤ q ∧ q < 24 + k) = false := by simp; omega
      rw [putW, e4, cond_false]
    have hnext : ∀ q, (bif Nat.beq q (24 + k) then (bootD F k).word 2 3 else putW F k q) = putW F (k + 1) q := by
      intro q
      by_cases hq : q = 24 + k
      · subst hq
        have e4 : decide (24 ≤ 24 + k ∧ 24 + k < 24 + (k + 1)) = true := by simp
        rw [Nat.beq_refl, cond_true, putW, e4, cond_true, show 24 + k - 24 = k by omega]
      · have e4 : decide (24 ≤ q ∧ q < 24 + (k + 1)) = decide (24 ≤ q ∧ q < 24 + k) := by
          rw [Bool.eq_iff_iff, decide_eq_true_eq, decide_eq_true_eq]; omega
        rw [beq_ne hq, cond_false, putW, putW, e4]
    have g0 : putW F k 0 = tabW 1 := by rw [hlow 0 (by decide)]; rfl
    have g8 : putW F k 8 = tabW 2 := by rw [hlow 8 (by decide)]; rfl
    have gm : putW F k (16 + k / 8) = tabW (3 + k / 8) := by rw [hlow _ (by omega), exp_mid (by decide) (by omega), show decide (8 * (k / 8) < 64) = true by simp; omega]; rfl
    rw [bPut, ih (by omega)]
    cases h1 : decide (k < 16) with
    | true =>
      have hd : bootD F k = noteD 1 := by simp only [bootD, h1, cond_true]
      have hb : bD F k = some (noteD 1) := by simp only [bD, h1, cond_true]
      rw [hb]
      dsimp only
      rw [put3 hn hk' g0 g8 gm, ← hd]
      exact memF_congr fun q _ => hnext q
    | false =>
      cases h2 : decide (F ≤ k) with
      | true =>
        have hd : bootD F k = noDs := by simp only [bootD, h1, h2, cond_true, cond_false]
        have hb : bD F k = some noDs := by simp only [bD, h1, h2, cond_true, cond_false]
        rw [hb]
        dsimp only
        rw [put3 hn hk' g0 g8 gm, ← hd]
        exact memF_congr fun q _ => hnext q
      | false =>
        have hd : bootD F k = leafD k 0 := by simp only [bootD, h1, h2, cond_false]
        have hb : bD F k = none := by simp only [bD, h1, h2, cond_false]
        rw [hb]
        dsimp only
        refine memF_congr fun q _ => ?_
        rw [← hnext q]
        by_cases hq : q = 24 + k
        · subst hq
          have e4 : decide (24 ≤ 24 + k ∧ 24 + k < 24 + k) = false := by simp
          rw [Nat.beq_refl, cond_true, hd, putW, e4, cond_false, exp_in hk']
        · rw [beq_ne hq, cond_false]
/-- Both roads lead to the same words. -/
theorem boot_words {n : Nat} (hn : 128 ≤ n) (F : Nat) : bPut n F 64 = (tabK n (bootD F) 64).ws := by
  rw [bPut_exp hn F 64 (Nat.le_refl _), tabK_exp hn _ 64 (Nat.le_refl _)]
  refine memF_congr fun q _ => ?_
  rw [putW]
  by_cases hq : 24 ≤ q ∧ q < 24 + 64
  · obtain ⟨j, rfl⟩ : ∃ j, q = 24 + j := ⟨q - 24, by omega⟩
    have e4 : decide (24 ≤ 24 + j ∧ 24 + j < 24 + 64) = true := by simp; omega
    rw [e4, cond_true, exp_in (by omega), show 24 + j - 24 = j by omega]
  · have e4 : decide (24 ≤ q ∧ q < 24 + 64) = false := by simp; omega
    rw [e4, cond_false]
    simp only [expW, e4, show decide ((64 : Nat) = 0) = false from rfl, cond_false]
theorem W64.memF {n : Nat} {g : Nat → Nat} (h : ∀ q, g q < 18446744073709551616) : W64 (memF n g) := by
  intro x hx
  obtain ⟨q, _, rfl⟩ := List.mem_map.1 hx
  exact h q
theorem expW_lt (dd : Nat → DsD) (k q : Nat) : expW dd k q < 18446744073709551616 := by
  unfold expW
  refine cond_P (P := (· < 18446744073709551616)) (by decide) (cond_P (P := (· < 18446744073709551616)) (DsD.word_lt _ _ _) (cond_P (P := (· < 18446744073709551616)) (DsD.word_lt _ _ _) (cond_P (P := (· < 18446744073709551616)) (DsD.word_lt _ _ _) (cond_P (P := (· < 18446744073709551616)) (DsD.word_lt _ _ _) (by decide)))))
theorem putW_lt (F k q : Nat) : putW F k q < 18446744073709551616 := by
  unfold putW
  exact cond_P (P := (· < 18446744073709551616)) (DsD.word_lt _ _ _) (expW_lt _ _ _)
end Go.Proofs.YtiaelhhmlbfkmaaGreat
