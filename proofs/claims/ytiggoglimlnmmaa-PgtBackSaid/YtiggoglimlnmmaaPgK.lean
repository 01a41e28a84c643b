/- Layer 16: all that is mapped, plain: page by page. -/
import Derived.Test.YtiggoglimlnmmaaPgJ
namespace Go.Proofs.Ytiggoglimlnmmaa
open Go.RowKit
set_option linter.unusedVariables false
set_option linter.unusedSimpArgs false
set_option maxRecDepth 20000
/-- What a page is mapped to; none: a table is not there. -/
def pageM (ws : List Nat) (root : Int) (q : Nat) : Option (List MpD) :=
  let W := wayL ws root q 3
  bif !W.ok then none else bif decide (W.d.kind = 2) then some [⟨(q : Int), W.d.frame + ((q % coversN W.lv : Nat) : Int)⟩] else some []
/-- So many pages from one on. -/
def pgsL (ws : List Nat) (root : Int) (q : Nat) : Nat → Option (List MpD)
  | 0 => some []
  | n + 1 => match pgsL ws root q n with
    | none => none
    | some xs => match pageM ws root (q + n) with
      | none => none
      | some ys => some (xs ++ ys)
theorem pgs_add (ws : List Nat) (root : Int) (q m : Nat) : ∀ n, pgsL ws root q (m + n) = match pgsL ws root q m with
    | none => none
    | some xs => match pgsL ws root (q + m) n with
      | none => none
      | some ys => some (xs ++ ys) := by
  intro n
  induction n with
  | zero =>
    rw [Nat.add_zero]
    cases pgsL ws root q m with
    | none => rfl
    | some xs => simp [pgsL]
  | succ n ih =>
    rw [← Nat.add_assoc, pgsL, ih, pgsL]
    cases pgsL ws root q m with
    | none => rfl
    | some xs =>
      dsimp only
      cases pgsL ws root (q + m) n with
      | none => rfl
      | some ys =>
        dsimp only
        rw [← Nat.add_assoc]
        cases pageM ws root (q + m + n) with
        | none => rfl
        | some zs => simp
/-- Pages that one is not of any. -/
theorem pgs_none {ws : List Nat} {root : Int} {q n k : Nat} (h : pageM ws root (q + k) = none) (hk : k < n) : pgsL ws root q n = none := by
  have e : n = k + (1 + (n - k - 1)) := by omega
  rw [e, pgs_add]
  cases pgsL ws root q k with
  | none => rfl
  | some xs =>
    dsimp only
    rw [pgs_add]
    have : pgsL ws root (q + k) 1 = none := by rw [pgsL, pgsL, Nat.add_zero, h]
    rw [this]
/-- A row of pages. -/
def rowM (q : Nat) (f : Int) : Nat → List MpD
  | 0 => []
  | n + 1 => rowM q f n ++ [⟨((q + n : Nat) : Int), f + (n : Int)⟩]
theorem rowM_len (q : Nat) (f : Int) (n : Nat) : (rowM q f n).length = n := by
  induction n with
  | zero => rfl
  | succ n ih => rw [rowM, List.length_append, ih]; rfl
theorem pgs_leaf {ws : List Nat} {root : Int} {q : Nat} {W : WkD} (hok : W.ok = true) (hk : W.d.kind = 2) (hq : q % coversN W.lv = 0) : ∀ n, n ≤ coversN W.lv → (∀ j, j < n → wayL ws root (q + j) 3 = W) → pgsL ws root q n = some (rowM q W.d.frame n) := by
  intro n
  induction n with
  | zero => intro _ _; rfl
  | succ n ih =>
    intro hn h
    rw [pgsL, ih (by omega) (fun j hj => h j (by omega))]
    have hp : pageM ws root (q + n) = some [⟨((q + n : Nat) : Int), W.d.frame + (n : Int)⟩] := by
      unfold pageM
      rw [h n (by omega)]
      have hm : (q + n) % coversN W.lv = n := by
        rw [Nat.add_mod, hq, Nat.zero_add, Nat.mod_mod, Nat.mod_eq_of_lt (by omega)]
      simp only [hok, hk, decide_true, Bool.not_true, cond_false, cond_true, hm]
    rw [hp]
    rfl
theorem pgs_no {ws : List Nat} {root : Int} {q : Nat} {W : WkD} (hok : W.ok = true) (hk : W.d.kind ≠ 2) : ∀ n, (∀ j, j < n → wayL ws root (q + j) 3 = W) → pgsL ws root q n = some [] := by
  intro n
  induction n with
  | zero => intro _; rfl
  | succ n ih =>
    intro h
    rw [pgsL, ih (fun j hj => h j (by omega))]
    have hp : pageM ws root (q + n) = some [] := by
      unfold pageM
      rw [h n (by omega)]
      simp [hok, hk]
    rw [hp]
    rfl
/-- A table, on the way to so many pages. -/
def OnWay (ws : List Nat) (root f : Int) (level page : Nat) : Prop :=
  ∃ fs d, fs.length = level ∧ ∀ j, j < 8 * coversN level → wayL ws root (page + j) 3 = walkL ws (page + j) 3 (4 - level) level f fs d
theorem index_slot {level page i j : Nat} (hl : level < 4) (hp : page % (8 * coversN level) = 0) (hi : i < 8) (hj : j < coversN level) : indexN level (page + (i * coversN level + j)) = i := by
  have hc := dbits_lt hl
  unfold indexN
  rw [Nat.shiftRight_eq_div_pow]
  have e : 2 ^ dbits level = coversN level := by unfold coversN; rw [Nat.one_shiftLeft]
  rw [e]
  generalize coversN level = c at hc hp hj
  obtain ⟨m, hm⟩ := Nat.dvd_of_mod_eq_zero hp
  have h0 : 8 * c * m = c * (8 * m) := by rw [Nat.mul_comm 8 c, Nat.mul_assoc]
  have h2 : page + (i * c + j) = j + c * (8 * m + i) := by
    rw [hm, h0, Nat.mul_add, Nat.mul_comm i c]
    generalize c * (8 * m) = u
    generalize c * i = v
    omega
  have h1 : (page + (i * c + j)) / c = 8 * m + i := by
    rw [h2, Nat.add_mul_div_left _ _ (by omega), Nat.div_eq_of_lt hj, Nat.zero_add]
  rw [h1]
  omega
/-- What a slot of a table says of its pages. -/
theorem slot_way {ws : List Nat} {root f : Int} {level page i : Nat} {fs : List Int} {d0 : DsD} (hl : level < 4) (hp : page % (8 * coversN level) = 0) (hi : i < 8) (hf : hasF ws.length f = true)
    (h : ∀ j, j < 8 * coversN level → wayL ws root (page + j) 3 = walkL ws (page + j) 3 (4 - level) level f fs d0) {j : Nat} (hj : j < coversN level) :
    wayL ws root (page + i * coversN level + j) 3 = bif !decide ((dAt ws (f.toNat * 8 + i) level).kind = 1) || decide (level = 3) then ⟨fs ++ [f], dAt ws (f.toNat * 8 + i) level, true⟩
      else walkL ws (page + i * coversN level + j) 3 (3 - level) (level + 1) (dAt ws (f.toNat * 8 + i) level).frame (fs ++ [f]) (dAt ws (f.toNat * 8 + i) level) := by
  have hij : i * coversN level + j < 8 * coversN level := by
    have : i * coversN level ≤ 7 * coversN level := Nat.mul_le_mul_right _ (by omega)
    omega
  have h1 := h (i * coversN level + j) hij
  have hx := index_slot hl hp hi hj
  rw [show 4 - level = (3 - level) + 1 by omega, walkL, hf, cond_true] at h1
  unfold atN at h1
  rw [hx] at h1
  rw [Nat.add_assoc]
  exact h1
theorem covers_next {level : Nat} (h : level < 3) : coversN level = 8 * coversN (level + 1) := by
  obtain rfl | rfl | rfl : level = 0 ∨ level = 1 ∨ level = 2 := by omega
  all_goals decide
theorem slot_onway {ws : List Nat} {root f : Int} {level page i : Nat} (hl : level < 3) (hp : page % (8 * coversN level) = 0) (hi : i < 8) (hf : hasF ws.length f = true) (h : OnWay ws root f level page) (hk : (dAt ws (f.toNat * 8 + i) level).kind = 1) : OnWay ws root (dAt ws (f.toNat * 8 + i) level).frame (level + 1) (page + i * coversN level) := by
  obtain ⟨fs, d0, hfs, h⟩ := h
  refine ⟨fs ++ [f], dAt ws (f.toNat * 8 + i) level, by simp [hfs], fun j hj => ?_⟩
  rw [← covers_next hl] at hj
  rw [slot_way (by omega) hp hi hf h hj]
  have h3 : decide (level = 3) = false := decide_eq_false (by omega)
  simp only [hk, h3, decide_true, Bool.not_true, Bool.or_false, cond_false]
  rw [show 4 - (level + 1) = 3 - level by omega]
theorem slot_leaf {ws : List Nat} {root f : Int} {level page i : Nat} (hl : level < 4) (hp : page % (8 * coversN level) = 0) (hi : i < 8) (hf : hasF ws.length f = true) (h : OnWay ws root f level page) :
    ((dAt ws (f.toNat * 8 + i) level).kind = 2 → pgsL ws root (page + i * coversN level) (coversN level) = some (rowM (page + i * coversN level) (dAt ws (f.toNat * 8 + i) level).frame (coversN level))) ∧
    ((dAt ws (f.toNat * 8 + i) level).kind = 0 → pgsL ws root (page + i * coversN level) (coversN level) = some []) := by
  obtain ⟨fs, d0, hfs, h⟩ := h
  have hlv : (⟨fs ++ [f], dAt ws (f.toNat * 8 + i) level, true⟩ : WkD).lv = level := by simp [WkD.lv, hfs]
  have hw : (dAt ws (f.toNat * 8 + i) level).kind ≠ 1 → ∀ j, j < coversN level → wayL ws root (page + i * coversN level + j) 3 = ⟨fs ++ [f], dAt ws (f.toNat * 8 + i) level, true⟩ := fun hk j hj => by
    rw [slot_way hl hp hi hf h hj]
    simp [hk]
  refine ⟨fun hk => ?_, fun hk => ?_⟩
  · refine pgs_leaf (W := ⟨fs ++ [f], dAt ws (f.toNat * 8 + i) level, true⟩) rfl hk ?_ (coversN level) (by rw [hlv]; exact Nat.le_refl _) (hw (by rw [hk]; decide))
    rw [hlv]
    have h8 : page % coversN level = 0 := Nat.mod_eq_zero_of_dvd (Nat.dvd_trans ⟨8, Nat.mul_comm _ _⟩ (Nat.dvd_of_mod_eq_zero hp))
    rw [Nat.add_mod, h8, Nat.mul_mod_left]; rfl
  · exact pgs_no (W := ⟨fs ++ [f], dAt ws (f.toNat * 8 + i) level, true⟩) rfl (by show (dAt ws (f.toNat * 8 + i) level).kind ≠ 2; rw [hk]; decide) (coversN level) (hw (by rw [hk]; decide))
theorem root_onway (ws : List Nat) (root : Int) : OnWay ws root root 0 0 := ⟨[], noDs, rfl, fun j _ => rfl⟩
/-- A table that is not there. -/
theorem table_none {ws : List Nat} {root f : Int} {level page : Nat} (hl : level < 4) (h : OnWay ws root f level page) (hf : hasF ws.length f = false) : pgsL ws root page (8 * coversN level) = none := by
  obtain ⟨fs, d0, hfs, h⟩ := h
  have hc := dbits_lt hl
  refine pgs_none (k := 0) ?_ (by omega)
  unfold pageM
  rw [h 0 (by omega), show 4 - level = (3 - level) + 1 by omega, walkL, hf]
  rfl
end Go.Proofs.Ytiggoglimlnmmaa
