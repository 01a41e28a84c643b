/- Layer 1 (word): fields of words. -/
import Derived.Test.YtiaelhhmlbfkmaaGreatEng2
namespace Go.Proofs.YtiaelhhmlbfkmaaGreat
open Go.RowKit
set_option linter.unusedVariables false
set_option linter.unusedSimpArgs false
set_option maxRecDepth 20000
/-- The mask of so many lowest bits. -/
def lowN (n : Nat) : Nat := 18446744073709551615 >>> (64 - n)
theorem lowN_eq {n : Nat} (h : n ≤ 64) : lowN n = 2 ^ n - 1 := by
  have : ∀ n, n ≤ 64 → lowN n = 2 ^ n - 1 := by decide
  exact this n h
theorem lowN_lt (n : Nat) : lowN n < 18446744073709551616 := by
  unfold lowN
  rw [Nat.shiftRight_eq_div_pow]
  exact Nat.lt_of_le_of_lt (Nat.div_le_self _ _) (by decide)
theorem andNot_low {v n : Nat} (hn : n ≤ 64) (hv : v < 2 ^ n) : v &&& (18446744073709551615 - lowN n) = 0 := by
  have e : 18446744073709551615 - lowN n = (2 ^ (64 - n) - 1) * 2 ^ n := by
    have : ∀ n, n ≤ 64 → 18446744073709551615 - lowN n = (2 ^ (64 - n) - 1) * 2 ^ n := by decide
    exact this n hn
  rw [e]
  apply Nat.eq_of_testBit_eq
  intro i
  rw [Nat.testBit_and, Nat.zero_testBit, Nat.testBit_mul_two_pow]
  by_cases hi : n ≤ i
  · rw [Nat.testBit_lt_two_pow (Nat.lt_of_lt_of_le hv (Nat.pow_le_pow_right (by decide) hi))]; rfl
  · simp [hi]
/-- Some bits of a word. -/
def getN (w a n : Nat) : Nat := (w >>> a) &&& lowN n
/-- A field. -/
structure FdD where
  a : Nat
  n : Nat
  v : Nat
deriving Inhabited
abbrev fdV (f : FdD) : List Value := [.int .i64 (f.a : Int), .int .i64 (f.n : Int), .int .u64 (f.v : Int)]
structure FdD.Ok (f : FdD) : Prop where
  n1 : 1 ≤ f.n
  an : f.a + f.n ≤ 64
  v : f.v < 2 ^ f.n
theorem FdD.Ok.v64 {f : FdD} (h : f.Ok) : f.v < 18446744073709551616 :=
  Nat.lt_of_lt_of_le h.v (Nat.le_trans (Nat.pow_le_pow_right (by decide) (show f.n ≤ 64 by have := h.an; omega)) (by decide))
def FdD.mask (f : FdD) : Nat := (lowN f.n <<< f.a) % 18446744073709551616
def FdD.bits (f : FdD) : Nat := (f.v <<< f.a) % 18446744073709551616
theorem FdD.mask_lt (f : FdD) : f.mask < 18446744073709551616 := Nat.mod_lt _ (by decide)
theorem FdD.bits_lt (f : FdD) : f.bits < 18446744073709551616 := Nat.mod_lt _ (by decide)
/-- All fields together; nothing, where two have a bit in common. -/
def joinL : List FdD → Nat → Nat → Option (Nat × Nat)
  | [], w, t => some (w, t)
  | f :: r, w, t => bif decide (t &&& f.mask = 0) then joinL r (w ||| f.bits) (t ||| f.mask) else none
def joinV (r : Option (Nat × Nat)) : Nat := match r with | some x => x.1 | none => 0
def joinE (r : Option (Nat × Nat)) : Int := match r with | some _ => 0 | none => 4
def joinT (r : Option (Nat × Nat)) : Nat := match r with | some x => x.2 | none => 0
theorem fd_len {xs : List FdD} : ∀ c ∈ xs.map fdV, c.length = 3 := fun c hc => by obtain ⟨x, _, rfl⟩ := List.mem_map.1 hc; rfl
attribute [local irreducible] Hy St Ops DH DHF
theorem wLow_e (f : FdD) (h : f.Ok) (w : World) : Fn Tryz.prog 350 [.agg #[.int .i64 (f.a : Int), .int .i64 (f.n : Int), .int .u64 (f.v : Int)]].toArray w [] (fun u _ => u = .int .u64 (lowN f.n : Int)) := by
  have h1 := h.n1
  have h2 := h.an
  refine enter Tryz.func350 ?_
  refine run ?_
  intro B
  refine run ?_
  refine op1 (by rfl) (x_shrN rfl rfl 18446744073709551615 (64 - f.n) (by rfl) (by omega) (by omega)) ?_
  refine run ?_
  exact fin1 rfl
theorem wMask_e (f : FdD) (h : f.Ok) (w : World) : Fn Tryz.prog 318 [.agg #[.int .i64 (f.a : Int), .int .i64 (f.n : Int), .int .u64 (f.v : Int)]].toArray w [] (fun u _ => u = .int .u64 (f.mask : Int)) := by
  have h1 := h.n1
  have h2 := h.an
  refine enter Tryz.func318 ?_
  refine run ?_
  intro B
  refine run ?_
  refine drawN 6 ?_
  refine runD ?_
  refine callD (fun wc hG => wLow_e f h wc) ?_
  refine runD ?_
  refine opD (x_shlN rfl rfl (lowN f.n) f.a (by rfl) (by rfl) (by omega)) ?_
  refine runD ?_
  refine run ?_
  refine run ?_
  exact fin1 rfl
theorem wMay_e (f : FdD) (h : f.Ok) (w : World) : Fn Tryz.prog 317 [.agg #[.int .i64 (f.a : Int), .int .i64 (f.n : Int), .int .u64 (f.v : Int)]].toArray w [] (fun u _ => u = .bool true) := by
  have h1 := h.n1
  have h2 := h.an
  have h3 := h.v64
  have h4 := andNot_low (show f.n ≤ 64 by omega) h.v
  have c1 : decide ((1 : Int) ≤ (f.n : Int)) = true := decide_eq_true (by omega)
  have c2 : decide ((f.n : Int) ≤ 64) = true := decide_eq_true (by omega)
  have c3 : decide ((0 : Int) ≤ (f.a : Int)) = true := decide_eq_true (by omega)
  have c4 : decide ((f.a : Int) ≤ 64 - (f.n : Int)) = true := decide_eq_true (by omega)
  refine enter Tryz.func317 ?_
  refine run ?_
  intro B
  refine runG ?_
  refine drawN 35 ?_
  refine runDG ?_
  refine callDG (fun hg wc hG => wLow_e f h wc) ?_
  refine opDG (hy := fun hg => x_andNotN (by (simp only [hg, gv_true]; rfl)) (by (simp only [hg, gv_true]; rfl)) f.v (lowN f.n) (by rfl) (by rfl) h3 (lowN_lt _)) (h := ?_)
  rw [h4]
  refine runDG ?_
  refine run ?_
  refine fin1 ?_
  simp [c1, c2, c3, c4]
theorem wGet_e (v a n : Nat) (hn : 1 ≤ n) (han : a + n ≤ 64) (hv : v < 18446744073709551616) (w : World) : Fn Tryz.prog 351 [.int .u64 (v : Int), .int .i64 (a : Int), .int .i64 (n : Int)].toArray w [] (fun u _ => u = .tuple #[.int .u64 (getN v a n : Int), .int .i64 0]) := by
  have hok : FdD.Ok ⟨a, n, 0⟩ := ⟨hn, han, Nat.pos_of_ne_zero (by simp)⟩
  refine enter Tryz.func351 ?_
  refine run ?_
  intro B
  refine run ?_
  refine callE (fun wc hG => wMay_e ⟨a, n, 0⟩ hok wc) ?_
  refine runC ?_
  refine drawN 8 ?_
  refine runD ?_
  refine opD (x_shrN rfl rfl v a (by rfl) (by rfl) (by omega)) ?_
  refine runD ?_
  refine callD (fun wc hG => wLow_e ⟨a, n, 0⟩ hok wc) ?_
  refine opD (x_andN rfl rfl (v >>> a) (lowN n) (by rfl) (by rfl) (Nat.lt_of_le_of_lt (by rw [Nat.shiftRight_eq_div_pow]; exact Nat.div_le_self _ _) hv) (lowN_lt _)) ?_
  refine runD ?_
  refine run ?_
  exact fin2 rfl
theorem joinL_next {xs : List FdD} {k : Nat} (hk : k < xs.length) (w t : Nat) : joinL (xs.drop k) w t = bif decide (t &&& (xs.getD k default).mask = 0) then joinL (xs.drop (k + 1)) (w ||| (xs.getD k default).bits) (t ||| (xs.getD k default).mask) else none := by
  rw [List.drop_eq_getElem_cons hk, joinL, List.getD_eq_getElem?_getD, List.getElem?_eq_getElem hk]; rfl
theorem or_lt64 {a b : Nat} (ha : a < 18446744073709551616) (hb : b < 18446744073709551616) : a ||| b < 18446744073709551616 := Nat.or_lt_two_pow (n := 64) ha hb
theorem and_lt64 {a b : Nat} (ha : a < 18446744073709551616) : a &&& b < 18446744073709551616 := Nat.lt_of_le_of_lt Nat.and_le_left ha
theorem wJoined_e (xs : List FdD) (hx : ∀ f ∈ xs, f.Ok) {w : World} {v : Value} (h : SlAt w v 3 (xs.map fdV)) : Fn Tryz.prog 250 [v].toArray w [] (fun u _ => u = .tuple #[.int .u64 (joinV (joinL xs 0 0) : Int), .int .u64 (joinT (joinL xs 0 0) : Int), .int .i64 (joinE (joinL xs 0 0))]) := by
  obtain ⟨a, ac, rfl, hane, hal⟩ := h.opened
  have hok : ∀ k, k < xs.length → (xs.getD k default).Ok := fun k hk => hx _ (by rw [List.getD_eq_getElem?_getD, List.getElem?_eq_getElem hk]; simp)
  refine enter Tryz.func250 ?_
  refine run ?_
  refine loopS (σ := Nat) (fun k => [(12, .int .i64 (k : Int))]) (fun _ => []) (fun k => k ≤ xs.length) (fun k => xs.length - k) 0 (Nat.zero_le _) ?_
  rintro k m hm hk
  refine run ?_
  refine st_cond _ rfl (fun hc => ?_) (fun hc => ?_)
  · have hlt : k < xs.length := by simp at hc; omega
    obtain ⟨b, o, rfl⟩ := hane (by rintro rfl; simp at hlt)
    have hr := h.row hlt
    have hf := hok k hlt
    generalize xs.getD k default = x at hr hf
    refine run ?_
    intro F
    refine run ?_
    refine callE (fun wc hG => wMay_e x hf wc) ?_
    refine runC ?_
    exact nextS (k + 1) hlt
  · refine run ?_
    clear hc
    refine loopS (σ := Nat × Nat × Nat) (fun s => [(23, .int .i64 (s.1 : Int)), (2, .int .u64 (s.2.1 : Int)), (3, .int .u64 (s.2.2 : Int))]) (fun _ => []) (fun s => s.1 ≤ xs.length ∧ s.2.1 < 18446744073709551616 ∧ s.2.2 < 18446744073709551616 ∧ joinL (xs.drop s.1) s.2.1 s.2.2 = joinL xs 0 0) (fun s => xs.length - s.1) (0, 0, 0) ⟨Nat.zero_le _, by decide, by decide, rfl⟩ ?_
    rintro ⟨k2, wd, tk⟩ m2 hm2 ⟨hk2, hw, ht, hj⟩
    dsimp only at hm2 hk2 hw ht hj ⊢
    refine run ?_
    refine st_cond _ rfl (fun hc => ?_) (fun hc => ?_)
    · have hlt : k2 < xs.length := by simp at hc; omega
      obtain ⟨b, o, rfl⟩ := hane (by rintro rfl; simp at hlt)
      have hr := h.row hlt
      have hf := hok k2 hlt
      rw [joinL_next hlt] at hj
      generalize xs.getD k2 default = x at hr hf hj
      refine run ?_
      intro F
      refine run ?_
      intro X
      refine callE (fun wc hG => wMask_e x hf wc) ?_
      refine op1 (by rfl) (x_andN rfl rfl tk x.mask (by rfl) (by rfl) ht x.mask_lt) ?_
      refine run ?_
      refine st_cond _ rfl (fun hq => ?_) (fun hq => ?_)
      · have hq' : decide (tk &&& x.mask = 0) = false := by simpa using hq
        rw [hq'] at hj
        rw [← hj]
        refine run ?_
        exact fin3 rfl
      · have hq' : decide (tk &&& x.mask = 0) = true := by simpa using hq
        rw [hq'] at hj
        refine run ?_
        refine late 13 9 ?_
        refine lateA 13 12 ?_
        refine drawMA 13 [0, 1, 2, 3, 4, 5, 6, 7, 8, 9, 10, 11, 12] [] [] ?_
        refine runS ?_
        refine de1_s rfl (fun hx2 => x_shlN rfl rfl x.v x.a (by rfl) (by rfl) (by have := hf.an; omega)) ?_
        refine de1_s rfl (fun hx2 => x_orN rfl rfl wd x.bits (by rfl) (by rfl) hw x.bits_lt) ?_
        refine runS ?_
        refine de1_s rfl (fun hx2 => x_call (calOk 318 rfl) rfl (fun wc hG => wMask_e x hf wc)) ?_
        refine de1_s rfl (fun hx2 => x_orN rfl rfl tk x.mask (by rfl) (by rfl) ht x.mask_lt) ?_
        refine runS ?_
        refine eNil ?_
        simp only [DN]
        refine dNil ?_
        refine opsF ?_
        simp only [List.cons_append, List.nil_append, List.append_nil]
        refine run ?_
        exact nextS (k2 + 1, wd ||| x.bits, tk ||| x.mask) ⟨hlt, or_lt64 hw x.bits_lt, or_lt64 ht x.mask_lt, hj⟩
    · have hk0 : k2 = xs.length := by simp at hc; omega
      subst hk0
      rw [List.drop_length] at hj
      rw [← hj]
      refine run ?_
      exact fin3 rfl
theorem wJoin_e (xs : List FdD) (hx : ∀ f ∈ xs, f.Ok) {w : World} {v : Value} (h : SlAt w v 3 (xs.map fdV)) : Fn Tryz.prog 162 [v].toArray w [] (fun u _ => u = .tuple #[.int .u64 (joinV (joinL xs 0 0) : Int), .int .i64 (joinE (joinL xs 0 0))]) := by
  obtain ⟨a, ac, rfl, hane, hal⟩ := h.opened
  refine enter Tryz.func162 ?_
  refine run ?_
  refine callE (fun wc hG => wJoined_e xs hx (h.good hG)) ?_
  refine run ?_
  exact fin2 rfl
theorem rMask_e (n : Nat) (hn : n ≤ 64) (w : World) : Fn Tryz.prog 322 [.int .i64 (n : Int)].toArray w [] (fun u _ => u = .int .u64 (lowN n : Int)) := by
  refine enter Tryz.func322 ?_
  refine run ?_
  refine st_cond _ rfl (fun hc => ?_) (fun hc => ?_)
  · have : n = 64 := by simp at hc; omega
    subst this
    refine run ?_
    exact fin1 rfl
  · have hlt : n < 64 := by simp at hc; omega
    refine run ?_
    refine op1 (by rfl) (x_shlN rfl rfl 1 n (by rfl) (by rfl) (by omega)) ?_
    have e : ∀ n, n < 64 → ((1 <<< n) % 18446744073709551616 : Nat) = 2 ^ n ∧ 1 ≤ 2 ^ n ∧ 2 ^ n ≤ 18446744073709551615 := by decide
    obtain ⟨e1, e2, e3⟩ := e n hlt
    rw [e1]
    refine run ?_
    refine fin1 ?_
    rw [lowN_eq hn, IntKind.wrap_u64]
    generalize 2 ^ n = z at e2 e3
    congr 1
    omega
theorem rGet_e (v a n : Nat) (hn : n ≤ 64) (han : a ≤ 64) (hv : v < 18446744073709551616) (w : World) : Fn Tryz.prog 262 [.int .u64 (v : Int), .int .i64 (a : Int), .int .i64 (n : Int)].toArray w [] (fun u _ => u = .int .u64 (getN v a n : Int)) := by
  refine enter Tryz.func262 ?_
  refine run ?_
  refine drawN 6 ?_
  refine runD ?_
  refine opD (x_shrN rfl rfl v a (by rfl) (by rfl) (by omega)) ?_
  refine runD ?_
  refine callD (fun wc hG => rMask_e n hn wc) ?_
  refine opD (x_andN rfl rfl (v >>> a) (lowN n) (by rfl) (by rfl) (Nat.lt_of_le_of_lt (by rw [Nat.shiftRight_eq_div_pow]; exact Nat.div_le_self _ _) hv) (lowN_lt _)) ?_
  refine runD ?_
  refine run ?_
  exact fin1 rfl
theorem rFits_e (a n : Nat) (hn : 1 ≤ n) (han : a + n ≤ 64) (w : World) : Fn Tryz.prog 360 [.int .i64 (a : Int), .int .i64 (n : Int)].toArray w [] (fun u _ => u = .bool true) := by
  refine enter Tryz.func360 ?_
  refine runG ?_
  refine fin1 ?_
  have c1 : decide ((0 : Int) ≤ (a : Int)) = true := decide_eq_true (by omega)
  have c2 : decide ((a : Int) ≤ 63) = true := decide_eq_true (by omega)
  have c3 : decide ((1 : Int) ≤ (n : Int)) = true := decide_eq_true (by omega)
  have c4 : decide ((n : Int) ≤ 64 - (a : Int)) = true := decide_eq_true (by omega)
  simp [c1, c2, c3, c4]
theorem rField_e (f : FdD) (h : f.Ok) (w : World) : Fn Tryz.prog 349 [.agg #[.int .i64 (f.a : Int), .int .i64 (f.n : Int), .int .u64 (f.v : Int)]].toArray w [] (fun u _ => u = .bool true) := by
  have h1 := h.n1
  have h2 := h.an
  have h3 := h.v64
  have h4 := andNot_low (show f.n ≤ 64 by omega) h.v
  refine enter Tryz.func349 ?_
  refine run ?_
  intro B
  refine run ?_
  refine drawN 14 ?_
  refine runDG ?_
  refine callD (fun wc hG => rFits_e f.a f.n h1 h2 wc) ?_
  refine runDG ?_
  refine callDG (fun hg wc hG => rMask_e f.n (by omega) wc) ?_
  refine opDG (hy := fun hg => x_andNotN (by (simp only [hg, gv_true]; rfl)) (by (simp only [hg, gv_true]; rfl)) f.v (lowN f.n) (by rfl) (by rfl) h3 (lowN_lt _)) (h := ?_)
  rw [h4]
  refine runDG ?_
  refine run ?_
  refine fin1 ?_
  rfl
theorem rJoin_e (xs : List FdD) (hx : ∀ f ∈ xs, f.Ok) {w : World} {v : Value} (h : SlAt w v 3 (xs.map fdV)) : Fn Tryz.prog 312 [v].toArray w [] (fun u _ => u = .tuple #[.int .u64 (joinV (joinL xs 0 0) : Int), .int .u64 (joinT (joinL xs 0 0) : Int), .int .i64 (joinE (joinL xs 0 0))]) := by
  obtain ⟨a, ac, rfl, hane, hal⟩ := h.opened
  have hok : ∀ k, k < xs.length → (xs.getD k default).Ok := fun k hk => hx _ (by rw [List.getD_eq_getElem?_getD, List.getElem?_eq_getElem hk]; simp)
  refine enter Tryz.func312 ?_
  refine run ?_
  refine loopS (σ := Nat) (fun k => [(5, .int .i64 (k : Int))]) (fun _ => []) (fun k => k ≤ xs.length) (fun k => xs.length - k) 0 (Nat.zero_le _) ?_
  rintro k m hm hk
  refine run ?_
  refine st_cond _ rfl (fun hc => ?_) (fun hc => ?_)
  · have hlt : k < xs.length := by simp at hc; omega
    obtain ⟨b, o, rfl⟩ := hane (by rintro rfl; simp at hlt)
    have hr := h.row hlt
    have hf := hok k hlt
    generalize xs.getD k default = x at hr hf
    refine run ?_
    refine callE (fun wc hG => rField_e x hf wc) ?_
    refine runC ?_
    exact nextS (k + 1) hlt
  · refine run ?_
    clear hc
    refine loopS (σ := Nat × Nat × Nat) (fun s => [(8, .int .i64 (s.1 : Int)), (6, .int .u64 (s.2.1 : Int)), (7, .int .u64 (s.2.2 : Int))]) (fun _ => []) (fun s => s.1 ≤ xs.length ∧ s.2.1 < 18446744073709551616 ∧ s.2.2 < 18446744073709551616 ∧ joinL (xs.drop s.1) s.2.1 s.2.2 = joinL xs 0 0) (fun s => xs.length - s.1) (0, 0, 0) ⟨Nat.zero_le _, by decide, by decide, rfl⟩ ?_
    rintro ⟨k2, wd, tk⟩ m2 hm2 ⟨hk2, hw, ht, hj⟩
    dsimp only at hm2 hk2 hw ht hj ⊢
    refine run ?_
    refine st_cond _ rfl (fun hc => ?_) (fun hc => ?_)
    · have hlt : k2 < xs.length := by simp at hc; omega
      obtain ⟨b, o, rfl⟩ := hane (by rintro rfl; simp at hlt)
      have hr := h.row hlt
      have hf := hok k2 hlt
      rw [joinL_next hlt] at hj
      generalize xs.getD k2 default = x at hr hf hj
      have hr0 := rangeAt_cell0 hr
      have hr1 := rangeAt_cell (k := 1) hr rfl
      have hr2 := rangeAt_cell (k := 2) hr rfl
      refine run ?_
      refine drawN 12 ?_
      refine runD ?_
      refine callD (fun wc hG => rMask_e x.n (by have := hf.an; omega) wc) ?_
      refine runD ?_
      refine opD (x_shlN rfl rfl (lowN x.n) x.a (by rfl) (by rfl) (by have := hf.an; omega)) ?_
      refine runD ?_
      refine run ?_
      refine op1 (by rfl) (x_andN rfl rfl tk x.mask (by rfl) (by rfl) ht x.mask_lt) ?_
      refine run ?_
      refine st_cond _ rfl (fun hq => ?_) (fun hq => ?_)
      · have hq' : decide (tk &&& x.mask = 0) = false := by simpa using hq
        rw [hq'] at hj
        rw [← hj]
        refine run ?_
        exact fin3 rfl
      · have hq' : decide (tk &&& x.mask = 0) = true := by simpa using hq
        rw [hq'] at hj
        refine run ?_
        refine op1 (by rfl) (x_orN rfl rfl tk x.mask (by rfl) (by rfl) ht x.mask_lt) ?_
        refine run ?_
        refine drawN 13 ?_
        refine runD ?_
        refine opD (x_shlN rfl rfl x.v x.a (by rfl) (by rfl) (by have := hf.an; omega)) ?_
        refine opD (x_orN rfl rfl wd x.bits (by rfl) (by rfl) hw x.bits_lt) ?_
        refine runD ?_
        refine run ?_
        exact nextS (k2 + 1, wd ||| x.bits, tk ||| x.mask) ⟨hlt, or_lt64 hw x.bits_lt, or_lt64 ht x.mask_lt, hj⟩
    · have hk0 : k2 = xs.length := by simp at hc; omega
      subst hk0
      rw [List.drop_length] at hj
      rw [← hj]
      refine run ?_
      exact fin3 rfl
end Go.Proofs.YtiaelhhmlbfkmaaGreat
