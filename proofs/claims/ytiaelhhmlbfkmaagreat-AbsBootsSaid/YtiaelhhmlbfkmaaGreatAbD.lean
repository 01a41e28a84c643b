/- Layer 21 (abs): the host's tables, what is quiet, what is sound, where no machine lives. -/
import Derived.Test.YtiaelhhmlbfkmaaGreatAbC
namespace Go.Proofs.YtiaelhhmlbfkmaaGreat
open Go.RowKit
set_option linter.unusedVariables false
set_option linter.unusedSimpArgs false
set_option maxRecDepth 20000
attribute [local irreducible] Hy St Ops DH DHF DE1 DE2 DE3 DS DCh DWF
/-- Are the words at a place what they are to be? -/
def hostW (ws : List Nat) (pages : List PgD) (lv tb at_ : Nat) : Bool := decide (ws.getD ((lv + tb) * 8 + at_) 0 = (firstD pages lv tb at_).word 2 lv)
def hostN (lv : Nat) : Nat := if lv = 3 then 8 else 1
def hosL (ws : List Nat) (pages : List PgD) : Bool := (List.range 4).all fun lv => (List.range (hostN lv)).all fun tb => (List.range 8).all fun at_ => hostW ws pages lv tb at_
theorem hostL_true {ws : List Nat} {pages : List PgD} (h : ∀ lv, lv < 4 → ∀ tb, tb < hostN lv → ∀ a, a < 8 → hostW ws pages lv tb a = true) : hosL ws pages = true :=
  List.all_eq_true.2 fun lv hl => List.all_eq_true.2 fun tb ht => List.all_eq_true.2 fun a ha => h lv (List.mem_range.1 hl) tb (List.mem_range.1 ht) a (List.mem_range.1 ha)
theorem hostL_at {ws : List Nat} {pages : List PgD} (h : hosL ws pages = true) {lv tb a : Nat} (hl : lv < 4) (ht : tb < hostN lv) (ha : a < 8) : hostW ws pages lv tb a = true :=
  List.all_eq_true.1 (List.all_eq_true.1 (List.all_eq_true.1 h lv (List.mem_range.2 hl)) tb (List.mem_range.2 ht)) a (List.mem_range.2 ha)
theorem hostL_false {ws : List Nat} {pages : List PgD} {lv tb a : Nat} (hl : lv < 4) (ht : tb < hostN lv) (ha : a < 8) (h : hostW ws pages lv tb a = false) : hosL ws pages = false := by
  cases hh : hosL ws pages with
  | false => rfl
  | true => have := hostL_at hh hl ht ha; rw [h] at this; cases this
theorem firstD_may {pages : List PgD} (hpg : ∀ a ∈ pages, -1 ≤ a.own ∧ a.own ≤ 14) {lv tb at_ : Nat} (hl : lv < 4) (ht : tb < 8) (ha : at_ < 8) : (firstD pages lv tb at_).may 2 lv = true := by
  unfold firstD
  by_cases e3 : lv = 3
  · subst e3
    simp only [decide_true, cond_true]
    unfold pagesD
    cases hd : decide (tb * 8 + at_ < pages.length) with
    | false => exact noDs_may _ _
    | true =>
      have := hpg _ (getD_mem (of_decide_eq_true hd))
      exact ownD_may (by omega) this.1 this.2
  · rw [decide_eq_false e3, cond_false]
    by_cases e2 : lv = 2
    · rw [decide_eq_true e2, cond_true]
      exact tabD_may (by omega) (by omega) (by omega)
    · rw [decide_eq_false e2, cond_false]
      cases decide (at_ = 0) with
      | true => exact tabD_may (by omega) (by omega) (by omega)
      | false => exact noDs_may _ _
theorem hosted_e {w : World} {X : Nat} {wv : Value} {ws : List Nat} (h0 : w.rangeAt X 0 [wv]) (hs : SlAt w wv 1 (ws.map uV)) (hF : 16 ≤ ws.length / 8) {pv gv ov : Value} (pages : List PgD) (hp : SlAt w pv 2 (pages.map pgV)) (hpg : ∀ a ∈ pages, -1 ≤ a.own ∧ a.own ≤ 14) : Fn Tryz.prog 40 [.pointer (some ⟨X, 0, none⟩), .agg #[pv, gv, ov]].toArray w [] (fun u _ => u = .bool (hosL ws pages)) := by
  have h0' := rangeAt_cell0 h0
  obtain ⟨q, cap, rfl, hne, _⟩ := hs.opened
  obtain ⟨b, o, rfl⟩ := hne (by intro e; rw [e] at hF; simp at hF)
  refine enter Tryz.func40 ?_
  refine run ?_
  intro Q
  refine callE (fun wc hG => levels_e wc) ?_
  refine run ?_
  refine loopS (σ := Nat) (fun k => [(13, .int .i64 (k : Int)), (5, .int .i64 ((if k = 4 then 11 else k : Nat) : Int))]) (fun _ => [⟨Q, #[pv, gv, ov], 38⟩]) (fun k => k ≤ 4 ∧ ∀ lv, lv < k → ∀ tb, tb < hostN lv → ∀ a, a < 8 → hostW ws pages lv tb a = true) (fun k => 4 - k) 0 ⟨Nat.zero_le _, fun lv hl => absurd hl (Nat.not_lt_zero _)⟩ ?_
  rintro k m hm ⟨hk, hK⟩
  refine run ?_
  refine st_cond _ rfl (fun hc => ?_) (fun hc => ?_)
  rotate_left
  · have hk4 : k = 4 := by simp at hc; omega
    subst hk4
    refine run ?_
    refine fin1 ?_
    rw [hostL_true hK]
  have hk3 : k < 4 := by simp at hc; omega
  rw [if_neg (by omega : ¬ k = 4)]
  refine run ?_
  refine op1 (by rfl) (x_indexV rfl rfl rfl rfl (by omega) (by omega) (lv_nth k hk3)) ?_
  rw [show (if k = 3 then (8 : Int) else 1) = ((hostN k : Nat) : Int) by unfold hostN; split <;> rfl]
  have hN8 : hostN k ≤ 8 := by unfold hostN; split <;> decide
  refine run ?_
  refine loopS (σ := Nat) (fun t => [(18, .int .i64 (t : Int)), (5, .int .i64 ((k + t : Nat) : Int))]) (fun _ => [⟨Q, #[pv, gv, ov], 38⟩]) (fun t => t ≤ hostN k ∧ ∀ tb, tb < t → ∀ a, a < 8 → hostW ws pages k tb a = true) (fun t => hostN k - t) 0 ⟨Nat.zero_le _, fun tb ht => absurd ht (Nat.not_lt_zero _)⟩ ?_
  rintro t m2 hm2 ⟨ht, hT⟩
  refine run ?_
  refine st_cond _ rfl (fun hc2 => ?_) (fun hc2 => ?_)
  rotate_left
  · have hte : t = hostN k := by simp at hc2; omega
    subst hte
    refine run ?_
    refine nextS (k + 1) ⟨hk3, fun lv hl => ?_⟩ (h1 := ?_)
    · by_cases e : lv = k
      · subst e; exact hT
      · exact hK lv (by omega)
    · rw [show (if k + 1 = 4 then 11 else k + 1) = k + hostN k by unfold hostN; split <;> split <;> omega]
      (repeat (first | exact True.intro | (refine And.intro (by first | exact Or.inl rfl | exact Or.inr rfl) ?_)))
  have ht8 : t < hostN k := by simp at hc2; omega
  refine run ?_
  refine loopS (σ := Nat) (fun a => [(21, .int .i64 (a : Int))]) (fun _ => [⟨Q, #[pv, gv, ov], 38⟩]) (fun a => a ≤ 8 ∧ ∀ a', a' < a → hostW ws pages k t a' = true) (fun a => 8 - a) 0 ⟨Nat.zero_le _, fun a ha => absurd ha (Nat.not_lt_zero _)⟩ ?_
  rintro a m3 hm3 ⟨ha, hA⟩
  refine run ?_
  refine st_cond _ rfl (fun hc3 => ?_) (fun hc3 => ?_)
  rotate_left
  · have hae : a = 8 := by simp at hc3; omega
    subst hae
    refine run ?_
    refine nextS (t + 1) ⟨ht8, fun tb hl => ?_⟩
    by_cases e : tb = t
    · subst e; exact hA
    · exact hT tb (by omega)
  have ha8 : a < 8 := by simp at hc3; omega
  have hkt : k + t ≤ 10 := by unfold hostN at ht8; split at ht8 <;> omega
  have hlt : (k + t) * 8 + a < ws.length := by omega
  have hr := rangeAt_cell0 (hs.row hlt)
  simp only [Nat.mul_one] at hr
  have hmay := firstD_may (lv := k) (tb := t) (at_ := a) hpg hk3 (by omega) ha8
  refine run ?_
  refine callE (fun wc hG => abFirst_e X pages (hp.good hG) hpg k t a hk3 (by omega) ha8) ?_
  refine run ?_
  refine callE (fun wc hG => dWord_e 2 (.inr rfl) k hk3 (firstD pages k t a) wc) ?_
  rw [hmay, cond_true, cond_true]
  refine run ?_
  have hWe : hostW ws pages k t a = decide (((ws.getD ((k + t) * 8 + a) default : Nat) : Int) = (((firstD pages k t a).word 2 k : Nat) : Int)) := by
    unfold hostW
    rw [Bool.eq_iff_iff]
    simp only [decide_eq_true_eq]
    exact Int.ofNat_inj.symm
  refine st_cond _ rfl (fun hc4 => ?_) (fun hc4 => ?_)
  · rw [← hWe] at hc4
    have hf : hostW ws pages k t a = false := by simpa using hc4
    rw [hostL_false hk3 ht8 ha8 hf]
    refine run ?_
    exact fin1 rfl
  · rw [← hWe] at hc4
    have hf : hostW ws pages k t a = true := by simpa using hc4
    refine run ?_
    refine nextS (a + 1) ⟨ha8, fun a' hl => ?_⟩
    by_cases e : a' = a
    · subst e; exact hf
    · exact hA a' (by omega)
end Go.Proofs.YtiaelhhmlbfkmaaGreat
