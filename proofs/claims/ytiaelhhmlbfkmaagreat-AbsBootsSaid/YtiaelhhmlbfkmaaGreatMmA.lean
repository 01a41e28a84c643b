/- Layers 0 and 2: rows copied, compared, looked through; memories. -/
import Derived.Test.YtiaelhhmlbfkmaaGreatDsA
namespace Go.Proofs.YtiaelhhmlbfkmaaGreat
open Go.RowKit
set_option linter.unusedVariables false
set_option linter.unusedSimpArgs false
set_option maxRecDepth 20000
abbrev uV (x : Nat) : List Value := [.int .u64 (x : Int)]
abbrev dsR (d : DsD) : List Value := [.int .i64 d.kind, .int .i64 d.frame, .bool d.r, .bool d.w, .bool d.x, .bool d.af, .bool d.ng, .int .i64 d.soft, .int .i64 d.note]
attribute [local irreducible] Hy St Ops DH DHF
theorem eqWords_e {w : World} (xs : List Nat) (u v : Value) (hu : SlAt w u 1 (xs.map uV)) (hv : SlAt w v 1 (xs.map uV)) : Fn Tryz.prog 308 [u, v].toArray w [] (fun r _ => r = .bool true) := by
  obtain ⟨q, cap, rfl, hne, hle⟩ := hu.opened
  obtain ⟨q2, cap2, rfl, hne2, _⟩ := hv.opened
  refine enter Tryz.func308 ?_
  refine run ?_
  refine st_cond _ rfl (fun hc => absurd hc (by simp)) (fun hc => ?_)
  refine run ?_
  refine loopS (σ := Nat) (fun k => [(5, .int .i64 (k : Int))]) (fun _ => []) (fun k => k ≤ xs.length) (fun k => xs.length - k) 0 (Nat.zero_le _) ?_
  rintro k m hm hk
  refine run ?_
  refine st_cond _ rfl (fun hc => ?_) (fun hc => ?_)
  · have hlt : k < xs.length := by simp at hc; omega
    obtain ⟨b, o, rfl⟩ := hne (by intro e; subst e; simp at hlt)
    obtain ⟨b2, o2, rfl⟩ := hne2 (by intro e; subst e; simp at hlt)
    have h1 := rangeAt_cell0 (hu.row hlt)
    have h2 := rangeAt_cell0 (hv.row hlt)
    simp only [uV, Nat.mul_one] at h1 h2
    refine run ?_
    refine drawAll ?_
    refine runD ?_
    refine run ?_
    refine st_cond _ rfl (fun hp => ?_) (fun hp => ?_)
    · simp [eqLeaves, eqLeaf] at hp
    · refine run ?_
      exact nextS (k + 1) hlt
  · refine run ?_
    exact fin1 rfl
theorem copyWords_e {w : World} (xs : List Nat) (v : Value) (h : SlAt w v 1 (xs.map uV)) (hl : xs.length < 1000000) : Fn Tryz.prog 94 [v].toArray w [] (fun u hp => Acc 47 1 u hp (xs.map uV)) := by
  obtain ⟨q, cap, rfl, hne, hle⟩ := h.opened
  refine enter Tryz.func94 ?_
  refine run ?_
  refine loopS (σ := Nat × Value × Hp) (fun s => [(3, s.2.1), (4, .int .i64 (s.1 : Int))]) (fun s => s.2.2) (fun s => s.1 ≤ xs.length ∧ Acc 47 1 s.2.1 s.2.2 ((xs.take s.1).map uV)) (fun s => xs.length - s.1) (0, _, []) ⟨by omega, Acc.nil _ _⟩ ?_
  rintro ⟨k, v, ha⟩ m hm ⟨hk, hA⟩
  dsimp only at hm hk hA ⊢
  refine run ?_
  refine st_cond _ rfl (fun hc => ?_) (fun hc => ?_)
  · have hlt : k < xs.length := by simp at hc; omega
    obtain ⟨b, o, rfl⟩ := hne (by intro e; subst e; simp at hlt)
    have h1 := rangeAt_cell0 (h.row hlt)
    simp only [uV, Nat.mul_one] at h1
    refine run ?_
    intro T
    refine appendA (c := uV (xs.getD k default)) hA (fun v' ha' hA' => ?_) (by simp; omega) (news_own (m := 1) mh rfl)
    refine run ?_
    refine nextS (k + 1, v', ha') ⟨hlt, ?_⟩
    dsimp only
    rw [take_next hlt, List.map_append]
    exact hA'
  · have : k = xs.length := by simp at hc; omega
    subst this
    refine run ?_
    refine fin1 ?_
    simpa using hA
theorem eqNumbers_e {w : World} (xs : List Int) (u v : Value) (hu : SlAt w u 1 (xs.map inV)) (hv : SlAt w v 1 (xs.map inV)) : Fn Tryz.prog 154 [u, v].toArray w [] (fun r _ => r = .bool true) := by
  obtain ⟨q, cap, rfl, hne, hle⟩ := hu.opened
  obtain ⟨q2, cap2, rfl, hne2, _⟩ := hv.opened
  refine enter Tryz.func154 ?_
  refine run ?_
  refine st_cond _ rfl (fun hc => absurd hc (by simp)) (fun hc => ?_)
  refine run ?_
  refine loopS (σ := Nat) (fun k => [(5, .int .i64 (k : Int))]) (fun _ => []) (fun k => k ≤ xs.length) (fun k => xs.length - k) 0 (Nat.zero_le _) ?_
  rintro k m hm hk
  refine run ?_
  refine st_cond _ rfl (fun hc => ?_) (fun hc => ?_)
  · have hlt : k < xs.length := by simp at hc; omega
    obtain ⟨b, o, rfl⟩ := hne (by intro e; subst e; simp at hlt)
    obtain ⟨b2, o2, rfl⟩ := hne2 (by intro e; subst e; simp at hlt)
    have h1 := rangeAt_cell0 (hu.row hlt)
    have h2 := rangeAt_cell0 (hv.row hlt)
    simp only [inV, Nat.mul_one] at h1 h2
    refine run ?_
    refine drawAll ?_
    refine runD ?_
    refine run ?_
    refine st_cond _ rfl (fun hp => ?_) (fun hp => ?_)
    · simp [eqLeaves, eqLeaf] at hp
    · refine run ?_
      exact nextS (k + 1) hlt
  · refine run ?_
    exact fin1 rfl
theorem copyNumbers_e {w : World} (xs : List Int) (v : Value) (h : SlAt w v 1 (xs.map inV)) (hl : xs.length < 1000000) : Fn Tryz.prog 146 [v].toArray w [] (fun u hp => Acc 3 1 u hp (xs.map inV)) := by
  obtain ⟨q, cap, rfl, hne, hle⟩ := h.opened
  refine enter Tryz.func146 ?_
  refine run ?_
  refine loopS (σ := Nat × Value × Hp) (fun s => [(3, s.2.1), (4, .int .i64 (s.1 : Int))]) (fun s => s.2.2) (fun s => s.1 ≤ xs.length ∧ Acc 3 1 s.2.1 s.2.2 ((xs.take s.1).map inV)) (fun s => xs.length - s.1) (0, _, []) ⟨by omega, Acc.nil _ _⟩ ?_
  rintro ⟨k, v, ha⟩ m hm ⟨hk, hA⟩
  dsimp only at hm hk hA ⊢
  refine run ?_
  refine st_cond _ rfl (fun hc => ?_) (fun hc => ?_)
  · have hlt : k < xs.length := by simp at hc; omega
    obtain ⟨b, o, rfl⟩ := hne (by intro e; subst e; simp at hlt)
    have h1 := rangeAt_cell0 (h.row hlt)
    simp only [inV, Nat.mul_one] at h1
    refine run ?_
    intro T
    refine appendA (c := inV (xs.getD k default)) hA (fun v' ha' hA' => ?_) (by simp; omega) (news_own (m := 1) mh rfl)
    refine run ?_
    refine nextS (k + 1, v', ha') ⟨hlt, ?_⟩
    dsimp only
    rw [take_next hlt, List.map_append]
    exact hA'
  · have : k = xs.length := by simp at hc; omega
    subst this
    refine run ?_
    refine fin1 ?_
    simpa using hA
theorem cloneInts_e {w : World} (v : Value) (xs : List (List Value)) (h : SlAt w v 1 xs) (hall : ∀ c ∈ xs, c.length = 1 ∧ c.all (·.oneCell') = true) (hl : xs.length < 1000000) : Fn Tryz.prog 119 [v].toArray w [] (fun u hn => Own 3 1 u hn xs) := by
  obtain ⟨⟨q, cap, rfl, hne⟩, _⟩ := h
  refine enter Tryz.func119 ?_
  refine run ?_
  refine op1 (by rfl) (x_nilS tb_ok rfl rfl) ?_
  refine run ?_
  refine st_cond _ rfl (fun hp => ?_) (fun hp => ?_)
  · obtain rfl : xs = [] := by
      rcases Classical.em (xs = []) with h | h
      · exact h
      · obtain ⟨b, o, rfl, _⟩ := hne h; cases hp
    refine run ?_
    refine fin1 ?_
    exact ⟨by simp, .inl ⟨rfl, rfl, rfl⟩⟩
  refine run ?_
  refine z_bslice0 tb_ok (by rfl) (by rfl) (fun g => ?_)
  refine run ?_
  rcases Classical.em (xs = []) with rfl | hx
  · cases q with
    | none => cases hp
    | some q =>
    refine op1 (by rfl) (x_append0 tb_ok (by_ := 0) rfl rfl rfl (Nat.le_refl _)) ?_
    refine run ?_
    refine fin1 ?_
    exact ⟨by simp, .inr ⟨g, 0, #[], rfl, rfl, ⟨rfl, Nat.le_refl _, by decide, rfl, rfl⟩⟩⟩
  · obtain ⟨b, o, rfl, hr⟩ := hne hx
    refine z_appendAll tb_ok (by rfl) rfl ⟨rfl, Nat.le_refl _, by decide, rfl, rfl⟩ rfl rfl rfl rfl rfl rfl (.refl _) rfl hall hr (by simp) hl (fun v' ha' hA => ?_)
    refine run ?_
    refine fin1 ?_
    rw [List.append_nil]
    exact hA
theorem cloneWords_e {w : World} (v : Value) (xs : List (List Value)) (h : SlAt w v 1 xs) (hall : ∀ c ∈ xs, c.length = 1 ∧ c.all (·.oneCell') = true) (hl : xs.length < 1000000) : Fn Tryz.prog 114 [v].toArray w [] (fun u hn => Own 47 1 u hn xs) := by
  obtain ⟨⟨q, cap, rfl, hne⟩, _⟩ := h
  refine enter Tryz.func114 ?_
  refine run ?_
  refine op1 (by rfl) (x_nilS tb_ok rfl rfl) ?_
  refine run ?_
  refine st_cond _ rfl (fun hp => ?_) (fun hp => ?_)
  · obtain rfl : xs = [] := by
      rcases Classical.em (xs = []) with h | h
      · exact h
      · obtain ⟨b, o, rfl, _⟩ := hne h; cases hp
    refine run ?_
    refine fin1 ?_
    exact ⟨by simp, .inl ⟨rfl, rfl, rfl⟩⟩
  refine run ?_
  refine z_bslice0 tb_ok (by rfl) (by rfl) (fun g => ?_)
  refine run ?_
  rcases Classical.em (xs = []) with rfl | hx
  · cases q with
    | none => cases hp
    | some q =>
    refine op1 (by rfl) (x_append0 tb_ok (by_ := 0) rfl rfl rfl (Nat.le_refl _)) ?_
    refine run ?_
    refine fin1 ?_
    exact ⟨by simp, .inr ⟨g, 0, #[], rfl, rfl, ⟨rfl, Nat.le_refl _, by decide, rfl, rfl⟩⟩⟩
  · obtain ⟨b, o, rfl, hr⟩ := hne hx
    refine z_appendAll tb_ok (by rfl) rfl ⟨rfl, Nat.le_refl _, by decide, rfl, rfl⟩ rfl rfl rfl rfl rfl rfl (.refl _) rfl hall hr (by simp) hl (fun v' ha' hA => ?_)
    refine run ?_
    refine fin1 ?_
    rw [List.append_nil]
    exact hA
theorem indexInt_e {w : World} (a : Int) (xs : List Int) (v : Value) (h : SlAt w v 1 (xs.map inV)) :
    Fn Tryz.prog 171 [v, .int .i64 a].toArray w [] (fun u _ => u = .int .i64 (idxI (fun t => decide (t = a)) xs)) := by
  obtain ⟨q, cap, rfl, hne, hle⟩ := h.opened
  refine enter Tryz.func171 ?_
  refine run ?_
  refine loopS (σ := Nat) (fun k => [(8, .int .i64 (k : Int))]) (fun _ => []) (fun k => k ≤ xs.length ∧ ∀ j, j < k → decide (xs.getD j default = a) = false) (fun k => xs.length - k) 0 ⟨Nat.zero_le _, fun j hj => absurd hj (by omega)⟩ ?_
  rintro k m rfl ⟨hk, hno⟩
  refine run ?_
  refine st_cond _ rfl (fun hc => ?_) (fun hc => ?_)
  · have hlt : k < xs.length := by simpa using hc
    obtain ⟨b, o, rfl⟩ := hne (by intro e; subst e; simp at hlt)
    have hr := rangeAt_cell0 (h.row hlt)
    have hr1 := hr
    simp only [Nat.mul_one] at hr1
    refine run ?_
    refine st_cond _ rfl (fun hp => ?_) (fun hp => ?_)
    · refine run ?_
      refine fin1 ?_
      rw [idxI_at hlt (by simpa [eq_comm] using hp) hno]
    · refine run ?_
      refine nextS (k + 1) ⟨hlt, fun j hj => ?_⟩
      rcases Nat.lt_succ_iff_lt_or_eq.1 hj with hj | rfl
      · exact hno j hj
      · simpa [eq_comm] using hp
  · have hge : k = xs.length := by simp at hc; omega
    subst hge
    refine run ?_
    refine fin1 ?_
    rw [idxI_none hno]
theorem containsInt_e {w : World} (a : Int) (xs : List Int) (v : Value) (h : SlAt w v 1 (xs.map inV)) :
    Fn Tryz.prog 85 [v, .int .i64 a].toArray w [] (fun u _ => u = .bool (xs.any fun t => decide (t = a))) := by
  refine enter Tryz.func85 ?_
  refine run ?_
  refine callE (fun wc hG => indexInt_e a xs v (h.good hG)) ?_
  refine run ?_
  refine fin1 ?_
  rw [← idxI_ge]

theorem num_e (n m : Int) (w : World) : Fn Tryz.prog 138 [.int .i64 n, .int .i64 m].toArray w [] (fun u _ => u = .bool (decide (0 ≤ n) && decide (n ≤ m))) := by
  refine enter Tryz.func138 ?_
  refine runG ?_
  exact fin1 rfl
theorem in_e {w : World} (a : Int) (xs : List Int) (v : Value) (h : SlAt w v 1 (xs.map inV)) :
    Fn Tryz.prog 100 [v, .int .i64 a].toArray w [] (fun u _ => u = .int .i64 (idxI (fun t => decide (t = a)) xs)) := by
  obtain ⟨q, cap, rfl, hne, hle⟩ := h.opened
  refine enter Tryz.func100 ?_
  refine run ?_
  refine loopS (σ := Nat) (fun k => [(5, .int .i64 (k : Int))]) (fun _ => []) (fun k => k ≤ xs.length ∧ ∀ j, j < k → decide (xs.getD j default = a) = false) (fun k => xs.length - k) 0 ⟨Nat.zero_le _, fun j hj => absurd hj (by omega)⟩ ?_
  rintro k m rfl ⟨hk, hno⟩
  refine run ?_
  refine st_cond _ rfl (fun hc => ?_) (fun hc => ?_)
  · have hlt : k < xs.length := by simpa using hc
    obtain ⟨b, o, rfl⟩ := hne (by intro e; subst e; simp at hlt)
    have hr := rangeAt_cell0 (h.row hlt)
    simp only [Nat.mul_one] at hr
    refine run ?_
    refine st_cond _ rfl (fun hp => ?_) (fun hp => ?_)
    · refine run ?_
      refine fin1 ?_
      rw [idxI_at hlt hp hno]
    · refine run ?_
      refine nextS (k + 1) ⟨hlt, fun j hj => ?_⟩
      rcases Nat.lt_succ_iff_lt_or_eq.1 hj with hj | rfl
      · exact hno j hj
      · exact hp
  · have hge : k = xs.length := by simp at hc; omega
    subst hge
    refine run ?_
    refine fin1 ?_
    rw [idxI_none hno]
theorem eqMem_e {w : World} (xs : List Nat) (u v : Value) (hu : SlAt w u 1 (xs.map uV)) (hv : SlAt w v 1 (xs.map uV)) : Fn Tryz.prog 229 [.agg #[u], .agg #[v]].toArray w [] (fun r _ => r = .bool true) := by
  refine enter Tryz.func229 ?_
  refine run ?_
  intro B C
  refine run ?_
  refine callE (fun wc hG => eqWords_e _ _ _ (hu.good hG) (hv.good hG)) ?_
  refine run ?_
  exact fin1 rfl
/-- A memory of one's own. -/
def MemR (ws : List Nat) (u : Value) (hn : Hp) : Prop := ∃ v h1, u = .agg #[v] ∧ Own 47 1 v h1 (ws.map uV) ∧ HpLe h1 hn
theorem copyMem_e {w : World} (xs : List Nat) (v : Value) (h : SlAt w v 1 (xs.map uV)) (hl : xs.length < 1000000) : Fn Tryz.prog 44 [.agg #[v]].toArray w [] (fun u hn => MemR xs u hn) := by
  obtain ⟨q, cap, rfl, _⟩ := h.opened
  refine enter Tryz.func44 ?_
  refine run ?_
  intro B
  refine run ?_
  intro X Y
  refine run ?_
  refine callB (fun wc hG => copyWords_e xs _ (h.good hG) hl) (fun v' hn hA => ?_)
  obtain ⟨q2, cap2, rfl⟩ := hA.own.opened
  refine ops_perm (_ ++ hn) List.perm_append_comm ?_
  simp only [List.cons_append, List.nil_append]
  refine run ?_
  refine finA ⟨_, _, rfl, hA.own, ?_⟩
  (exact clcntL)
/-- May a memory of so many words be? -/
def memOk (n : Nat) : Bool := decide (8 ≤ n) && decide (n ≤ 512) && decide (n % 8 = 0)
theorem memOk_iff {n : Nat} (h : memOk n = true) : 8 ≤ n ∧ n ≤ 512 ∧ n / 8 * 8 = n ∧ n / 8 ≤ 64 := by
  simp only [memOk, Bool.and_eq_true, decide_eq_true_eq] at h
  omega
theorem rMem_e (n cap : Nat) (q : Option Addr) (w : World) : Fn Tryz.prog 98 [.agg #[.slice q n cap]].toArray w [] (fun u _ => u = .bool (memOk n)) := by
  refine enter Tryz.func98 ?_
  refine run ?_
  intro B
  refine runG ?_
  refine opG (hy := fun hg => x_remN (by (simp only [hg, gv_true]; rfl)) rfl n 8 (by rfl) (by rfl) (by decide)) (h := ?_)
  refine runG ?_
  refine fin1 ?_
  congr 1
  unfold memOk
  have c1 : decide ((8 : Int) ≤ (n : Int)) = decide (8 ≤ n) := by rw [Bool.eq_iff_iff, decide_eq_true_eq, decide_eq_true_eq]; omega
  have c2 : decide ((n : Int) ≤ 512) = decide (n ≤ 512) := by rw [Bool.eq_iff_iff, decide_eq_true_eq, decide_eq_true_eq]; omega
  have c3 : decide (((n % 8 : Nat) : Int) = 0) = decide (n % 8 = 0) := by rw [Bool.eq_iff_iff, decide_eq_true_eq, decide_eq_true_eq]; omega
  rw [c1, c2, c3]
theorem rFrames_e (n cap : Nat) (hn : n < 4611686018427387904) (q : Option Addr) (w : World) : Fn Tryz.prog 52 [.agg #[.slice q n cap]].toArray w [] (fun u _ => u = .int .i64 ((n / 8 : Nat) : Int)) := by
  refine enter Tryz.func52 ?_
  refine run ?_
  intro B
  refine run ?_
  refine op1 (by rfl) (x_quoN rfl rfl n 8 (by rfl) (by rfl) (by decide) (by omega)) ?_
  refine run ?_
  exact fin1 rfl
theorem mMay_e (n cap : Nat) (hn : n < 4611686018427387904) (q : Option Addr) (w : World) : Fn Tryz.prog 238 [.agg #[.slice q n cap]].toArray w [] (fun u _ => u = .bool (memOk n)) := by
  refine enter Tryz.func238 ?_
  refine run ?_
  intro B
  refine runG ?_
  refine opG (hy := fun hg => x_remN (by (simp only [hg, gv_true]; rfl)) rfl n 8 (by rfl) (by rfl) (by decide)) (h := ?_)
  refine runG ?_
  refine opG (hy := fun hg => x_quoN (by (simp only [hg, gv_true]; rfl)) rfl n 8 (by rfl) (by rfl) (by decide) (by omega)) (h := ?_)
  refine runG ?_
  refine fin1 ?_
  congr 1
  unfold memOk
  have c1 : decide ((0 : Int) < (n : Int)) = decide (0 < n) := by rw [Bool.eq_iff_iff, decide_eq_true_eq, decide_eq_true_eq]; omega
  have c2 : decide (((n / 8 : Nat) : Int) ≤ 64) = decide (n / 8 ≤ 64) := by rw [Bool.eq_iff_iff, decide_eq_true_eq, decide_eq_true_eq]; omega
  have c3 : decide (((n % 8 : Nat) : Int) = 0) = decide (n % 8 = 0) := by rw [Bool.eq_iff_iff, decide_eq_true_eq, decide_eq_true_eq]; omega
  rw [c1, c2, c3, Bool.eq_iff_iff]
  simp only [Bool.and_eq_true, decide_eq_true_eq]
  omega
theorem mCheck_e (n cap : Nat) (hn : n < 4611686018427387904) (q : Option Addr) (w : World) : Fn Tryz.prog 148 [.agg #[.slice q n cap]].toArray w [] (fun u _ => u = .int .i64 (bif memOk n then 0 else 1)) := by
  refine enter Tryz.func148 ?_
  refine run ?_
  intro B
  refine run ?_
  refine callE (fun wc hG => mMay_e n cap hn q wc) ?_
  refine run ?_
  refine st_cond _ rfl (fun hc => ?_) (fun hc => ?_)
  · refine run ?_
    refine fin1 ?_
    have : memOk n = false := by simpa using hc
    rw [this]; rfl
  · refine run ?_
    refine fin1 ?_
    have : memOk n = true := by simpa using hc
    rw [this]; rfl
end Go.Proofs.YtiaelhhmlbfkmaaGreat
