/- Layers 9, 10: the program's Check, may, Copy. -/
import Derived.Test.YtcjbpdejlfomkaaTlC
import Derived.Test.YtcjbpdejlfomkaaTlK
namespace Go.Proofs.Ytcjbpdejlfomkaa
open Go.RowKit
set_option linter.unusedVariables false
set_option linter.unusedSimpArgs false
set_option maxRecDepth 20000
attribute [local irreducible] Hy St Ops DH DHF
theorem within1_e (m x : Int) (B : Nat) (w : World) (hB : w.cell? ⟨B, 0, none⟩ = some (.int .i64 m)) : Fn Try.prog 159 ([] ++ [Value.int .i64 x] ++ [Value.pointer (some ⟨B, 0, none⟩)]).toArray w [] (fun u _ => u = .bool (!PtD.btw x 0 m)) := by
  refine enter Try.func159 ?_
  refine runG ?_
  refine fin1 ?_
  unfold PtD.btw
  rw [Bool.not_and]
  congr 1
  rw [← decide_not, ← decide_not]
  congr 1 <;> (rw [Bool.eq_iff_iff, decide_eq_true_eq, decide_eq_true_eq]; omega)
theorem tWithin_e (m : Int) (xs : List Int) {w : World} {v : Value} (h : SlAt w v 1 (xs.map inV)) : Fn Try.prog 135 [.int .i64 m, v].toArray w [] (fun u _ => u = .bool (xs.all fun x => PtD.btw x 0 m)) := by
  refine enter Try.func135 ?_
  refine run ?_
  intro B
  refine run ?_
  refine callE (fun wc hG => containsFNum_e (us := [.pointer (some ⟨B, 0, none⟩)]) (fun x => !PtD.btw x 0 m) xs _ (h.good hG) (fun x _ w' ha => within1_e m x B w' ?_)) ?_
  · obtain ⟨hp, hg⟩ := ha
    exact hg.cell (by rw [cell_of_block (hG.here _ mh)]; rfl) (by simp)
  refine run ?_
  refine fin1 ?_
  rw [← List.not_all_eq_any_not, Bool.not_not]
theorem tBase_e (level : Nat) (h0 : 1 ≤ level) (h : level < 4) (page : Nat) (hp : page ≤ 4095) (w : World) : Fn Try.prog 136 [.int .i64 (page : Int), .int .i64 (level : Int)].toArray w [] (fun u _ => u = .int .i64 (cutN (level - 1) page : Int)) := by
  refine enter Try.func136 ?_
  refine run ?_
  have h9 := dbits_lt (show level - 1 < 4 by omega)
  have hc := cut_bits (level - 1) (by omega) page (by omega)
  have e3 : ∀ l : Nat, l < 4 → 1 ≤ l → (1 <<< (3 * (4 - l)) : Nat) = coversN (l - 1) := by decide
  refine op1 (by rfl) (x_shlI rfl rfl 1 (3 * (4 - level)) (by rfl) (by omega) (by omega) (by rw [e3 level h h0]; exact Nat.lt_of_le_of_lt h9.2.1 (by decide))) ?_
  rw [e3 level h h0]
  refine run ?_
  refine op1 (by rfl) (x_andNotI rfl rfl) ?_
  rw [hc]
  refine run ?_
  exact fin1 rfl
theorem enMay_e (e : EnD) (w : World) : Fn Try.prog 93 [.agg (enV e).toArray].toArray w [] (fun u _ => u = .bool e.may) := by
  have e1 : wnt false false = true := rfl
  refine enter Try.func93 ?_
  refine run ?_
  intro B Z
  refine callE (fun wc hG => tWithin_e 15 [e.vmid, e.asid] (lie_rows (xs := [inV e.vmid, inV e.asid]) (hG.here ⟨Z, #[.int .i64 e.vmid, .int .i64 e.asid], 3⟩ mh) (by simp [inV]) (by simp))) ?_
  refine runG ?_
  cases hq : ([e.vmid, e.asid].all fun x => PtD.btw x 0 15) with
  | false =>
    simp only [List.all_cons, List.all_nil, Bool.and_true] at hq
    refine opG (v := .slice none 0 0) (hy := fun hg => by cases hg) (h := ?_)
    refine runG ?_
    refine st_cond _ rfl (fun hc => ?_) (fun hc => by cases hc)
    refine run ?_
    refine fin1 ?_
    unfold EnD.may EnD.nums
    rw [hq]; simp
  | true =>
    simp only [List.all_cons, List.all_nil, Bool.and_true] at hq
    simp only [Bool.not_true, e1, gv_true]
    refine opsGT ?_ rfl
    refine runG ?_
    intro Z2
    refine callEG (fun hg wc hG => tWithin_e 4095 [e.page, e.frame, e.mid] (lie_rows (xs := [inV e.page, inV e.frame, inV e.mid]) (hG.here ⟨Z2, #[.int .i64 e.page, .int .i64 e.frame, .int .i64 e.mid], 3⟩ mh) (by simp [inV]) (by simp))) ?_
    refine runG ?_
    have hnn : (false || !([e.page, e.frame, e.mid].all fun x => PtD.btw x 0 4095) || !decide (e.soft = 0)) = !e.nums := by
      unfold EnD.nums
      rw [hq]
      simp [Bool.and_assoc, Bool.or_assoc]
    rw [hnn]
    refine st_cond _ rfl (fun hn => ?_) (fun hn => ?_)
    · refine run ?_
      refine fin1 ?_
      have hn' : e.nums = false := by simpa using hn
      simp [EnD.may, hn']
    have hn' : e.nums = true := by simpa using hn
    clear hnn
    have hb := hn'
    simp only [EnD.nums, Bool.and_eq_true, decide_eq_true_eq] at hb
    have hpz := btw_toNat hb.1.1.1.2
    refine run ?_
    refine st_cond _ rfl (fun hk => ?_) (fun hk => ?_)
    · refine run ?_
      refine fin1 ?_
      simp [EnD.may, hn', hk]
    refine run ?_
    refine st_cond _ rfl (fun hk2 => ?_) (fun hk2 => ?_)
    · refine runG ?_
      refine fin1 ?_
      simp [EnD.may, hn', hk, hk2]
    refine run ?_
    refine st_cond _ rfl (fun hk3 => ?_) (fun hk3 => ?_)
    · refine runG ?_
      refine drawN 36 ?_
      refine runDG ?_
      refine callDG (b := decide (1 ≤ e.level) && decide (e.level < 4)) (want := true) (v := .int .i64 (cutN (e.level.toNat - 1) e.page.toNat : Int)) (fun hg wc hG => by
        simp [wnt] at hg
        have h5 := tBase_e e.level.toNat (by omega) (by omega) e.page.toNat hpz.2 wc
        rw [hpz.1, show ((e.level.toNat : Nat) : Int) = e.level by omega] at h5
        exact h5) ?_
      refine runDG ?_
      refine run ?_
      refine fin1 ?_
      have hz : decide (e.page = ((cutN (e.level.toNat - 1) e.page.toNat : Nat) : Int)) = decide (cutN (e.level.toNat - 1) e.page.toNat = e.page.toNat) := by
        rw [Bool.eq_iff_iff, decide_eq_true_eq, decide_eq_true_eq]
        have := hpz.1
        omega
      have hl4 : decide (e.level < 4) = decide (e.level ≤ 3) := by rw [Bool.eq_iff_iff, decide_eq_true_eq, decide_eq_true_eq]; omega
      rw [hz, hl4]
      simp only [EnD.may, hn', hk3, show decide (e.kind = 1) = false by simpa using hk, show decide (e.kind = 2) = false by simpa using hk2, cond_false, cond_true, Bool.true_and, PtD.btw, EnD.bare, eqLeaves, eqLeaf]
      cases e.r <;> cases e.w <;> cases e.x <;> cases e.af <;> cases e.ng <;> simp
    · refine run ?_
      refine fin1 ?_
      simp [EnD.may, hn', hk, hk2, hk3]
theorem due_e (i : IvD) (w : World) : Fn Try.prog 97 [.agg (ivV i).toArray].toArray w [] (fun u _ => u = .bool i.may) := by
  have e1 : wnt true true = true := rfl
  refine enter Try.func97 ?_
  refine run ?_
  intro B
  refine runG ?_
  cases hq : (decide (1 ≤ i.kind) && decide (i.kind ≤ 6)) with
  | false =>
    refine opG (v := .slice none 0 0) (hy := fun hg => by cases hg) (h := ?_)
    refine runG ?_
    refine fin1 ?_
    simp only [IvD.may, PtD.btw, hq, Bool.false_and]
  | true =>
    simp only [e1, gv_true]
    refine opsGT ?_ rfl
    refine runG ?_
    intro Z
    refine callEG (fun hg wc hG => tWithin_e 15 [i.vmid, i.asid] (lie_rows (xs := [inV i.vmid, inV i.asid]) (hG.here ⟨Z, #[.int .i64 i.vmid, .int .i64 i.asid], 3⟩ mh) (by simp [inV]) (by simp))) ?_
    refine runG ?_
    simp only [Bool.true_and]
    refine runG ?_
    cases hq2 : ([i.vmid, i.asid].all fun x => PtD.btw x 0 15) with
    | false =>
      refine opG (v := .slice none 0 0) (hy := fun hg => by cases hg) (h := ?_)
      refine runG ?_
      refine fin1 ?_
      simp only [List.all_cons, List.all_nil, Bool.and_true] at hq2
      unfold IvD.may
      rw [Bool.and_assoc (PtD.btw i.kind 1 6), hq2]
      simp
    | true =>
      simp only [e1, gv_true]
      refine opsGT ?_ rfl
      refine runG ?_
      intro Z2
      refine callEG (fun hg wc hG => tWithin_e 4095 [i.page] (lie_rows (xs := [inV i.page]) (hG.here ⟨Z2, #[.int .i64 i.page], 3⟩ mh) (by simp [inV]) (by simp))) ?_
      refine runG ?_
      refine fin1 ?_
      simp only [List.all_cons, List.all_nil, Bool.and_true] at hq2
      unfold IvD.may
      rw [Bool.and_assoc (PtD.btw i.kind 1 6), show PtD.btw i.kind 1 6 = true from hq, hq2]
      simp
end Go.Proofs.Ytcjbpdejlfomkaa
