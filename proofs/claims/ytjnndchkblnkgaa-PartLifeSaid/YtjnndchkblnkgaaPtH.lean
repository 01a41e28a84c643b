/- Layer 18 (part): where a page stands among a guest's maps: the program's search and the reference's. -/
import Derived.Test.YtjnndchkblnkgaaLay1
import Derived.Test.YtjnndchkblnkgaaLay3
import Derived.Test.YtjnndchkblnkgaaLay2
namespace Go.Proofs.Ytjnndchkblnkgaa
open Go.RowKit
set_option linter.unusedVariables false
set_option linter.unusedSimpArgs false
set_option maxRecDepth 20000
attribute [local irreducible] Hy St Ops DH DHF
section
variable {n : Nat} {w0 : World} {mu : List Nat} {l : Fm} {hp : Hp} {Q : Exit → Fm → Hp → Prop} {all : Array Oper} {rest : List Oper} {ty : TypeId} {pos : String} {af : Array Edge}
/-- A guarded call of a closure whose answer is known. -/
theorem callFEG {f d j dj : Nat} {want b : Bool} {x : Operand} {xs : List Operand} {vs fs us : List Value} {tys : Array TypeId} {v : Value} (hc : wnt b want = true → ∀ w, Good w0 mu hp w → Fn Try.prog f (fs ++ vs ++ us).toArray w [] (fun u _ => u = v)) (h : Ops Try.prog n w0 mu all rest ((d, gv (wnt b want) v) :: l) hp Q)
    (hj : (all[j]?).bind (·.dst) = some dj := by rfl) (hb : look l dj = some (.bool b) := by rfl) (hdj : Nat.blt dj n = true := by rfl) (hx : wnt b want = true → ev l x = some (.func (.func f) fs.toArray us.toArray) := by (intro hg1; (try simp only [hg1, gv_true, Bool.true_and]); rfl)) (hcal : mem calN f = true := by rfl) (hd : Nat.blt d n = true := by rfl) (hv : wnt b want = true → evs l xs = some vs := by (intro hg1; (try simp only [hg1, gv_true, Bool.true_and]); rfl)) : Ops Try.prog n w0 mu all (⟨some d, .call { callee := .value x, args := xs.toArray, argTypes := tys }, ty, pos, af, some (j, want)⟩ :: rest) l hp Q :=
  op1g hd hj hb hdj (fun hg => x_callF (calOk f hcal) (hx hg) (hv hg) (hc hg)) h
end
theorem place1_e (x : MpD) (mid : Int) (h1 : 0 ≤ x.mid ∧ x.mid ≤ 15) (h2 : 0 ≤ mid ∧ mid ≤ 15) (w : World) : Fn Try.prog 79 ([] ++ [Value.agg #[.int .i64 x.mid, .int .i64 x.frm], .int .i64 mid] ++ []).toArray w [] (fun u _ => u = .int .i64 (x.mid - mid)) := by
  refine enter Try.func79 ?_
  refine run ?_
  intro b
  refine run ?_
  exact fin1 rfl
theorem searchMaps_e {w : World} (xs : List MpD) (mid : Int) (v : Value) (h : SlAt w v 2 (xs.map mpV)) (h2 : 0 ≤ mid ∧ mid ≤ 15) (hx : ∀ k, k < xs.length → 0 ≤ (xs.getD k default).mid ∧ (xs.getD k default).mid ≤ 15) (hs : PtD.Sorted xs) (hl : xs.length ≤ 1000000) :
    Fn Try.prog 78 [v, .int .i64 mid, .func (.func 79) [].toArray [].toArray].toArray w [] (fun u _ => u = .tuple #[.int .i64 (PtD.lowb xs mid), .bool (PtD.thereB xs mid)]) := by
  obtain ⟨q, cap, rfl, hne, hle⟩ := h.opened
  have hlb := PtD.lowb_le xs mid
  refine enter Try.func78 ?_
  refine run ?_
  refine loopS (σ := Nat × Nat) (fun s => [(9, .int .i64 (s.1 : Int)), (10, .int .i64 (s.2 : Int))]) (fun _ => []) (fun s => s.1 ≤ s.2 ∧ s.2 ≤ xs.length ∧ (∀ j, j < s.1 → (xs.getD j default).mid < mid) ∧ ∀ j, s.2 ≤ j → j < xs.length → mid ≤ (xs.getD j default).mid) (fun s => s.2 - s.1) (0, xs.length) ⟨Nat.zero_le _, Nat.le_refl _, fun j hj => absurd hj (by simp), fun j h1 h2 => absurd h1 (by omega)⟩ ?_
  rintro ⟨i, j⟩ m hm ⟨hij, hj, ha, hb⟩
  dsimp only at hm hij hj ha hb ⊢
  refine run ?_
  refine st_cond _ rfl (fun hc => ?_) (fun hc => ?_)
  · have hlt : i < j := by simpa using hc
    obtain ⟨b, o, rfl⟩ := hne (by intro e; subst e; simp at hj; omega)
    have hlt2 : (i + j) / 2 < xs.length := by omega
    have hr := h.row hlt2
    simp only [mpV] at hr
    refine run ?_
    refine op1 (by rfl) (x_shrU (q := (((i + j) / 2 : Nat) : Int)) rfl rfl (by omega) (by omega) (by simp)) ?_
    refine run ?_
    refine callF (fun wc hG => place1_e (xs.getD ((i + j) / 2) default) mid (hx _ hlt2) h2 wc) ?_
    refine run ?_
    refine st_cond _ rfl (fun hp => ?_) (fun hp => ?_)
    · have hp' : (xs.getD ((i + j) / 2) default).mid < mid := by simp only [decide_eq_true_eq] at hp; omega
      refine run ?_
      refine nextS ((i + j) / 2 + 1, j) ⟨by dsimp only; omega, hj, fun t ht => ?_, hb⟩
      dsimp only at ht
      rcases Nat.lt_succ_iff_lt_or_eq.1 ht with h3 | rfl
      · have := hs _ _ h3 hlt2; omega
      · exact hp'
    · have hp' : mid ≤ (xs.getD ((i + j) / 2) default).mid := by simp only [decide_eq_false_iff_not] at hp; omega
      refine run ?_
      refine nextS (i, (i + j) / 2) ⟨by dsimp only; omega, by dsimp only; omega, ha, fun t h3 h4 => ?_⟩
      dsimp only at h3
      rcases Nat.lt_or_ge ((i + j) / 2) t with h5 | h5
      · have := hs _ _ h5 h4; omega
      · rw [show t = (i + j) / 2 by omega]; exact hp'
  · have hij' : i = j := by simp at hc; omega
    subst hij'
    have hlow := PtD.lowb_uniq hs hj ha hb
    rcases Nat.lt_or_ge i xs.length with hi | hi
    · obtain ⟨b, o, rfl⟩ := hne (by intro e; subst e; simp at hi)
      have hr := h.row hi
      simp only [mpV] at hr
      have hxi := hx i hi
      refine runG ?_
      refine callFEG (fun hg wc hG => place1_e (xs.getD i default) mid hxi h2 wc) ?_
      refine runG ?_
      refine fin2 ?_
      have e : decide ((i : Int) < (xs.length : Int)) = true := by simp; omega
      have e2 : decide (i < xs.length) = true := by simp; omega
      have e3 : decide ((xs.getD i default).mid - mid = 0) = decide ((xs.getD i default).mid = mid) := by rw [decide_eq_decide]; omega
      rw [← hlow, PtD.thereB, ← hlow, e, e2, e3]
    · refine run ?_
      have e2 : decide (i < xs.length) = false := by simp; omega
      rw [show decide ((i : Int) < (xs.length : Int)) = false by simp; omega]
      refine runG ?_
      refine fin2 ?_
      rw [← hlow, PtD.thereB, ← hlow, e2]
      rfl
theorem place_e {w : World} (xs : List MpD) (mid : Int) (b o : Nat) (v : Value) (hv : w.cell? ⟨b, o + 4, none⟩ = some v) (h : SlAt w v 2 (xs.map mpV)) (h2 : 0 ≤ mid ∧ mid ≤ 15) (hx : ∀ k, k < xs.length → 0 ≤ (xs.getD k default).mid ∧ (xs.getD k default).mid ≤ 15) (hs : PtD.Sorted xs) (hl : xs.length ≤ 1000000) :
    Fn Try.prog 58 [.pointer (some ⟨b, o, none⟩), .int .i64 mid].toArray w [] (fun u _ => u = .tuple #[.int .i64 (PtD.lowb xs mid), .bool (PtD.thereB xs mid)]) := by
  refine enter Try.func58 ?_
  refine run ?_
  refine callE (fun wc hG => searchMaps_e xs mid v (h.good hG) h2 hx hs hl) ?_
  refine run ?_
  exact fin2 rfl
end Go.Proofs.Ytjnndchkblnkgaa
