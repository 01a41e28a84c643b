/- Layer 16: scripts; what is too much; three tables at first; what was told is spoilt. -/
import Derived.Test.YtiggoglimlnmmaaPgG
import Derived.Test.YtiggoglimlnmmaaEngR
namespace Go.Proofs.Ytiggoglimlnmmaa
open Go.RowKit
set_option linter.unusedVariables false
set_option linter.unusedSimpArgs false
set_option maxRecDepth 20000
/-- An act: its row of numbers beside it as it lies. -/
structure AcD where
  dd : Int
  mid : Int
  n : Int
  d : DsD
  lp : Option Addr
  ll : Nat
  lc : Nat
instance : Inhabited AcD := ⟨⟨0, 0, 0, noDs, none, 0, 0⟩⟩
def acV (a : AcD) : List Value := [.int .i64 a.dd, .int .i64 a.mid, .int .i64 a.n, .int .i64 a.d.kind, .int .i64 a.d.frame, .bool a.d.r, .bool a.d.w, .bool a.d.x, .bool a.d.af, .bool a.d.ng, .int .i64 a.d.soft, .int .i64 a.d.note, .slice a.lp a.ll a.lc]
theorem ac_all {xs : List AcD} : ∀ c ∈ xs.map acV, c.length = 13 ∧ c.all (·.oneCell') = true := by
  intro c hc
  obtain ⟨x, _, rfl⟩ := List.mem_map.1 hc
  exact ⟨rfl, rfl⟩
structure SkD where
  ws : List Nat
  root : Int
  free : List Int
  acts : List AcD
/-- A script as it lies. -/
structure SkAt (w : World) (wv fv lv : Value) (S : SkD) : Prop where
  w64 : W64 S.ws
  ws : SlAt w wv 1 (S.ws.map uV)
  fr : SlAt w fv 1 (S.free.map inV)
  ac : SlAt w lv 13 (S.acts.map acV)
  wl : S.ws.length ≤ 140737488351232
  fl : S.free.length ≤ 140737488351232
  al : S.acts.length ≤ 140737488351232
  ll : ∀ a ∈ S.acts, a.ll ≤ 140737488351232
theorem SkAt.good {w w' : World} {hp : Hp} {wv fv lv : Value} {S : SkD} (h : SkAt w wv fv lv S) (hG : Good w [] hp w') : SkAt w' wv fv lv S := ⟨h.w64, h.ws.good hG, h.fr.good hG, h.ac.good hG, h.wl, h.fl, h.al, h.ll⟩
theorem Own.nthU {e : Nat} {n g cap : Nat} {cur : Array Value} {xs : List Nat} (hA : Own e 1 (.slice (some ⟨g, 0, none⟩) n cap) [⟨g, cur, e⟩] (xs.map uV)) {k : Nat} (hk : k < xs.length) : nth cur.toList k = some (.int .u64 (xs.getD k 0 : Int)) := by
  obtain ⟨g', cap', cur', e1, e2, hr⟩ := hA.row (n := xs.length) (by simp) (by omega)
  injection e2 with e2
  injection e2 with _ e2
  subst e2
  have hall : ∀ c ∈ xs.map uV, c.length = 1 := fun c hc => by obtain ⟨x, _, rfl⟩ := List.mem_map.1 hc; rfl
  have hi : (xs.map uV)[k]? = some (uV (xs.getD k 0)) := by
    rw [List.getElem?_map, List.getD_eq_getElem?_getD, List.getElem?_eq_getElem hk]; rfl
  have h1 := hr.nth hall hi (k := 0) rfl
  rwa [Nat.mul_one, Nat.add_zero] at h1
theorem uv_all {ws : List Nat} : ∀ c ∈ ws.map uV, c.length = 1 ∧ c.all (·.oneCell') = true := by
  intro c hc
  obtain ⟨x, _, rfl⟩ := List.mem_map.1 hc
  exact ⟨rfl, rfl⟩
theorem own_made (b m : Nat) (hm : m ≤ 65536) : Own 45 1 (.slice (some ⟨b, 0, none⟩) m m) [⟨b, madeCells (Value.int .u64 0).cells (m * 1), 45⟩] ((List.replicate m 0).map uV) := by
  rw [show madeCells (Value.int .u64 0).cells (m * 1) = ((List.replicate m [Value.int .u64 0]).flatten).toArray from made_rows [.int .u64 0] m 1 rfl (by decide)]
  exact own_row b m _ (by rw [List.map_replicate]; rfl) rfl uv_all (by simp) (by simp) (by unfold maxLen; omega)
def wkD : DsD := ⟨2, 7, true, false, false, false, false, 0, 0⟩
def wkR : TbR := mapG (List.replicate 64 0) 0 [1, 2, 3, 4] 5 wkD
theorem wkR_ok : (decide (wkR.e = 0) && decide (wkR.left = [4]) && decide (wkR.ws.length = 64) && wkR.ws.all (fun x => decide (x < 18446744073709551616)) && decide ((getL wkR.ws 0 5).e = 0) && decide ((getL wkR.ws 0 5).level = 3) && decide ((getL wkR.ws 0 5).d.frame = 7)) = true := by decide +kernel
attribute [local irreducible] Hy St Ops DH DHF
theorem num16_e (n : Int) (w : World) : Fn Try.prog 6 [.int .i64 n].toArray w [] (fun u _ => u = .int .i64 n) := by
  refine enter Try.func6 ?_
  refine run ?_
  exact fin1 rfl
theorem wakes16_e (w : World) : Fn Try.prog 13 [].toArray w [] (fun u _ => u = .bool true) := by
  refine enter Try.func13 ?_
  refine run ?_
  refine make (m := 64) (fun b => ?_) (by decide)
  refine run ?_
  intro F
  refine run ?_
  have hk := wkR_ok
  simp only [Bool.and_eq_true, decide_eq_true_eq] at hk
  obtain ⟨⟨⟨⟨⟨⟨k1, k2⟩, k3⟩, k4⟩, k5⟩, k6⟩, k7⟩ := hk
  have kw : W64 wkR.ws := fun x hx => by have := List.all_eq_true.1 k4 x hx; simpa using this
  refine callB (fun wc hG => gMap_e (List.replicate 64 0) (fun x hx => by rw [(List.mem_replicate.1 hx).2]; decide) ((own_made b 64 (by decide)).lie (fun e he => hG.here e (by obtain rfl := List.mem_singleton.1 he; simp)) (by simp)) (by simp) [1, 2, 3, 4] (vl := .slice (some ⟨F, 0, none⟩) 4 4) (lie_rows (xs := [inV 1, inV 2, inV 3, inV 4]) (hG.here ⟨F, #[.int .i64 1, .int .i64 2, .int .i64 3, .int .i64 4], 3⟩ mh) (by simp [inV]) (by simp)) ⟨_, _, rfl, by decide, .inr ⟨_, _, rfl⟩⟩ (by simp) 0 5 wkD) ?_
  rintro u hn2 ⟨v1, h1, v2, h2, rfl, hO1, hO2, hle⟩
  change Own _ _ _ _ (wkR.ws.map uV) at hO1
  change Own _ _ _ _ (wkR.left.map inV) at hO2
  rw [k2] at hO2
  obtain ⟨g1, c1, cu1, rfl, rfl, _⟩ := hO1.row (n := 64) (by simpa using k3) (by decide)
  obtain ⟨g2, c2, cu2, rfl, rfl, _⟩ := hO2.row (n := 1) (by simp) (by decide)
  refine ops_le [⟨g1, cu1, 45⟩, ⟨g2, cu2, 3⟩] (cnt1 hle) ?_
  refine run ?_
  intro M
  refine run ?_
  refine callE (fun wc hG => gGet_e wkR.ws kw (hO1.lie (fun e he => hG.here e (by obtain rfl := List.mem_singleton.1 he; simp)) (by simp [k3])) (by rw [k3]; rfl) 0 5 (by decide)) ?_
  generalize getL wkR.ws 0 5 = G at *
  rw [show (mapG (List.replicate 64 0) 0 [1, 2, 3, 4] 5 wkD).e = 0 from k1, k5, k6]
  refine run ?_
  intro N
  refine run ?_
  refine callE (fun wc hG => num16_e 0 wc) ?_
  refine runG ?_
  refine callEG (fun _ wc hG => num16_e 0 wc) ?_
  refine runG ?_
  refine opsGT ?_ rfl
  refine runG ?_
  intro T
  refine callEG (fun _ wc hG => eqNumbers_e [4] _ _ (hO2.lie (fun e he => hG.here e (by obtain rfl := List.mem_singleton.1 he; simp)) (by simp)) (lie_rows (xs := [inV 4]) (hG.here ⟨T, #[.int .i64 4], 3⟩ mh) (by simp [inV]) (by simp))) ?_
  refine runG ?_
  rw [k7, show ((3 : Nat) : Int) = 3 from rfl]
  refine runC ?_
  exact fin1 rfl
end Go.Proofs.Ytiggoglimlnmmaa
