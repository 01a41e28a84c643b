/- Layer 16: scripts; what is too much; three tables at first; what was told is spoilt. -/
import Derived.Test.YtiaelhhmlbfkmaaGreatPgG
import Derived.Test.YtiaelhhmlbfkmaaGreatEngR
namespace Go.Proofs.YtiaelhhmlbfkmaaGreat
open Go.RowKit
set_option linter.unusedVariables false
set_option linter.unusedSimpArgs false
set_option maxRecDepth 20000
/-- An act: its row of numbers beside it as it lies. -/
structure AcD where
  dd : Int
  mid : Int
  n : Int
  d : DsD
  lp : Option Addr
  ll : Nat
  lc : Nat
instance : Inhabited AcD := ⟨⟨0, 0, 0, noDs, none, 0, 0⟩⟩
def acV (a : AcD) : List Value := [.int .i64 a.dd, .int .i64 a.mid, .int .i64 a.n, .int .i64 a.d.kind, .int .i64 a.d.frame, .bool a.d.r, .bool a.d.w, .bool a.d.x, .bool a.d.af, .bool a.d.ng, .int .i64 a.d.soft, .int .i64 a.d.note, .slice a.lp a.ll a.lc]
theorem ac_all {xs : List AcD} : ∀ c ∈ xs.map acV, c.length = 13 ∧ c.all (·.oneCell') = true := by
  intro c hc
  obtain ⟨x, _, rfl⟩ := List.mem_map.1 hc
  exact ⟨rfl, rfl⟩
structure SkD where
  ws : List Nat
  root : Int
  free : List Int
  acts : List AcD
/-- A script as it lies. -/
structure SkAt (w : World) (wv fv lv : Value) (S : SkD) : Prop where
  w64 : W64 S.ws
  ws : SlAt w wv 1 (S.ws.map uV)
  fr : SlAt w fv 1 (S.free.map inV)
  ac : SlAt w lv 13 (S.acts.map acV)
  wl : S.ws.length ≤ 140737488351232
  fl : S.free.length ≤ 140737488351232
  al : S.acts.length ≤ 140737488351232
  ll : ∀ a ∈ S.acts, a.ll ≤ 140737488351232
theorem SkAt.good {w w' : World} {hp : Hp} {wv fv lv : Value} {S : SkD} (h : SkAt w wv fv lv S) (hG : Good w [] hp w') : SkAt w' wv fv lv S := ⟨h.w64, h.ws.good hG, h.fr.good hG, h.ac.good hG, h.wl, h.fl, h.al, h.ll⟩
theorem Own.nthU {e : Nat} {n g cap : Nat} {cur : Array Value} {xs : List Nat} (hA : Own e 1 (.slice (some ⟨g, 0, none⟩) n cap) [⟨g, cur, e⟩] (xs.map uV)) {k : Nat} (hk : k < xs.length) : nth cur.toList k = some (.int .u64 (xs.getD k 0 : Int)) := by
  obtain ⟨g', cap', cur', e1, e2, hr⟩ := hA.row (n := xs.length) (by simp) (by omega)
  injection e2 with e2
  injection e2 with _ e2
  subst e2
  have hall : ∀ c ∈ xs.map uV, c.length = 1 := fun c hc => by obtain ⟨x, _, rfl⟩ := List.mem_map.1 hc; rfl
  have hi : (xs.map uV)[k]? = some (uV (xs.getD k 0)) := by
    rw [List.getElem?_map, List.getD_eq_getElem?_getD, List.getElem?_eq_getElem hk]; rfl
  have h1 := hr.nth hall hi (k := 0) rfl
  rwa [Nat.mul_one, Nat.add_zero] at h1
theorem uv_all {ws : List Nat} : ∀ c ∈ ws.map uV, c.length = 1 ∧ c.all (·.oneCell') = true := by
  intro c hc
  obtain ⟨x, _, rfl⟩ := List.mem_map.1 hc
  exact ⟨rfl, rfl⟩
theorem own_made (b m : Nat) (hm : m ≤ 65536) : Own 47 1 (.slice (some ⟨b, 0, none⟩) m m) [⟨b, madeCells (Value.int .u64 0).cells (m * 1), 47⟩] ((List.replicate m 0).map uV) := by
  rw [show madeCells (Value.int .u64 0).cells (m * 1) = ((List.replicate m [Value.int .u64 0]).flatten).toArray from made_rows [.int .u64 0] m 1 rfl (by decide)]
  exact own_row b m _ (by rw [List.map_replicate]; rfl) rfl uv_all (by simp) (by simp) (by unfold maxLen; omega)
def wkD : DsD := ⟨2, 7, true, false, false, false, false, 0, 0⟩
def wkR : TbR := mapG (List.replicate 64 0) 0 [1, 2, 3, 4] 5 wkD
theorem wkR_ok : (decide (wkR.e = 0) && decide (wkR.left = [4]) && decide (wkR.ws.length = 64) && wkR.ws.all (fun x => decide (x < 18446744073709551616)) && decide ((getL wkR.ws 0 5).e = 0) && decide ((getL wkR.ws 0 5).level = 3) && decide ((getL wkR.ws 0 5).d.frame = 7)) = true := by decide +kernel
attribute [local irreducible] Hy St Ops DH DHF
theorem spoilWords_e {w : World} {v : Value} {ha : Hp} (xs : List Nat) (h64 : W64 xs) (hA : Own 47 1 v ha (xs.map uV)) (hN : HereN ha w) (hl : xs.length < 100000) : Fn Tryz.prog 233 [v].toArray w (ha.map (·.b)) (fun u hn => u = .tuple #[]) := by
  obtain ⟨q, cap, ev⟩ := hA.opened
  rw [List.length_map] at ev
  subst ev
  refine enterM _ hN Tryz.func233 ?_
  refine run ?_
  refine loopS (σ := Nat × Hp × List Nat) (fun s => [(2, .int .i64 (s.1 : Int))]) (fun s => s.2.1) (fun s => s.1 ≤ xs.length ∧ s.2.2.length = xs.length ∧ W64 s.2.2 ∧ Own 47 1 (.slice q xs.length cap) s.2.1 (s.2.2.map uV)) (fun s => xs.length - s.1) (0, ha, xs) ⟨Nat.zero_le _, rfl, h64, hA⟩ ?_
  rintro ⟨k, h, ys⟩ m hm ⟨hk, hyl, hy64, hO⟩
  dsimp only at hm hk hyl hy64 hO ⊢
  refine run ?_
  refine st_cond _ rfl (fun hc => ?_) (fun hc => ?_)
  · have hlt : k < xs.length := by simp at hc; omega
    obtain ⟨g, cap', cur, eg, rfl, hsz, hset⟩ := hO.setU (k := k) (by omega)
    rw [hyl] at eg
    cases eg
    have hn := hO.nthU (k := k) (by omega)
    refine run ?_
    refine op1 (by rfl) (x_xorN rfl rfl (ys.getD k 0) 21845 rfl rfl (hy64.at k) (by decide)) ?_
    refine run ?_
    exact nextS (k + 1, [⟨g, cur.setIfInBounds k (.int .u64 ((ys.getD k 0 ^^^ 21845 : Nat) : Int)), 47⟩], ys.set k (ys.getD k 0 ^^^ 21845)) (hm := by dsimp only; omega) ⟨hlt, by rw [List.length_set]; exact hyl, hy64.set (Nat.xor_lt_two_pow (n := 64) (hy64.at k) (by decide)) _, by rw [← hyl]; exact hset _⟩ (h2 := by (exact clcntL))
  · refine run ?_
    intro T
    refine appendW (c := uV 5) [⟨T, #[.int .u64 5], 47⟩] hO (fun v' ha' hA' => ?_) (by rw [List.length_map]; omega) (news_own (m := 1) mh rfl) clcntP
    refine run ?_
    exact fin0 rfl
end Go.Proofs.YtiaelhhmlbfkmaaGreat
