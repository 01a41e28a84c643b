/- Layer 16: what is mapped is found: the law. -/
import Derived.Test.YtiggoglimlnmmaaPbT
namespace Go.Proofs.Ytiggoglimlnmmaa
open Go.RowKit
set_option linter.unusedVariables false
set_option linter.unusedSimpArgs false
set_option maxRecDepth 20000
attribute [local irreducible] Hy St Ops DH DHF DE1 DE2 DE3 DS DCh DWF
/-- What the law keeps of it: 0 where nothing is mapped. -/
def vI (h : Int) : Int := if h < 0 then 0 else h
def vC (hv : List Int) : Array Value := (hv.map fun x => Value.int .i64 (vI x)).toArray
theorem vI_pos {h : Int} : 0 < vI h ↔ 0 < h := by unfold vI; split <;> omega
theorem vI_eq {h : Int} (h0 : 0 < h) : vI h = h := by unfold vI; split <;> omega
theorem vC_nth {hv : List Int} {k : Nat} (h : k < hv.length) : nth (vC hv).toList k = some (.int .i64 (vI (hv.getD k 0))) := by
  have e : ∀ (l : List Int) (k : Nat), k < l.length → nth (l.map fun x => Value.int .i64 (vI x)) k = some (.int .i64 (vI (l.getD k 0))) := by
    intro l
    induction l with
    | nil => intro k h; exact absurd h (by simp)
    | cons x l ih =>
      intro k h
      cases k with
      | zero => rfl
      | succ k => exact ih k (by simpa using h)
  exact e hv k h
theorem vC_set (hv : List Int) (k : Nat) (x : Int) : (vC hv).setIfInBounds k (.int .i64 (vI x)) = vC (hv.set k x) := by
  simp [vC, List.map_set]
theorem vC_size (hv : List Int) : (vC hv).size = hv.length := by simp [vC]
def hv0 : List Int := List.replicate 64 0
theorem pbM_0 : pbM [] hv0 = List.replicate 192 0 := by decide +kernel
theorem hv0_at : ∀ k, k < 64 → hv0.getD k 0 = 0 := by decide
theorem pbI_0 : PbI [] hv0 := ⟨List.nodup_nil, by simp, by simp [hv0], fun k hk => by rw [hv0_at k hk]; decide, fun k hk h => absurd (hv0_at k hk) h⟩
theorem pb_unG {a : List Nat} {hv : List Int} (hI : PbI a hv) {page : Nat} (hp : page < 64) (hh : 0 < hv.getD page 0) : unmapG (pbM a hv) 0 (page : Int) 3 = (⟨pbM a (hv.set page (-1)), [], 0⟩, lfD (hv.getD page 0)) := by
  unfold unmapG
  have h1 : askOk (pbM a hv).length (page : Int) = true := by
    rw [pbM_len]; unfold askOk; rw [Bool.and_eq_true]; exact ⟨by decide, by simp [PtD.btw]; omega⟩
  rw [h1, Int.toNat_natCast]
  exact pb_unmap hI hp hh
theorem pb_mapG {a : List Nat} {hv : List Int} (hI : PbI a hv) {page : Nat} (hp : page < 64) (hh : hv.getD page 0 ≤ 0) {x : Int} (h0 : 0 < x) (h6 : x ≤ 60) : mapG (pbM a hv) 0 (pbF a) (page : Int) (lfD x) = ⟨pbM (pbA a page) (hv.set page x), pbF (pbA a page), 0⟩ ∧ PbI (pbA a page) (hv.set page x) := by
  unfold mapG
  have h1 : askOk (pbM a hv).length (page : Int) = true := by
    rw [pbM_len]; unfold askOk; rw [Bool.and_eq_true]; exact ⟨by decide, by simp [PtD.btw]; omega⟩
  have h2 : (lfD x).may 2 3 = true := by
    obtain ⟨n, rfl⟩ : ∃ n : Nat, x = (n : Int) := ⟨x.toNat, by omega⟩
    have h3 : ∀ n : Nat, n < 61 → (lfD (n : Int)).may 2 3 = true := by decide +kernel
    exact h3 n (by omega)
  rw [h1, h2, Int.toNat_natCast]
  exact pb_map hI hp hh h0 h6
theorem own_capP {α : Type} {f : α → List Value} {e sz : Nat} {v : Value} {h : Hp} {xs : List α} (hA : Own e sz v h (xs.map f)) : ∃ p c, v = .slice p xs.length c ∧ xs.length ≤ c ∧ (p = none ∨ ∃ b off, p = some ⟨b, off, none⟩) := by
  obtain ⟨p, c, e1, h1⟩ := hA.openedC
  rw [List.length_map] at e1 h1
  refine ⟨p, c, e1, h1, ?_⟩
  rcases hA.2 with ⟨_, e2, _⟩ | ⟨g, cap, cur, e2, _⟩
  · rw [e1] at e2; injection e2 with e2; exact .inl e2
  · rw [e1] at e2; injection e2 with e2; exact .inr ⟨g, 0, e2⟩
theorem mp2_inj {a b : List MpD} (h : mp2 a = mp2 b) : a = b := by
  refine (List.map_inj_right (fun x y e => ?_)).1 h
  cases x; cases y; simpa using e
theorem t_some : ∃ xs, pgsL tX.ws 0 0 4096 = some xs ∧ pgsL tZ.ws 0 0 4096 = some xs ∧ xs.length = 64 := by
  have h := t_all
  generalize pgsL tX.ws 0 0 4096 = A at h ⊢
  generalize pgsL tZ.ws 0 0 4096 = C at h ⊢
  cases A with
  | none => cases h
  | some a =>
    cases C with
    | none => cases h
    | some b =>
      simp only [Bool.and_eq_true, decide_eq_true_eq] at h
      exact ⟨a, rfl, by rw [mp2_inj h.2], h.1⟩
structure BkS where
  k : Nat
  a : List Nat
  hv : List Int
  mv : Value
  hm : Hp
  fv : Value
  hf : Hp
set_option maxHeartbeats 4000000 in
theorem lawPgtBack_e {w : World} {wv fv lv : Value} {S : SkD} (h : SkAt w wv fv lv S) : Fn Try.prog 3 [.agg #[wv, .int .i64 S.root, fv, lv]].toArray w [] (fun u _ => u = .bool true) := by
  have h' := h
  obtain ⟨q1, c1, rfl, _, _⟩ := h.ws.opened
  obtain ⟨q2, c2, rfl, _, _⟩ := h.fr.opened
  obtain ⟨q3, c3, rfl, hne, _⟩ := h.ac.opened
  have h3 := h.al
  refine enter Try.func3 ?_
  refine run ?_
  intro B
  refine make (m := 192) (fun W0 => ?_) (by decide)
  refine run ?_
  intro M F V
  refine st_le ((⟨V, vC hv0, 29⟩ :: ([⟨F, #[.int .i64 1, .int .i64 2, .int .i64 3, .int .i64 4, .int .i64 5, .int .i64 6, .int .i64 7, .int .i64 8, .int .i64 9, .int .i64 10, .int .i64 11, .int .i64 12, .int .i64 13, .int .i64 14, .int .i64 15], 3⟩] ++ (⟨M, #[.slice (some ⟨W0, 0, none⟩) 192 192], 24⟩ :: ([⟨W0, madeCells (Value.int .u64 0).cells (192 * 1), 45⟩] ++ [⟨B, #[.slice q1 S.ws.length c1, .int .i64 S.root, .slice q2 S.free.length c2, .slice q3 S.acts.length c3], 28⟩]))))) (HpLe.refl _) ?_
  refine loopS (σ := BkS) (fun s => [(6, .int .i64 (s.k : Int)), (4, s.fv)]) (fun s => (⟨V, vC s.hv, 29⟩ :: (s.hf ++ (⟨M, #[s.mv], 24⟩ :: (s.hm ++ [⟨B, #[.slice q1 S.ws.length c1, .int .i64 S.root, .slice q2 S.free.length c2, .slice q3 S.acts.length c3], 28⟩]))))) (fun s => s.k ≤ 30 ∧ PbI s.a s.hv ∧ Own 45 1 s.mv s.hm ((pbM s.a s.hv).map uV) ∧ Own 3 1 s.fv s.hf ((pbF s.a).map inV)) (fun s => 30 - s.k) ⟨0, [], hv0, .slice (some ⟨W0, 0, none⟩) 192 192, [⟨W0, madeCells (Value.int .u64 0).cells (192 * 1), 45⟩], .slice (some ⟨F, 0, none⟩) 15 15, [⟨F, #[.int .i64 1, .int .i64 2, .int .i64 3, .int .i64 4, .int .i64 5, .int .i64 6, .int .i64 7, .int .i64 8, .int .i64 9, .int .i64 10, .int .i64 11, .int .i64 12, .int .i64 13, .int .i64 14, .int .i64 15], 3⟩]⟩ ⟨Nat.zero_le _, pbI_0, ?_, ?_⟩ ?_
  · rw [pbM_0]; exact own_made W0 192 (by decide)
  · exact own_row F 15 _ (by rfl) rfl (fun c hc => by obtain ⟨x, _, rfl⟩ := List.mem_map.1 hc; exact ⟨rfl, rfl⟩)
  rintro ⟨k, a, hv, mv, hm, fv, hf⟩ m hm0 ⟨hk, hI, hM, hF⟩
  dsimp only at hm0 hk hI hM hF ⊢
  refine runG ?_
  refine st_cond _ rfl (fun hc => ?_) (fun hc => ?_)
  rotate_left
  · clear hI hM hF
    refine run ?_
    refine make (m := 192) (fun b0 => ?_) (by decide)
    refine run ?_
    intro Z
    have hO := own_made b0 192 (by decide)
    generalize madeCells (Value.int .u64 0).cells (192 * 1) = c0 at hO ⊢
    obtain ⟨g, cap', cur, eg, eb, hsz, hset⟩ := hO.setU (k := 0) (by simp)
    cases eg
    cases eb
    have hT := hset 4099
    clear hO hset
    rw [List.length_replicate] at hT
    refine run ?_
    obtain ⟨⟨w1, n1⟩, ⟨w2, n2⟩, e2⟩ := (⟨okB_iff t_x.1, okB_iff t_x.2.1, t_x.2.2⟩ : (W64 tB ∧ tB.length = 192) ∧ (W64 tX.ws ∧ tX.ws.length = 192) ∧ tX.e = 0)
    refine callB (fun wc hG => gPutc_e tB w1 (hT.lie (fun e he => hG.here e (by obtain rfl := List.mem_singleton.1 he; exact mh)) (by rw [List.length_map]; simp)) (by rw [n1]; decide) 0 64 (by decide) 1 (by decide) (lfD 128) (by decide +kernel)) ?_
    rintro _ hn ⟨v1, h1, rfl, O1, hle1⟩
    change Own _ _ _ _ (tX.ws.map uV) at O1
    generalize he1 : (putM tB 0 64 1 (lfD 128)).e = E1
    have z1 : E1 = 0 := he1.symm.trans e2
    obtain ⟨p1, k1, ev1⟩ := O1.opened
    rw [List.length_map, n2] at ev1
    subst ev1
    refine ops_le h1 (cnt1 hle1) ?_
    refine run ?_
    intro X1 L2
    obtain ⟨⟨w3, n3⟩, l3, e3⟩ := (⟨okB_iff t_y.1, t_y.2⟩ : (W64 tY.ws ∧ tY.ws.length = 192) ∧ tY.left = [3] ∧ tY.e = 0)
    obtain ⟨⟨w4, n4⟩, l4, e4⟩ := (⟨okB_iff t_z.1, t_z.2⟩ : (W64 tZ.ws ∧ tZ.ws.length = 192) ∧ tZ.left = [] ∧ tZ.e = 0)
    refine callB (fun wc hG => gSplit_e tX.ws w2 (O1.lie (fun e he => hG.here e (by simp [he])) (by rw [List.length_map, n2]; decide)) (by rw [n2]; decide) [2, 3] (vl := .slice (some ⟨L2, 0, none⟩) 2 2) (lie_rows (xs := [inV 2, inV 3]) (hG.here ⟨L2, #[.int .i64 2, .int .i64 3], 3⟩ mh) (by simp [inV]) (by simp)) ⟨_, _, rfl, by decide⟩ (by decide) 0 70) ?_
    rintro _ hn2 ⟨v2, h2, v2l, h2l, rfl, O2, O2l, hle2⟩
    change Own _ _ _ _ (tY.ws.map uV) at O2
    change Own _ _ _ _ (tY.left.map inV) at O2l
    generalize he2 : (splitG tX.ws 0 [2, 3] 70).e = E2
    have z2 : E2 = 0 := he2.symm.trans e3
    rw [l3] at O2l
    obtain ⟨p2, k2, ev2⟩ := O2.opened
    rw [List.length_map, n3] at ev2
    subst ev2
    obtain ⟨pl, kl, evl, hkl⟩ := O2l.openedC
    subst evl
    refine ops_le (⟨X1, #[.slice p1 192 k1], 24⟩ :: (h1 ++ (h2 ++ h2l))) (cnt1 hle2) ?_
    refine run ?_
    intro X2
    refine callB (fun wc hG => gSplit_e tY.ws w3 (O2.lie (fun e he => hG.here e (by simp [he])) (by rw [List.length_map, n3]; decide)) (by rw [n3]; decide) [3] (vl := .slice pl 1 kl) (O2l.lie (fun e he => hG.here e (by simp [he])) (by decide)) ⟨_, _, rfl, by simpa using hkl⟩ (by decide) 0 70) ?_
    rintro _ hn3 ⟨v3, h3, v3l, h3l, rfl, O3, O3l, hle3⟩
    change Own _ _ _ _ (tZ.ws.map uV) at O3
    change Own _ _ _ _ (tZ.left.map inV) at O3l
    generalize he3 : (splitG tY.ws 0 [3] 70).e = E3
    have z3 : E3 = 0 := he3.symm.trans e4
    rw [l4] at O3l
    obtain ⟨p3, k3, ev3⟩ := O3.opened
    rw [List.length_map, n4] at ev3
    subst ev3
    obtain ⟨pz, kz, evz⟩ := O3l.opened
    subst evz
    refine ops_le (⟨X1, #[.slice p1 192 k1], 24⟩ :: (h1 ++ h3)) (cnt1 hle3) ?_
    refine run ?_
    intro X3
    refine callE (fun wc hG => num16_e E1 wc) ?_
    refine runG ?_
    refine callEG (fun _ wc hG => num16_e E2 wc) ?_
    refine runG ?_
    refine callEG (fun _ wc hG => num16_e E3 wc) ?_
    refine runG ?_
    refine st_cond _ rfl (fun hc5 => absurd hc5 (by simp [z1, z2, z3])) (fun _ => ?_)
    refine run ?_
    obtain ⟨xs, a1, a2, a3⟩ := t_some
    refine callB (fun wc hG => gAll_e tX.ws w2 (O1.lie (fun e he => hG.here e (by simp [he])) (by rw [List.length_map, n2]; decide)) (by rw [n2]; decide) 0) ?_
    rw [a1]
    rintro _ hn4 ⟨v4, h4, rfl, O4, hle4⟩
    obtain ⟨p4, k4, ev4⟩ := O4.opened
    rw [List.length_map] at ev4
    subst ev4
    refine ops_le (⟨X3, #[.slice p3 192 k3], 24⟩ :: (h4 ++ h3)) (cnt1 hle4) ?_
    refine run ?_
    refine callB (fun wc hG => gAll_e tZ.ws w4 (O3.lie (fun e he => hG.here e (by simp [he])) (by rw [List.length_map, n4]; decide)) (by rw [n4]; decide) 0) ?_
    rw [a2]
    rintro _ hn5 ⟨v5, h5, rfl, O5, hle5⟩
    obtain ⟨p5', k5, ev5⟩ := O5.opened
    rw [List.length_map] at ev5
    subst ev5
    refine ops_le (h4 ++ h5) (cnt1 hle5) ?_
    obtain ⟨y1, hy1⟩ : ∃ y : Int, y = 0 := ⟨_, rfl⟩
    obtain ⟨y2, hy2⟩ : ∃ y : Int, y = 0 := ⟨_, rfl⟩
    refine run ?_
    refine callE (v := .int .i64 y1) (fun wc hG => by rw [hy1]; exact num16_e 0 wc) ?_
    refine runG ?_
    refine callEG (v := .int .i64 y2) (fun _ wc hG => by rw [hy2]; exact num16_e 0 wc) ?_
    refine runG ?_
    refine callEG (fun _ wc hG => eqMapsQ_e xs _ _ (O4.lie (fun e he => hG.here e (by simp [he])) (by rw [List.length_map, a3]; decide)) (O5.lie (fun e he => hG.here e (by simp [he])) (by rw [List.length_map, a3]; decide))) ?_
    refine runG ?_
    refine callEG (fun _ wc hG => wakes16_e wc) ?_
    refine runG ?_
    refine fin1 ?_
    simp [hy1, hy2, a3, wnt, gv]
  obtain ⟨hlt, hk30⟩ : k < S.acts.length ∧ k < 30 := by simp at hc; omega
  obtain ⟨b3, o3, rfl⟩ := hne (by intro e; rw [e] at hlt; simp at hlt)
  have hr := h.ac.row hlt
  generalize S.acts.getD k default = A at hr
  simp only [acV] at hr
  have hr1 := rangeAt_cell (k := 1) hr rfl
  have hr2 := rangeAt_cell (k := 2) hr rfl
  have hw1 := wthn_lt A.mid (m := 64) (by decide)
  have hw2 := wthn_lt A.n (m := 60) (by decide)
  refine run ?_
  refine drawAll ?_
  refine runD ?_
  refine callD (fun wc hG => within_e wc A.mid 64 (by decide) (by decide)) ?_
  refine runD ?_
  refine callD (fun wc hG => within_e wc A.n 60 (by decide) (by decide)) ?_
  generalize wthn A.mid 64 = mid at hw1 ⊢
  generalize wthn A.n 60 = fr at hw2 ⊢
  refine runD ?_
  refine run ?_
  have hvn := vC_nth (hv := hv) (k := mid) (by rw [hI.len]; exact hw1)
  refine run ?_
  have hle := hI.le
  have hW : W64 (pbM a hv) := pbM_64
  have hvs : (vC hv).size = 64 := by rw [vC_size, hI.len]
  have hw60 : (1 : Int) + (fr : Int) ≤ 60 := by omega
  refine st_cutD (σ := BkS) (fun s => [(4, s.fv)]) (fun s => (⟨V, vC s.hv, 29⟩ :: (s.hf ++ (⟨M, #[s.mv], 24⟩ :: (s.hm ++ [⟨B, #[.slice q1 S.ws.length c1, .int .i64 S.root, .slice q2 S.free.length c2, .slice (some ⟨b3, o3, none⟩) S.acts.length c3], 28⟩]))))) (fun s => PbI s.a s.hv ∧ Own 45 1 s.mv s.hm ((pbM s.a s.hv).map uV) ∧ Own 3 1 s.fv s.hf ((pbF s.a).map inV)) ?_ ?_
  · refine st_cond _ rfl (fun hc2 => ?_) (fun hc2 => ?_)
    · have hpos : 0 < hv.getD mid 0 := vI_pos.1 (of_decide_eq_true hc2)
      refine run ?_
      refine callB (fun wc hG => gUnmap_e (pbM a hv) hW (hM.lie (fun e he => hG.here e (by simp [he])) (by rw [List.length_map, pbM_len]; decide)) (by rw [pbM_len]; decide) 0 (mid : Int) 3) ?_
      rw [pb_unG hI hw1 hpos]
      rintro _ hn ⟨mv2, hm2, rfl, hM2, hle2⟩
      dsimp only at hM2 ⊢
      obtain ⟨pm2, cm2, em2⟩ := hM2.opened
      subst em2
      refine ops_le (hm2 ++ (⟨V, vC hv, 29⟩ :: (hf ++ (⟨M, #[mv], 24⟩ :: (hm ++ [⟨B, #[.slice q1 S.ws.length c1, .int .i64 S.root, .slice q2 S.free.length c2, .slice (some ⟨b3, o3, none⟩) S.acts.length c3], 28⟩]))))) (cnt1 hle2) ?_
      refine run ?_
      intro X D
      refine drawAll ?_
      refine runDG ?_
      refine callD (fun wc hG => num16_e 0 wc) ?_
      refine runDG ?_
      refine run ?_
      rw [vI_eq hpos]
      refine st_cond _ rfl (fun hc3 => absurd hc3 (by simp [lfD])) (fun _ => ?_)
      refine run ?_
      refine ops_le (⟨M, #[mv], 24⟩ :: ⟨V, vC hv, 29⟩ :: (hf ++ (hm2 ++ [⟨B, #[.slice q1 S.ws.length c1, .int .i64 S.root, .slice q2 S.free.length c2, .slice (some ⟨b3, o3, none⟩) S.acts.length c3], 28⟩]))) clcntL ?_
      refine run ?_
      exact meetS (⟨k, a, hv.set mid (-1), _, hm2, fv, hf⟩ : BkS) ⟨hI.set hw1 (hI.at_ _ hw1 (by omega)) (by decide) (by decide), hM2, hF⟩ (h2 := by dsimp only; rw [← vC_set, show vI (-1) = 0 from rfl]; (exact clcntL))
    · have hneg : hv.getD mid 0 ≤ 0 := Int.not_lt.1 fun h => of_decide_eq_false hc2 (vI_pos.2 h)
      obtain ⟨hmap, hI2⟩ := pb_mapG hI hw1 hneg (x := 1 + (fr : Int)) (by omega) hw60
      have hfl : (pbF a).length ≤ 15 := by unfold pbF; rw [List.length_drop]; exact Nat.sub_le _ _
      refine run ?_
      refine callB (fun wc hG => gMap_e (pbM a hv) hW (hM.lie (fun e he => hG.here e (by simp [he])) (by rw [List.length_map, pbM_len]; decide)) (by rw [pbM_len]; decide) (pbF a) (hF.lie (fun e he => hG.here e (by simp [he])) (by rw [List.length_map]; omega)) (own_capP hF) (by omega) 0 (mid : Int) (lfD (1 + (fr : Int)))) ?_
      rw [hmap]
      rintro _ hn ⟨mv2, hm2, fv2, hf2, rfl, hM2, hF2, hle2⟩
      dsimp only at hM2 hF2 ⊢
      obtain ⟨pm2, cm2, em2⟩ := hM2.opened
      subst em2
      refine ops_le (hm2 ++ (hf2 ++ (⟨V, vC hv, 29⟩ :: (hf ++ (⟨M, #[mv], 24⟩ :: (hm ++ [⟨B, #[.slice q1 S.ws.length c1, .int .i64 S.root, .slice q2 S.free.length c2, .slice (some ⟨b3, o3, none⟩) S.acts.length c3], 28⟩])))))) (cnt1 hle2) ?_
      refine run ?_
      intro X
      refine callE (fun wc hG => num16_e 0 wc) ?_
      refine run ?_
      refine st_cond _ rfl (fun hc3 => absurd hc3 (by simp)) (fun _ => ?_)
      refine run ?_
      refine ops_le (⟨M, #[mv], 24⟩ :: ⟨V, vC hv, 29⟩ :: (hf2 ++ (hm2 ++ [⟨B, #[.slice q1 S.ws.length c1, .int .i64 S.root, .slice q2 S.free.length c2, .slice (some ⟨b3, o3, none⟩) S.acts.length c3], 28⟩]))) clcntL ?_
      refine run ?_
      exact meetS (⟨k, pbA a mid, hv.set mid (1 + (fr : Int)), _, hm2, fv2, hf2⟩ : BkS) ⟨hI2, hM2, hF2⟩ (h2 := by dsimp only; rw [← vC_set, vI_eq (show 0 < 1 + (fr : Int) by omega)]; (exact clcntL))
  clear hI hM hF hW hle hvn hvs
  rintro ⟨k', a, hv, mv, hm, fv, hf⟩ ⟨hI, hM, hF⟩
  dsimp only at hI hM hF ⊢
  refine run ?_
  refine loopS (σ := Nat) (fun j => [(15, .int .i64 (j : Int))]) (fun _ => (⟨V, vC hv, 29⟩ :: (hf ++ (⟨M, #[mv], 24⟩ :: (hm ++ [⟨B, #[.slice q1 S.ws.length c1, .int .i64 S.root, .slice q2 S.free.length c2, .slice (some ⟨b3, o3, none⟩) S.acts.length c3], 28⟩]))))) (fun j => j ≤ 64) (fun j => 64 - j) 0 (Nat.zero_le _) ?_
  rintro j m2 hm2 hj
  refine run ?_
  refine st_cond _ rfl (fun hc4 => ?_) (fun hc4 => ?_)
  rotate_left
  · refine run ?_
    exact nextS (⟨k + 1, a, hv, mv, hm, fv, hf⟩ : BkS) (hm := by dsimp only; omega) ⟨by dsimp only; omega, hI, hM, hF⟩
  have hj2 : j < 64 := by simp at hc4; omega
  obtain ⟨g1, g2, g3⟩ := pb_get hI hj2
  obtain ⟨g4, g5⟩ := pb_kind (hv.getD j 0)
  refine run ?_
  refine callE (fun wc hG => gGet_e (pbM a hv) pbM_64 (hM.lie (fun e he => hG.here e (by simp [he])) (by rw [List.length_map, pbM_len]; decide)) (by rw [pbM_len]; decide) 0 j (by omega)) ?_
  rw [g2]
  generalize (getL (pbM a hv) 0 j).e = E at g1 ⊢
  generalize (getL (pbM a hv) 0 j).level = lv at g3 ⊢
  have hvn := vC_nth (hv := hv) (k := j) (by rw [hI.len]; exact hj2)
  refine run ?_
  intro D
  refine drawAll ?_
  refine runDG ?_
  refine callD (fun wc hG => num16_e E wc) ?_
  refine runDG ?_
  refine run ?_
  refine st_cond _ rfl (fun hc5 => ?_) (fun _ => ?_)
  · exfalso
    subst g1
    rw [g4] at hc5
    clear hvn
    generalize hv.getD j 0 = x at g3 g5 hc5
    by_cases hp : 0 < x
    · simp [g5 hp, vI_eq hp, g3 (by omega), hp] at hc5
    · have hn : ¬ 0 < vI x := fun h => hp (vI_pos.1 h)
      simp [hp, hn] at hc5
  refine run ?_
  exact nextS (j + 1) hj2
end Go.Proofs.Ytiggoglimlnmmaa
