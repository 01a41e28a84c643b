/- Layer 20 (boot): the program's. -/
import Derived.Test.YtcjbpdejlfomkaaBoP
import Derived.Test.YtcjbpdejlfomkaaBtA
import Derived.Test.YtcjbpdejlfomkaaHyA
import Derived.Test.YtcjbpdejlfomkaaExA
namespace Go.Proofs.Ytcjbpdejlfomkaa
open Go.RowKit
set_option linter.unusedVariables false
set_option linter.unusedSimpArgs false
set_option maxRecDepth 20000
attribute [local irreducible] Hy St Ops DH DHF DE1 DE2 DE3 DS DCh
theorem bLeaf_e (f soft : Int) (w : World) : Fn Try.prog 41 [.int .i64 f, .int .i64 soft].toArray w [] (fun u _ => u = dsV (leafD f soft)) := by
  refine enter Try.func41 ?_
  refine run ?_
  intro B C
  refine run ?_
  exact finA (cs := #[.int .i64 2, .int .i64 f, .bool true, .bool true, .bool true, .bool true, .bool false, .int .i64 soft, .int .i64 0]) rfl
theorem memNew_e (n : Nat) (h0 : 1 ≤ n) (h1 : n ≤ 64) (w : World) : Fn Try.prog 68 [.int .i64 (n : Int)].toArray w [] (fun u hn => ∃ v1 h1, u = .tuple #[.agg #[v1], .int .i64 0] ∧ Own 107 1 v1 h1 ((List.replicate (n * 8) 0).map uV) ∧ HpLe h1 hn) := by
  refine enter Try.func68 ?_
  refine run ?_
  intro B
  refine runG ?_
  refine st_cond _ rfl (fun hc => absurd hc (by simp; omega)) (fun hc => ?_)
  refine run ?_
  rw [show (n : Int) * 8 = ((n * 8 : Nat) : Int) by omega]
  refine make (m := n * 8) (fun M => ?_) (by omega)
  refine run ?_
  exact finA1 ⟨_, [⟨M, madeCells (Value.int .u64 0).cells (n * 8 * 1), 107⟩], rfl, own_made M (n * 8) (by omega), by (refine hpLe_cnt fun a => ?_; simp only [cntB_app, cntB_cons, cntB_nil]; omega)⟩
theorem bPut_e (ws : List Nat) (hw : W64 ws) {w : World} {hb : Nat} {mv cv vv hv fv : Value} {ha : Hp} (hm : memOk ws.length = true) (hO : Own 107 1 mv ha (ws.map uV)) (page : Nat) (hp : page ≤ 4095) (d : DsD) (hd : d.may 2 3 = true) (hN : HereN (⟨hb, #[mv, cv, vv, hv, fv], 143⟩ :: ha) w) :
    Fn Try.prog 69 [.pointer (some ⟨hb, 0, none⟩), .int .i64 (page : Int), dsV d].toArray w (hb :: ha.map (·.b)) (fun u hn => u = .tuple #[] ∧ ∃ v1 h1, Own 107 1 v1 h1 ((putM ws 0 page 3 d).ws.map uV) ∧ HpLe (⟨hb, #[v1, cv, vv, hv, fv], 143⟩ :: h1) hn) := by
  obtain ⟨q, cap, rfl⟩ := hO.opened
  rw [List.length_map] at *
  refine enterM _ hN Try.func69 ?_
  refine run ?_
  intro D
  have hpt := fun {wc : World} (h : SlAt wc (.slice q ws.length cap) 1 (ws.map uV)) => gPutc_e ws hw h hm 0 page hp 3 (by decide) d hd
  refine drawED 12 [0, 1, 2, 3, 4, 5, 6, 7] [8] [9, 10, 11] [12, 13, 14] [15] ?_
  refine runS ?_
  refine eCall (fun wc hG => hpt (hO.lie (fun b hb => hG.here b (by simp [hb])) (by rw [List.length_map]; have := memOk_iff hm; omega))) (hpt (hO.lie (fun b hb => hN.here b (by simp [hb])) (by rw [List.length_map]; have := memOk_iff hm; omega))).some ?_
  refine eNil ?_
  rintro u hn2 ⟨v2, h2, rfl, hO2, hle2⟩
  obtain ⟨q2, cap2, e2⟩ := hO2.opened
  subst e2
  refine dMove ?_
  refine dExtract ?_
  refine dExtract ?_
  refine dNil ?_
  refine dNilCheck ?_
  refine dField ?_
  refine dField ?_
  refine dNil ?_
  simp only [DN, List.cons_append, List.nil_append, List.append_nil]
  refine cStore (b := hb) (tb := 143) (cs := #[.slice q ws.length cap, cv, vv, hv, fv]) (cs' := #[.slice q2 ((putM ws 0 page 3 d).ws.map uV).length cap2, cv, vv, hv, fv]) (hp' := hn2 ++ (⟨D, #[.int .i64 d.kind, .int .i64 d.frame, .bool d.r, .bool d.w, .bool d.x, .bool d.af, .bool d.ng, .int .i64 d.soft, .int .i64 d.note], 38⟩ :: ha)) ?_ (by (refine perm_cnt fun a => ?_; simp only [cntB_app, cntB_cons, cntB_nil]; omega))
  refine dc_nil ?_
  refine opsC ?_
  refine run ?_
  exact fin0 ⟨rfl, _, h2, hO2, by (refine hpLe_cnt fun a => ?_; have := HpLe.cnt hle2 a; simp only [cntB_app, cntB_cons, cntB_nil] at *; omega)⟩
def firstI (k : Nat) : List Int := ((List.range k).drop 1).map fun x : Nat => (x : Int)
theorem firstI_succ {k : Nat} (h : 0 < k) : firstI (k + 1) = firstI k ++ [(k : Int)] := by
  simp only [firstI, List.range_succ]
  rw [List.drop_append_of_le_length (by simp; omega), List.map_append]; rfl
/-- What Boot answers. -/
def BootHR (frames cpus : Int) (u : Value) (hn : Hp) : Prop :=
  bif mayBoot frames cpus then ∃ p1 c1 p2 c2 p3 c3 p4 c4, u = .tuple #[.agg #[.slice p1 (frames.toNat * 8) c1, .slice p2 cpus.toNat c2, .slice p3 4 c3, .slice p4 cpus.toNat c4], .int .i64 0] ∧ ∀ w, Here hn w → HyAt w (.slice p1 (frames.toNat * 8) c1) (.slice p2 cpus.toNat c2) (.slice p3 4 c3) (.slice p4 cpus.toNat c4) (memF (frames.toNat * 8) (putW frames.toNat 64)) (List.replicate cpus.toNat cpu0) (List.replicate 4 vm0) (List.replicate cpus.toNat noRg)
  else u = .tuple #[.agg #[.slice none 0 0, .slice none 0 0, .slice none 0 0, .slice none 0 0], .int .i64 1]
theorem hpLe_here {r h : Hp} {w : World} (hl : HpLe r h) (hh : Here h w) : Here r w := fun b hb => hh b (hl.mem hb)
theorem bBoot_e (frames cpus : Int) (w : World) : Fn Try.prog 33 [.int .i64 frames, .int .i64 cpus].toArray w [] (BootHR frames cpus) := by
  refine enter Try.func33 ?_
  refine run ?_
  intro R
  refine run ?_
  refine callB (fun wc hG => boot_e frames cpus wc) ?_
  intro u hn hR
  cases hmay : mayBoot frames cpus with
  | false =>
    simp only [BootR, hmay, cond_false] at hR
    subst hR
    refine ops_le [⟨R, #[.slice none 0 0, .slice none 0 0, .slice none 0 0, .slice none 0 0], 74⟩] (by (refine hpLe_cnt fun a => ?_; simp only [cntB_app, cntB_cons, cntB_nil]; omega)) ?_
    refine runC ?_
    intro X
    refine finA1 (cs := #[.slice none 0 0, .slice none 0 0, .slice none 0 0, .slice none 0 0]) ?_
    simp only [BootHR, hmay, cond_false]
  | true =>
    simp only [BootR, hmay, cond_true] at hR
    obtain ⟨pv, gv, ov, rfl, hP⟩ := hR
    refine ops_good fun w1 hG1 => ?_
    have hP1 := hP w1 (fun b hb => hG1.here b (List.mem_append_left _ hb))
    obtain ⟨p1, pc1, rfl, _⟩ := hP1.pages.opened
    obtain ⟨p3, pc3, rfl, _⟩ := hP1.on.opened
    obtain ⟨g, gc, rfl, _⟩ : ∃ g gc, gv = .slice g (bootL frames.toNat cpus.toNat).guests.length gc ∧ True := by
      obtain ⟨vv, mv, ⟨⟨g, gc, e, _⟩, hl⟩, _⟩ := hP1.guests
      simp only [List.length_map, List.length_range] at e hl
      exact ⟨g, gc, e, trivial⟩
    clear hP hP1 hG1
    refine ops_le [⟨R, #[.slice none 0 0, .slice none 0 0, .slice none 0 0, .slice none 0 0], 74⟩] (by (refine hpLe_cnt fun a => ?_; simp only [cntB_app, cntB_cons, cntB_nil]; omega)) ?_
    have hm := hmay
    simp only [mayBoot, PtD.btw, Bool.and_eq_true, decide_eq_true_eq] at hm
    obtain ⟨F, rfl⟩ : ∃ k : Nat, frames = (k : Int) := ⟨frames.toNat, by omega⟩
    obtain ⟨C, rfl⟩ : ∃ k : Nat, cpus = (k : Int) := ⟨cpus.toNat, by omega⟩
    refine runC ?_
    intro X
    refine runC ?_
    refine drawM 7 [0, 3] [1, 2, 4] [5, 6] ?_
    refine runS ?_
    refine eMake (m := C) (sz := 19) (z := .agg #[.int .u64 0, .int .u64 0, .int .u64 0, .int .u64 0, .int .u64 0, .int .u64 0, .int .u64 0, .int .u64 0, .int .u64 0, .int .u64 0, .int .u64 0, .int .u64 0, .int .u64 0, .int .u64 0, .int .u64 0, .int .i64 0, .int .i64 0, .slice none 0 0, .slice none 0 0]) ?_ (by omega) (hcs := by exact made_rows [.int .u64 0, .int .u64 0, .int .u64 0, .int .u64 0, .int .u64 0, .int .u64 0, .int .u64 0, .int .u64 0, .int .u64 0, .int .u64 0, .int .u64 0, .int .u64 0, .int .u64 0, .int .u64 0, .int .u64 0, .int .i64 0, .int .i64 0, .slice none 0 0, .slice none 0 0] C 19 rfl (by omega))
    refine eMake (m := 4) (sz := 6) (z := .agg #[.bool false, .bool false, .int .i64 0, .slice none 0 0, .slice none 0 0, .slice none 0 0]) ?_ (by omega) (hcs := by exact made_rows [.bool false, .bool false, .int .i64 0, .slice none 0 0, .slice none 0 0, .slice none 0 0] 4 6 rfl (by omega))
    refine eMake (m := C) (sz := 15) (z := .agg #[.int .u64 0, .int .u64 0, .int .u64 0, .int .u64 0, .int .u64 0, .int .u64 0, .int .u64 0, .int .u64 0, .int .u64 0, .int .u64 0, .int .u64 0, .int .u64 0, .int .u64 0, .int .u64 0, .int .u64 0]) ?_ (by omega) (hcs := by exact made_rows [.int .u64 0, .int .u64 0, .int .u64 0, .int .u64 0, .int .u64 0, .int .u64 0, .int .u64 0, .int .u64 0, .int .u64 0, .int .u64 0, .int .u64 0, .int .u64 0, .int .u64 0, .int .u64 0, .int .u64 0] C 15 rfl (by omega))
    refine eNil ?_
    rintro _ _ ⟨Bh, rfl, rfl⟩ _ _ ⟨Bv, rfl, rfl⟩ _ _ ⟨Bc, rfl, rfl⟩
    refine dBuild ?_
    refine dBuild ?_
    refine dNil ?_
    refine opsF ?_
    simp only [List.cons_append, List.nil_append]
    obtain ⟨CC, hCC⟩ : ∃ G : Array Value, G = ((List.replicate C [.int .u64 0, .int .u64 0, .int .u64 0, .int .u64 0, .int .u64 0, .int .u64 0, .int .u64 0, .int .u64 0, .int .u64 0, .int .u64 0, .int .u64 0, .int .u64 0, .int .u64 0, .int .u64 0, .int .u64 0, .int .i64 0, .int .i64 0, .slice none 0 0, .slice none 0 0]).flatten).toArray := ⟨_, rfl⟩
    obtain ⟨VC, hVC⟩ : ∃ G : Array Value, G = ((List.replicate 4 [.bool false, .bool false, .int .i64 0, .slice none 0 0, .slice none 0 0, .slice none 0 0]).flatten).toArray := ⟨_, rfl⟩
    obtain ⟨RC, hRC⟩ : ∃ G : Array Value, G = ((List.replicate C [.int .u64 0, .int .u64 0, .int .u64 0, .int .u64 0, .int .u64 0, .int .u64 0, .int .u64 0, .int .u64 0, .int .u64 0, .int .u64 0, .int .u64 0, .int .u64 0, .int .u64 0, .int .u64 0, .int .u64 0]).flatten).toArray := ⟨_, rfl⟩
    rw [← hCC, ← hVC, ← hRC]
    refine run ?_
    intro H
    refine run ?_
    refine callB (fun wc hG => memNew_e F (by omega) (by omega) wc) ?_
    rintro u hn2 ⟨v1, h1, rfl, hO, hle⟩
    obtain ⟨q, cap, rfl⟩ := hO.opened
    rw [List.length_map, List.length_replicate]
    refine ops_le (⟨H, #[.slice none 0 0, .slice (some ⟨Bc, 0, none⟩) C C, .slice (some ⟨Bv, 0, none⟩) 4 4, .slice (some ⟨Bh, 0, none⟩) C C, .slice none 0 0], 143⟩ :: ⟨Bh, RC, 199⟩ :: ⟨Bv, VC, 157⟩ :: ⟨Bc, CC, 201⟩ :: ⟨R, #[.slice none 0 0, .slice none 0 0, .slice none 0 0, .slice none 0 0], 74⟩ :: h1) (by (refine hpLe_cnt fun a => ?_; have := HpLe.cnt hle a; simp only [cntB_app, cntB_cons, cntB_nil] at *; omega)) ?_
    refine run ?_
    refine loopS (σ := Nat × Value × Hp) (fun s => [(39, .int .i64 (s.1 : Int))]) (fun s => ⟨H, #[.slice q (F * 8) cap, .slice (some ⟨Bc, 0, none⟩) C C, .slice (some ⟨Bv, 0, none⟩) 4 4, .slice (some ⟨Bh, 0, none⟩) C C, s.2.1], 143⟩ :: ⟨Bh, RC, 199⟩ :: ⟨Bv, VC, 157⟩ :: ⟨Bc, CC, 201⟩ :: ⟨R, #[.slice none 0 0, .slice none 0 0, .slice none 0 0, .slice none 0 0], 74⟩ :: (s.2.2 ++ h1)) (fun s => s.1 ≤ 16 ∧ Acc 3 1 s.2.1 s.2.2 ((firstI s.1).map inV)) (fun s => 16 - s.1) (0, .slice none 0 0, []) ⟨by decide, Acc.nil _ _⟩ ?_ (hh := by (refine hpLe_cnt fun a => ?_; simp only [cntB_app, cntB_cons, cntB_nil]; omega))
    rintro ⟨k, fv, hf⟩ m hmm ⟨hk, hA⟩
    dsimp only at hmm hk hA ⊢
    obtain ⟨fq, fc, ef, hfq⟩ := hA.own.openedQ
    subst ef
    have hfl : (firstI k).length ≤ 16 := by simp [firstI]; omega
    refine run ?_
    refine st_cond _ rfl (fun hc => ?_) (fun hc => ?_)
    · have hlt : k < 16 := by simp at hc; omega
      refine run ?_
      refine st_cond _ rfl (fun hc2 => ?_) (fun hc2 => ?_)
      · have h0k : 0 < k := by simp at hc2; omega
        refine run ?_
        intro T
        refine appendA (c := inV (k : Int)) (hp' := ⟨T, #[.int .i64 (k : Int)], 3⟩ :: ⟨H, #[.slice q (F * 8) cap, .slice (some ⟨Bc, 0, none⟩) C C, .slice (some ⟨Bv, 0, none⟩) 4 4, .slice (some ⟨Bh, 0, none⟩) C C, .slice fq (firstI k).length fc], 143⟩ :: ⟨Bh, RC, 199⟩ :: ⟨Bv, VC, 157⟩ :: ⟨Bc, CC, 201⟩ :: ⟨R, #[.slice none 0 0, .slice none 0 0, .slice none 0 0, .slice none 0 0], 74⟩ :: h1) hA (fun v' ha' hA' => ?_) (by simp; omega) (news_own (m := 1) mh rfl) (hperm := by (refine perm_cnt fun a => ?_; simp only [cntB_app, cntB_cons, cntB_nil]; omega))
        rw [show (firstI k).map inV ++ [inV (k : Int)] = (firstI (k + 1)).map inV by rw [firstI_succ h0k, List.map_append]; rfl] at hA'
        obtain ⟨q3, cap3, rfl⟩ := hA'.own.opened
        refine ops_le (⟨H, #[.slice q (F * 8) cap, .slice (some ⟨Bc, 0, none⟩) C C, .slice (some ⟨Bv, 0, none⟩) 4 4, .slice (some ⟨Bh, 0, none⟩) C C, .slice fq (firstI k).length fc], 143⟩ :: ⟨Bh, RC, 199⟩ :: ⟨Bv, VC, 157⟩ :: ⟨Bc, CC, 201⟩ :: ⟨R, #[.slice none 0 0, .slice none 0 0, .slice none 0 0, .slice none 0 0], 74⟩ :: (ha' ++ h1)) (by (refine hpLe_cnt fun a => ?_; simp only [cntB_app, cntB_cons, cntB_nil]; omega)) ?_
        refine run ?_
        refine nextS (k + 1, _, ha') ⟨hlt, hA'⟩ (h2 := by (refine hpLe_cnt fun a => ?_; simp only [cntB_app, cntB_cons, cntB_nil]; omega))
      · have h0k : k = 0 := by simp at hc2; omega
        subst h0k
        refine run ?_
        refine nextS (1, _, hf) ⟨(by decide : 1 ≤ 16), hA⟩ (h2 := by (refine hpLe_cnt fun a => ?_; simp only [cntB_app, cntB_cons, cntB_nil]; omega))
    have hk16 : k = 16 := by simp at hc; omega
    subst hk16
    rw [show firstI 16 = freeB from rfl] at hA
    rw [show (firstI 16).length = freeB.length from rfl]
    have hF128 : 128 ≤ F * 8 := by omega
    refine run ?_
    have hO64 : Own 107 1 (.slice q (F * 8) cap) h1 ((memF (F * 8) fun _ => 0).map uV) := by
      rw [← memF_zero]
      simpa using hO
    refine loopS (σ := Nat × Option Addr × Nat × Hp × Option Addr × Nat × Hp) (fun s => [(55, .int .i64 (s.1 : Int))]) (fun s => ⟨H, #[.slice s.2.1 (F * 8) s.2.2.1, .slice (some ⟨Bc, 0, none⟩) C C, .slice (some ⟨Bv, 0, none⟩) 4 4, .slice (some ⟨Bh, 0, none⟩) C C, .slice s.2.2.2.2.1 (leftB s.1).length s.2.2.2.2.2.1], 143⟩ :: ⟨Bh, RC, 199⟩ :: ⟨Bv, VC, 157⟩ :: ⟨Bc, CC, 201⟩ :: ⟨R, #[.slice none 0 0, .slice none 0 0, .slice none 0 0, .slice none 0 0], 74⟩ :: (s.2.2.2.2.2.2 ++ s.2.2.2.1)) (fun s => s.1 ≤ 64 ∧ Own 107 1 (.slice s.2.1 (F * 8) s.2.2.1) s.2.2.2.1 ((memF (F * 8) (expW (fun k => leafD k 0) s.1)).map uV) ∧ Own 3 1 (.slice s.2.2.2.2.1 (leftB s.1).length s.2.2.2.2.2.1) s.2.2.2.2.2.2 ((leftB s.1).map inV)) (fun s => 64 - s.1) (0, q, cap, h1, fq, fc, hf) ⟨(by decide : 0 ≤ 64), hO64, hA.own⟩ ?_ (hh := by rw [show (leftB (0, q, cap, h1, fq, fc, hf).1).length = freeB.length from rfl]; (refine hpLe_cnt fun a => ?_; simp only [cntB_app, cntB_cons, cntB_nil]; omega))
    rintro ⟨k, q, cap, hm1, fq, fc, hf⟩ m hmm ⟨hk, hM, hL⟩
    dsimp only at hmm hk hM hL ⊢
    refine run ?_
    refine st_cond _ rfl (fun hc => ?_) (fun hc => ?_)
    · have hlt : k < 64 := by simp at hc; omega
      refine run ?_
      have hn : (memF (F * 8) (expW (fun k => leafD k 0) k)).length = F * 8 := memF_len _ _
      have hw64 : W64 (memF (F * 8) (expW (fun k => leafD k 0) k)) := W64.memF (expW_lt _ _)
      have hstep := bMap_exp hF128 (k + 1) (by omega)
      rw [bMap, bMap_exp hF128 k (by omega)] at hstep
      dsimp only at hstep
      have hll : (leftB k).length < 1000 := by
        have : ∀ k, k < 65 → (leftB k).length < 1000 := by decide +kernel
        exact this k (by omega)
      have hl1 : (leftB (k + 1)).length < 1000 := by
        have : ∀ k, k < 65 → (leftB k).length < 1000 := by decide +kernel
        exact this (k + 1) (by omega)
      obtain ⟨q', c', eq', hq'⟩ := hL.openedQ
      injection eq' with e1 e2 e3
      subst e1 e3
      have hmapk : mapG (memF (F * 8) (expW (fun k => leafD k 0) k)) 0 (leftB k) (k : Int) (leafD k 0) = ⟨memF (F * 8) (expW (fun k => leafD k 0) (k + 1)), leftB (k + 1), 0⟩ := by
        rw [← hstep]
        have h1 : (leafD (k : Int) 0).may 2 3 = true := by
          have : ∀ k, k < 64 → (leafD ((k : Nat) : Int) 0).may 2 3 = true := by decide +kernel
          exact this k hlt
        have h2 : askOk (F * 8) (k : Int) = true := by
          simp only [askOk, memOk, PtD.btw, Bool.and_eq_true, decide_eq_true_eq]; omega
        simp only [mapG, h1, hn, h2, Int.toNat_natCast]
        rfl
      have hcall : ∀ wc, SlAt wc (.slice q (F * 8) cap) 1 ((memF (F * 8) (expW (fun k => leafD k 0) k)).map uV) → SlAt wc (.slice fq (leftB k).length fc) 1 ((leftB k).map inV) → Fn Try.prog 47 [.agg #[.slice q (F * 8) cap], .int .i64 0, .slice fq (leftB k).length fc, .int .i64 (k : Int), dsV (leafD k 0)].toArray wc [] (fun u hn => MapR ⟨memF (F * 8) (expW (fun k => leafD k 0) (k + 1)), leftB (k + 1), 0⟩ u hn) := fun wc h5 h6 => by
        rw [← hmapk]
        exact gMap_e _ hw64 h5 (by rw [hn]; omega) _ h6 ⟨_, _, rfl, hq'⟩ (by omega) 0 k _
      refine drawED 19 [0, 2, 3, 4, 5, 6, 7, 8, 9, 10, 11, 12, 13] [14] [1, 15, 16, 17, 18] [19, 20, 21, 23, 24] [22, 25] ?_
      refine runS ?_
      refine sCallE (fun wc hx hG => bLeaf_e k 0 wc) ?_
      refine runS ?_
      refine eCall (fun wc hG => hcall wc (hM.lie (fun b hb => hG.here b (by simp [hb])) (by simp [hn]; omega)) (hL.lie (fun b hb => hG.here b (by simp [hb])) (by simp; omega))) (mapR_ex _ (by rw [memF_len]; omega) (by have := hl1; dsimp only; omega)) ?_
      refine eNil ?_
      rintro u hn2 ⟨v2, h2, vl2, hl2, rfl, hO2, hL2, hle2⟩
      dsimp only at hO2 hL2
      obtain ⟨q2, c2, e2⟩ := hO2.opened
      rw [List.length_map, memF_len] at e2
      subst e2
      obtain ⟨q3, c3, e3⟩ := hL2.opened
      rw [List.length_map] at e3
      subst e3
      refine dMove ?_
      refine dMove ?_
      refine dExtract ?_
      refine dExtract ?_
      refine dExtract ?_
      refine dNil ?_
      refine dNilCheck ?_
      refine dField ?_
      refine dField ?_
      refine dNilCheck ?_
      refine dField ?_
      refine dNil ?_
      simp only [DN, List.cons_append, List.nil_append, List.append_nil]
      refine cStore (b := H) (tb := 143) (cs := #[.slice q (F * 8) cap, .slice (some ⟨Bc, 0, none⟩) C C, .slice (some ⟨Bv, 0, none⟩) 4 4, .slice (some ⟨Bh, 0, none⟩) C C, .slice fq (leftB k).length fc]) (cs' := #[.slice q2 (F * 8) c2, .slice (some ⟨Bc, 0, none⟩) C C, .slice (some ⟨Bv, 0, none⟩) 4 4, .slice (some ⟨Bh, 0, none⟩) C C, .slice fq (leftB k).length fc]) (hp' := hn2 ++ (⟨Bh, RC, 199⟩ :: ⟨Bv, VC, 157⟩ :: ⟨Bc, CC, 201⟩ :: ⟨R, #[.slice none 0 0, .slice none 0 0, .slice none 0 0, .slice none 0 0], 74⟩ :: (hf ++ hm1))) ?_ (by (refine perm_cnt fun a => ?_; simp only [cntB_app, cntB_cons, cntB_nil]; omega))
      refine cStore (b := H) (tb := 143) (cs := #[.slice q2 (F * 8) c2, .slice (some ⟨Bc, 0, none⟩) C C, .slice (some ⟨Bv, 0, none⟩) 4 4, .slice (some ⟨Bh, 0, none⟩) C C, .slice fq (leftB k).length fc]) (cs' := #[.slice q2 (F * 8) c2, .slice (some ⟨Bc, 0, none⟩) C C, .slice (some ⟨Bv, 0, none⟩) 4 4, .slice (some ⟨Bh, 0, none⟩) C C, .slice q3 (leftB (k + 1)).length c3]) (hp' := hn2 ++ (⟨Bh, RC, 199⟩ :: ⟨Bv, VC, 157⟩ :: ⟨Bc, CC, 201⟩ :: ⟨R, #[.slice none 0 0, .slice none 0 0, .slice none 0 0, .slice none 0 0], 74⟩ :: (hf ++ hm1))) ?_ (List.Perm.refl _)
      refine dc_nil ?_
      refine opsC ?_
      refine run ?_
      refine nextS (k + 1, q2, c2, h2, q3, c3, hl2) ⟨hlt, hO2, hL2⟩ (hm := by dsimp only; omega) (h2 := by (refine hpLe_cnt fun a => ?_; have := HpLe.cnt hle2 a; simp only [cntB_app, cntB_cons, cntB_nil] at *; omega))
    have hk64 : k = 64 := by simp at hc; omega
    subst hk64
    refine run ?_
    have hM64 : Own 107 1 (.slice q (F * 8) cap) hm1 ((memF (F * 8) (putW F 0)).map uV) := by
      rw [← bPut_exp hF128 F 0 (by decide), bPut, bMap_exp hF128 64 (Nat.le_refl _)]
      exact hM
    refine loopS (σ := Nat × Option Addr × Nat × Hp) (fun s => [(83, .int .i64 (s.1 : Int))]) (fun s => ⟨H, #[.slice s.2.1 (F * 8) s.2.2.1, .slice (some ⟨Bc, 0, none⟩) C C, .slice (some ⟨Bv, 0, none⟩) 4 4, .slice (some ⟨Bh, 0, none⟩) C C, .slice fq (leftB 64).length fc], 143⟩ :: ⟨Bh, RC, 199⟩ :: ⟨Bv, VC, 157⟩ :: ⟨Bc, CC, 201⟩ :: ⟨R, #[.slice none 0 0, .slice none 0 0, .slice none 0 0, .slice none 0 0], 74⟩ :: (hf ++ s.2.2.2)) (fun s => s.1 ≤ 64 ∧ Own 107 1 (.slice s.2.1 (F * 8) s.2.2.1) s.2.2.2 ((memF (F * 8) (putW F s.1)).map uV)) (fun s => 64 - s.1) (0, q, cap, hm1) ⟨(by decide : 0 ≤ 64), hM64⟩ ?_ (hh := by (refine hpLe_cnt fun a => ?_; simp only [cntB_app, cntB_cons, cntB_nil]; omega))
    rintro ⟨k, q, cap, hm1⟩ m hmm ⟨hk, hM⟩
    dsimp only at hmm hk hM ⊢
    refine run ?_
    refine st_cond _ rfl (fun hc => ?_) (fun hc => ?_)
    · have hlt : k < 64 := by simp at hc; omega
      have hn : (memF (F * 8) (putW F k)).length = F * 8 := memF_len _ _
      have hw64 : W64 (memF (F * 8) (putW F k)) := W64.memF (putW_lt _ _)
      have hmok : memOk (memF (F * 8) (putW F k)).length = true := by
        rw [hn]; simp only [memOk, Bool.and_eq_true, decide_eq_true_eq]; omega
      have hstep := bPut_exp hF128 F (k + 1) (by omega)
      rw [bPut, bPut_exp hF128 F k (by omega)] at hstep
      refine run ?_
      refine st_cond _ rfl (fun hc2 => ?_) (fun hc2 => ?_)
      · have h16 : decide (k < 16) = true := by simp at hc2 ⊢; omega
        refine run ?_
        have hb : bD F k = some (noteD 1) := by simp only [bD, h16, cond_true, cond_false]
        rw [hb] at hstep
        dsimp only at hstep
        refine callM (⟨H, #[.slice q (F * 8) cap, .slice (some ⟨Bc, 0, none⟩) C C, .slice (some ⟨Bv, 0, none⟩) 4 4, .slice (some ⟨Bh, 0, none⟩) C C, .slice fq (leftB 64).length fc], 143⟩ :: hm1) (⟨Bh, RC, 199⟩ :: ⟨Bv, VC, 157⟩ :: ⟨Bc, CC, 201⟩ :: ⟨R, #[.slice none 0 0, .slice none 0 0, .slice none 0 0, .slice none 0 0], 74⟩ :: hf) (fun wc hG => bPut_e (memF (F * 8) (putW F k)) hw64 hmok hM k (by omega) (noteD 1) (by decide) hG.hereN) ?_ (by (refine perm_cnt fun a => ?_; simp only [cntB_app, cntB_cons, cntB_nil]; omega))
        rintro u hn2 ⟨rfl, v2, h2, hO2, hle2⟩
        rw [hstep] at hO2
        obtain ⟨q2, c2, e2⟩ := hO2.opened
        rw [List.length_map, memF_len] at e2
        subst e2
        refine ops_le (⟨H, #[.slice q2 (F * 8) c2, .slice (some ⟨Bc, 0, none⟩) C C, .slice (some ⟨Bv, 0, none⟩) 4 4, .slice (some ⟨Bh, 0, none⟩) C C, .slice fq (leftB 64).length fc], 143⟩ :: ⟨Bh, RC, 199⟩ :: ⟨Bv, VC, 157⟩ :: ⟨Bc, CC, 201⟩ :: ⟨R, #[.slice none 0 0, .slice none 0 0, .slice none 0 0, .slice none 0 0], 74⟩ :: (hf ++ h2)) (by (refine hpLe_cnt fun a => ?_; have := HpLe.cnt hle2 a; simp only [cntB_app, cntB_cons, cntB_nil] at *; omega)) ?_
        refine run ?_
        refine nextS (k + 1, q2, c2, h2) ⟨hlt, hO2⟩ (hm := by dsimp only; omega) (h2 := by (refine hpLe_cnt fun a => ?_; simp only [cntB_app, cntB_cons, cntB_nil]; omega))
      have h16 : decide (k < 16) = false := by simp at hc2 ⊢; omega
      refine run ?_
      refine st_cond _ rfl (fun hc3 => ?_) (fun hc3 => ?_)
      · have hFk : decide (F ≤ k) = true := by simp at hc3 ⊢; omega
        refine run ?_
        have hb : bD F k = some (noDs) := by simp only [bD, h16, hFk, cond_true, cond_false]
        rw [hb] at hstep
        dsimp only at hstep
        refine callM (⟨H, #[.slice q (F * 8) cap, .slice (some ⟨Bc, 0, none⟩) C C, .slice (some ⟨Bv, 0, none⟩) 4 4, .slice (some ⟨Bh, 0, none⟩) C C, .slice fq (leftB 64).length fc], 143⟩ :: hm1) (⟨Bh, RC, 199⟩ :: ⟨Bv, VC, 157⟩ :: ⟨Bc, CC, 201⟩ :: ⟨R, #[.slice none 0 0, .slice none 0 0, .slice none 0 0, .slice none 0 0], 74⟩ :: hf) (fun wc hG => bPut_e (memF (F * 8) (putW F k)) hw64 hmok hM k (by omega) (noDs) (by decide) hG.hereN) ?_ (by (refine perm_cnt fun a => ?_; simp only [cntB_app, cntB_cons, cntB_nil]; omega))
        rintro u hn2 ⟨rfl, v2, h2, hO2, hle2⟩
        rw [hstep] at hO2
        obtain ⟨q2, c2, e2⟩ := hO2.opened
        rw [List.length_map, memF_len] at e2
        subst e2
        refine ops_le (⟨H, #[.slice q2 (F * 8) c2, .slice (some ⟨Bc, 0, none⟩) C C, .slice (some ⟨Bv, 0, none⟩) 4 4, .slice (some ⟨Bh, 0, none⟩) C C, .slice fq (leftB 64).length fc], 143⟩ :: ⟨Bh, RC, 199⟩ :: ⟨Bv, VC, 157⟩ :: ⟨Bc, CC, 201⟩ :: ⟨R, #[.slice none 0 0, .slice none 0 0, .slice none 0 0, .slice none 0 0], 74⟩ :: (hf ++ h2)) (by (refine hpLe_cnt fun a => ?_; have := HpLe.cnt hle2 a; simp only [cntB_app, cntB_cons, cntB_nil] at *; omega)) ?_
        refine run ?_
        refine nextS (k + 1, q2, c2, h2) ⟨hlt, hO2⟩ (hm := by dsimp only; omega) (h2 := by (refine hpLe_cnt fun a => ?_; simp only [cntB_app, cntB_cons, cntB_nil]; omega))
      have hFk : decide (F ≤ k) = false := by simp at hc3 ⊢; omega
      have hb : bD F k = none := by simp only [bD, h16, hFk, cond_false]
      rw [hb] at hstep
      dsimp only at hstep
      rw [hstep] at hM
      refine run ?_
      refine nextS (k + 1, q, cap, hm1) ⟨hlt, hM⟩ (hm := by dsimp only; omega) (h2 := by (refine hpLe_cnt fun a => ?_; simp only [cntB_app, cntB_cons, cntB_nil]; omega))
    have hk64 : k = 64 := by simp at hc; omega
    subst hk64
    refine run ?_
    refine finA1 (cs := #[.slice q (F * 8) cap, .slice (some ⟨Bc, 0, none⟩) C C, .slice (some ⟨Bv, 0, none⟩) 4 4, .slice (some ⟨Bh, 0, none⟩) C C]) ?_
    simp only [BootHR, hmay, cond_true, Int.toNat_natCast]
    subst hCC hVC hRC
    refine ⟨_, _, _, _, _, _, _, _, rfl, fun w' hw' => ⟨W64.memF (putW_lt _ _), hM.lie (hw'.sub fun e he => by simp [he]) (by simp [memF_len]; omega), CpAt.zero (t := 201) (hw' _ (.tail _ (.tail _ (.tail _ (.tail _ (.head _)))))) (by omega), VmAt.zero (t := 157) (hw' _ (.tail _ (.tail _ (.tail _ (.head _))))) (by omega), rg_zero (t := 199) (hw' _ (.tail _ (.tail _ (.head _)))) (by omega)⟩⟩
end Go.Proofs.Ytcjbpdejlfomkaa
