/- Texts of one's own, merged: the engine, what the functions do, plain laws. -/
import Derived.Test.YtdaenalnmdmflaaGreatAccP4
namespace Go.Proofs.YtdaenalnmdmflaaGreat
open Go.RowKit
set_option linter.unusedVariables false
set_option linter.unusedSimpArgs false
set_option maxRecDepth 20000
attribute [local irreducible] Hy St Ops DH DHF DE1 DE2 DE3 DS DCh DWF
theorem finAATT {fn : Func} {R : Value → Hp → Prop} {l : Fm} {hp : Hp} {a t b a2 t2 b2 s1 s2 : Nat} {cs cs2 : Array Value} {tb tb2 : TypeId} {v1 v2 : Value} (h : R (.tuple #[.agg cs, .agg cs2, v1, v2]) hp) (hr : fn.results = #[.cell a t, .cell a2 t2, .tmp s1, .tmp s2] := by rfl) (hv : look l a = some (.pointer (some ⟨b, 0, none⟩)) := by rfl) (hw : look l a2 = some (.pointer (some ⟨b2, 0, none⟩)) := by rfl) (h1 : look l s1 = some v1 := by rfl) (h2 : look l s2 = some v2 := by rfl) (hag : mem Tb.ag t = true := by rfl) (hm : (⟨b, cs, tb⟩ : Blk) ∈ hp := by (first | (with_reducible apply mh) | (focus ((repeat (first | (with_reducible apply mh) | (with_reducible apply mt) | (with_reducible apply List.mem_append_right))); done)))) (hz : lk Tb.sz t = some cs.size := by rfl) (hag2 : mem Tb.ag t2 = true := by rfl) (hm2 : (⟨b2, cs2, tb2⟩ : Blk) ∈ hp := by (first | (with_reducible apply mh) | (focus ((repeat (first | (with_reducible apply mh) | (with_reducible apply mt) | (with_reducible apply List.mem_append_right))); done)))) (hz2 : lk Tb.sz t2 = some cs2.size := by rfl) : Fin Tryz.prog fn R .ret l hp :=
  ⟨.inl rfl, [.agg cs, .agg cs2, v1, v2], by rw [hr]; exact ⟨⟨⟨b, cs, tb⟩, hm, hv, .inr ⟨tb_ok.gag hag, tb_ok.gsz hz, rfl⟩⟩, ⟨⟨b2, cs2, tb2⟩, hm2, hw, .inr ⟨tb_ok.gag hag2, tb_ok.gsz hz2, rfl⟩⟩, h1, h2, trivial⟩, h⟩
theorem wWalk_e (ws : List Nat) (hw : W64 ws) (cap : Nat) (hmm : memOk ws.length = true) (hcc : ws.length ≤ cap) {p : Option Addr} {w : World} (h : SlAt w (.slice p ws.length cap) 1 (ws.map uV)) (stage : Int) (hs : stage = 1 ∨ stage = 2) (frame : Int) (h0 : 0 ≤ frame) (h1 : frame ≤ 4095) (page : Nat) (hp : page ≤ 4095) :
    Fn Tryz.prog 104 [.agg #[.slice p ws.length cap], .int .i64 stage, .int .i64 frame, .int .i64 (page : Int)].toArray w [] (fun u hn => ∃ rv' hr', u = .tuple #[htV (walk5 ws stage frame page).h, ftV (walk5 ws stage frame page).f, rv', .int .i64 0] ∧ Own 3 1 rv' hr' ((walk5 ws stage frame page).rd.map inV) ∧ HpLe hr' hn) := by
  have h' := h
  have hmi := memOk_iff hmm
  refine enter Tryz.func104 ?_
  refine run ?_
  intro B H F
  refine runG ?_
  refine callE (fun wc hG => mCheck_e ws.length cap (by omega) p wc) ?_
  rw [hmm]
  refine runG ?_
  refine st_cond _ rfl (fun hc => absurd hc (by rcases hs with rfl | rfl <;> simp <;> omega)) (fun hc => ?_)
  refine run ?_
  intro Wb
  refine run ?_
  refine callM [⟨Wb, #[.slice p ws.length cap, .int .i64 stage, .int .i64 (page : Int), .slice none 0 0], 178⟩] [⟨F, #[.int .i64 0, .int .i64 0, .int .i64 0, .bool false, .int .i64 0], 44⟩, ⟨H, #[.int .i64 0, .int .i64 0, .bool false, .bool false, .bool false, .bool false, .bool false, .int .i64 0, .int .i64 0], 62⟩, ⟨B, #[.slice p ws.length cap], 24⟩] (fun wc hG => wFrom_e ws hw cap hmm hcc stage hs frame h0 page hp ((Sees.old h').into hG) hG.hereN) ?_ (by (refine perm_cnt fun a => ?_; simp only [cntB_app, cntB_cons, cntB_nil]; omega))
  rintro u1 hn1 ⟨rv, hr, rfl, hO, hle⟩
  generalize walk5 ws stage frame page = X at hO ⊢
  obtain ⟨q4, c4, e4⟩ := hO.opened
  rw [List.length_map] at e4
  subst e4
  refine ops_le (⟨Wb, #[.slice p ws.length cap, .int .i64 stage, .int .i64 (page : Int), .slice q4 X.rd.length c4], 178⟩ :: ⟨F, #[.int .i64 0, .int .i64 0, .int .i64 0, .bool false, .int .i64 0], 44⟩ :: ⟨H, #[.int .i64 0, .int .i64 0, .bool false, .bool false, .bool false, .bool false, .bool false, .int .i64 0, .int .i64 0], 62⟩ :: hr) (by (refine hpLe_cnt fun a => ?_; have := HpLe.cnt hle a; simp only [cntB_app, cntB_cons, cntB_nil] at *; omega)) ?_
  refine run ?_
  refine drawC 8 6 [0, 1, 2, 3, 4, 5] [6, 7] (⟨F, #[.int .i64 X.f.kind, .int .i64 X.f.stage, .int .i64 X.f.level, .bool X.f.walk, .int .i64 X.f.page], 44⟩ :: ⟨H, #[.int .i64 X.h.frame, .int .i64 X.h.mid, .bool X.h.r, .bool X.h.w, .bool X.h.x, .bool X.h.af, .bool X.h.ng, .int .i64 X.h.soft, .int .i64 X.h.level], 62⟩ :: ⟨Wb, #[.slice p ws.length cap, .int .i64 stage, .int .i64 (page : Int), .slice q4 X.rd.length c4], 178⟩ :: hr) ?_
  refine runZ ?_
  refine cSame (b := H) (tb := 62) (cs := #[.int .i64 X.h.frame, .int .i64 X.h.mid, .bool X.h.r, .bool X.h.w, .bool X.h.x, .bool X.h.af, .bool X.h.ng, .int .i64 X.h.soft, .int .i64 X.h.level]) ?_
  refine cSame (b := F) (tb := 44) (cs := #[.int .i64 X.f.kind, .int .i64 X.f.stage, .int .i64 X.f.level, .bool X.f.walk, .int .i64 X.f.page]) ?_
  refine dc_nil ?_
  refine opsC ?_
  refine run ?_
  exact finAATT (cs := #[.int .i64 X.h.frame, .int .i64 X.h.mid, .bool X.h.r, .bool X.h.w, .bool X.h.x, .bool X.h.af, .bool X.h.ng, .int .i64 X.h.soft, .int .i64 X.h.level]) (cs2 := #[.int .i64 X.f.kind, .int .i64 X.f.stage, .int .i64 X.f.level, .bool X.f.walk, .int .i64 X.f.page]) ⟨_, hr, rfl, hO, by (refine hpLe_cnt fun a => ?_; simp only [cntB_app, cntB_cons, cntB_nil]; omega)⟩
theorem nPaged_e (xs : List Int) {w : World} {v : Value} (h : SlAt w v 1 (xs.map inV)) : Fn Tryz.prog 118 [v].toArray w [] (fun u _ => u = .bool (xs.all fun x => PtD.btw x 0 4095)) := by
  obtain ⟨q, cap, rfl, hne, hle⟩ := h.opened
  refine enter Tryz.func118 ?_
  refine run ?_
  refine loopS (σ := Nat) (fun k => [(7, .int .i64 (k : Int))]) (fun _ => []) (fun k => k ≤ xs.length ∧ ((xs.take k).all fun x => PtD.btw x 0 4095) = true) (fun k => xs.length - k) 0 ⟨by omega, rfl⟩ ?_
  rintro k m hm ⟨hk, hT⟩
  refine run ?_
  refine st_cond _ rfl (fun hc => ?_) (fun hc => ?_)
  · have hlt : k < xs.length := by simp at hc; omega
    obtain ⟨b, o, rfl⟩ := hne (by intro e; subst e; simp at hlt)
    have hr := rangeAt_cell0 (h.row hlt)
    rw [Nat.mul_one] at hr
    refine runG ?_
    refine st_cond _ rfl (fun hc2 => ?_) (fun hc2 => ?_)
    · refine run ?_
      refine fin1 ?_
      rw [show (xs.all fun x => PtD.btw x 0 4095) = false by
        rw [List.all_eq_false]
        exact ⟨_, getD_mem hlt, by simp [PtD.btw] at hc2 ⊢; omega⟩]
    · refine run ?_
      refine nextS (k + 1) ⟨hlt, ?_⟩
      rw [take_next hlt, List.all_append, Bool.and_eq_true]
      exact ⟨hT, by simp [PtD.btw] at hc2 ⊢; omega⟩
  · have : k = xs.length := by simp at hc; omega
    subst this
    rw [List.take_length] at hT
    refine run ?_
    refine fin1 ?_
    rw [hT]
theorem nAsked_e (n cap : Nat) (hn : memOk n = true) (p : Option Addr) (acc : Int) (ha : PtD.btw acc 0 2 = true) (xs : List Int) (hx : (xs.all fun x => PtD.btw x 0 4095) = true) {w : World} {v : Value} (h : SlAt w v 1 (xs.map inV)) : Fn Tryz.prog 102 [.agg #[.slice p n cap], .int .i64 acc, v].toArray w [] (fun u _ => u = .bool true) := by
  have h' := h
  obtain ⟨qv, cv, rfl, _, _⟩ := h.opened
  have hmi := memOk_iff hn
  obtain ⟨ez, hez⟩ : ∃ z : Int, z = 0 := ⟨0, rfl⟩
  have hpm : ∀ wc, Fn Tryz.prog 53 [.agg #[.bool false, .bool false, .bool false, .bool false, .bool false, .int .i64 0], .int .i64 acc].toArray wc [] (fun u _ => u = .tuple #[.bool (mayA false false false acc), .int .i64 ez]) := fun wc => by
    have := pMay_e false false false false false 0 acc wc
    rw [ha] at this
    rw [hez]; exact this
  refine enter Tryz.func102 ?_
  refine run ?_
  intro B
  refine run ?_
  refine callE (fun wc hG => hpm wc) ?_
  refine runG ?_
  refine callEG (fun _ wc hG => mCheck_e n cap (by omega) p wc) ?_
  refine runG ?_
  refine callEG (fun _ wc hG => nPaged_e xs ((Sees.old h').good hG)) ?_
  refine runG ?_
  refine fin1 ?_
  rw [hn, hx, hez]
  rfl
theorem nMid_e (ws : List Nat) (hw : W64 ws) (cap : Nat) (hmm : memOk ws.length = true) (hcc : ws.length ≤ cap) {p : Option Addr} {w : World} (h : SlAt w (.slice p ws.length cap) 1 (ws.map uV)) (frame tag : Int) (h0 : 0 ≤ frame) (h1 : frame ≤ 4095) (mid : Nat) (hp : mid ≤ 4095) (acc : Int) (ha : PtD.btw acc 0 2 = true) :
    Fn Tryz.prog 86 [.agg #[.slice p ws.length cap], .agg #[.bool true, .int .i64 frame, .int .i64 tag], .int .i64 (mid : Int), .int .i64 acc].toArray w [] (fun u hn => ∃ rv' hr', u = .tuple #[htV (midL ws true frame mid acc).h, ftV (midL ws true frame mid acc).f, rv', .int .i64 0] ∧ Own 3 1 rv' hr' ((midL ws true frame mid acc).rd.map inV) ∧ HpLe hr' hn) := by
  have h' := h
  have hmi := memOk_iff hmm
  refine enter Tryz.func86 ?_
  refine run ?_
  intro B C H F X
  refine callE (fun wc hG => nAsked_e ws.length cap hmm p acc ha [frame, mid] (by simp only [List.all_cons, List.all_nil, Bool.and_true, Bool.and_eq_true]; exact ⟨btwT h0 h1, btwT (by omega) (by omega)⟩) (lie_rows (xs := [inV frame, inV mid]) (hG.here ⟨X, #[.int .i64 frame, .int .i64 (mid : Int)], 3⟩ mh) (by simp [inV]) (by simp))) ?_
  refine runC ?_
  refine callB (fun wc hG => wWalk_e ws hw cap hmm hcc ((Sees.old h').good hG) 2 (.inr rfl) frame h0 h1 mid hp) ?_
  rintro u1 hn1 ⟨rv, hr, rfl, hO, hle⟩
  rw [midL, Bool.not_true, cond_false]
  unfold midE midG
  generalize walk5 ws 2 frame mid = L at hO ⊢
  obtain ⟨q4, c4, e4⟩ := hO.opened
  rw [List.length_map] at e4
  subst e4
  refine ops_le (⟨F, #[.int .i64 0, .int .i64 0, .int .i64 0, .bool false, .int .i64 0], 44⟩ :: ⟨H, #[.int .i64 0, .int .i64 0, .bool false, .bool false, .bool false, .bool false, .bool false, .int .i64 0, .int .i64 0], 62⟩ :: ⟨C, #[.bool true, .int .i64 frame, .int .i64 tag], 29⟩ :: ⟨B, #[.slice p ws.length cap], 24⟩ :: hr) (by (refine hpLe_cnt fun a => ?_; have := HpLe.cnt hle a; simp only [cntB_app, cntB_cons, cntB_nil] at *; omega)) ?_
  refine run ?_
  refine st_cutD (σ := FtD) (fun _ => []) (fun z => ⟨F, #[.int .i64 z.kind, .int .i64 z.stage, .int .i64 z.level, .bool z.walk, .int .i64 z.page], 44⟩ :: ⟨H, #[.int .i64 L.h.frame, .int .i64 L.h.mid, .bool L.h.r, .bool L.h.w, .bool L.h.x, .bool L.h.af, .bool L.h.ng, .int .i64 L.h.soft, .int .i64 L.h.level], 62⟩ :: ⟨C, #[.bool true, .int .i64 frame, .int .i64 tag], 29⟩ :: ⟨B, #[.slice p ws.length cap], 24⟩ :: hr) (fun z => z = bif decide (L.f.kind = 0) then flagL L.h.r L.h.w L.h.x L.h.af acc 2 L.h.level mid else L.f) ?_ ?_
  · refine st_cond _ rfl (fun hc => ?_) (fun hc => ?_)
    · refine run ?_
      refine callE (fun wc hG => pFlag_e L.h.r L.h.w L.h.x L.h.af L.h.ng L.h.soft acc 2 L.h.level mid ha wc) ?_
      refine run ?_
      exact meetS _ (by rw [hc, cond_true])
    · refine run ?_
      exact meetS _ (by rw [hc, cond_false])
  rintro G hG
  rw [← hG]
  clear hG
  refine run ?_
  refine st_cond _ rfl (fun hc => ?_) (fun hc => ?_)
  · rw [hc, cond_true]
    refine run ?_
    refine drawC 5 3 [0, 1, 2] [3, 4] (⟨F, #[.int .i64 G.kind, .int .i64 G.stage, .int .i64 G.level, .bool G.walk, .int .i64 G.page], 44⟩ :: ⟨C, #[.bool true, .int .i64 frame, .int .i64 tag], 29⟩ :: ⟨B, #[.slice p ws.length cap], 24⟩ :: hr) ?_
    refine runZ ?_
    refine cStore (b := H) (tb := 62) (cs := #[.int .i64 L.h.frame, .int .i64 L.h.mid, .bool L.h.r, .bool L.h.w, .bool L.h.x, .bool L.h.af, .bool L.h.ng, .int .i64 L.h.soft, .int .i64 L.h.level]) (cs' := #[.int .i64 0, .int .i64 0, .bool false, .bool false, .bool false, .bool false, .bool false, .int .i64 0, .int .i64 0]) (hp' := ⟨F, #[.int .i64 G.kind, .int .i64 G.stage, .int .i64 G.level, .bool G.walk, .int .i64 G.page], 44⟩ :: ⟨C, #[.bool true, .int .i64 frame, .int .i64 tag], 29⟩ :: ⟨B, #[.slice p ws.length cap], 24⟩ :: hr) ?_ (by (refine perm_cnt fun a => ?_; simp only [cntB_app, cntB_cons, cntB_nil]; omega))
    refine cSame (b := F) (tb := 44) (cs := #[.int .i64 G.kind, .int .i64 G.stage, .int .i64 G.level, .bool G.walk, .int .i64 G.page]) ?_
    refine dc_nil ?_
    refine opsC ?_
    refine run ?_
    exact finAATT (cs := #[.int .i64 0, .int .i64 0, .bool false, .bool false, .bool false, .bool false, .bool false, .int .i64 0, .int .i64 0]) (cs2 := #[.int .i64 G.kind, .int .i64 G.stage, .int .i64 G.level, .bool G.walk, .int .i64 G.page]) ⟨_, hr, rfl, hO, by (refine hpLe_cnt fun a => ?_; simp only [cntB_app, cntB_cons, cntB_nil]; omega)⟩
  · rw [hc, cond_false]
    refine run ?_
    refine drawC 5 3 [0, 1, 2] [3, 4] (⟨H, #[.int .i64 L.h.frame, .int .i64 (mid : Int), .bool L.h.r, .bool L.h.w, .bool L.h.x, .bool L.h.af, .bool L.h.ng, .int .i64 L.h.soft, .int .i64 L.h.level], 62⟩ :: ⟨F, #[.int .i64 G.kind, .int .i64 G.stage, .int .i64 G.level, .bool G.walk, .int .i64 G.page], 44⟩ :: ⟨C, #[.bool true, .int .i64 frame, .int .i64 tag], 29⟩ :: ⟨B, #[.slice p ws.length cap], 24⟩ :: hr) ?_
    refine runZ ?_
    refine cSame (b := H) (tb := 62) (cs := #[.int .i64 L.h.frame, .int .i64 (mid : Int), .bool L.h.r, .bool L.h.w, .bool L.h.x, .bool L.h.af, .bool L.h.ng, .int .i64 L.h.soft, .int .i64 L.h.level]) ?_
    refine cSame (b := F) (tb := 44) (cs := #[.int .i64 G.kind, .int .i64 G.stage, .int .i64 G.level, .bool G.walk, .int .i64 G.page]) ?_
    refine dc_nil ?_
    refine opsC ?_
    refine run ?_
    exact finAATT (cs := #[.int .i64 L.h.frame, .int .i64 (mid : Int), .bool L.h.r, .bool L.h.w, .bool L.h.x, .bool L.h.af, .bool L.h.ng, .int .i64 L.h.soft, .int .i64 L.h.level]) (cs2 := #[.int .i64 G.kind, .int .i64 G.stage, .int .i64 G.level, .bool G.walk, .int .i64 G.page]) ⟨_, hr, rfl, hO, by (refine hpLe_cnt fun a => ?_; simp only [cntB_app, cntB_cons, cntB_nil]; omega)⟩
end Go.Proofs.YtdaenalnmdmflaaGreat
namespace Go.Proofs.YtdaenalnmdmflaaGreat
open Go.RowKit
set_option linter.unusedVariables false
set_option linter.unusedSimpArgs false
set_option maxRecDepth 20000
attribute [local irreducible] Hy St Ops DH DHF DE1 DE2 DE3 DS DCh DWF
def EnD.pg (e : EnD) (P : Nat) : Nat := bif decide (e.kind = 3) then cutN (e.level.toNat - 1) P else P
def pOf (K V A : Int) (P : Nat) (e : EnD) : Bool := decide (e.kind = K) && decide (e.vmid = V) && (e.all || decide (e.asid = A)) && decide (e.page = ((e.pg P : Nat) : Int))
def pFnd (K V A : Int) (P : Nat) (acc : Int) (e : EnD) : Bool := pOf K V A P e && mayA e.r e.w e.x acc
theorem tOf_e (e : EnD) (he : e.may = true) (K V A : Int) (P : Nat) (hP : P ≤ 4095) (w : World) : Fn Tryz.prog 106 [.agg (enV e).toArray, .int .i64 K, .int .i64 V, .int .i64 A, .int .i64 (P : Int)].toArray w [] (fun u _ => u = .bool (pOf K V A P e)) := by
  refine enter Tryz.func106 ?_
  refine run ?_
  intro B
  refine run ?_
  refine st_cutD (σ := Nat) (fun z => [(4, .int .i64 (z : Int))]) (fun _ => [⟨B, (enV e).toArray, 136⟩]) (fun z => z = e.pg P) ?_ ?_
  · refine st_cond _ rfl (fun hc => ?_) (fun hc => ?_)
    · have hk3 : e.kind = 3 := of_decide_eq_true hc
      obtain ⟨hl1, hl3⟩ := may_lv he hk3
      refine run ?_
      have hb := fun wc => tBase_e e.level.toNat (by omega) (by omega) P hP wc
      rw [show ((e.level.toNat : Nat) : Int) = e.level by omega] at hb
      refine callE (fun wc hG => hb wc) ?_
      refine run ?_
      exact meetS (cutN (e.level.toNat - 1) P) (by unfold EnD.pg; rw [hc, cond_true])
    · refine run ?_
      exact meetS P (by unfold EnD.pg; rw [hc, cond_false])
  rintro z hz
  subst hz
  refine runG ?_
  refine fin1 ?_
  unfold pOf
  rfl
theorem tLets_e (e : EnD) (acc : Int) (w : World) : Fn Tryz.prog 107 [.agg (enV e).toArray, .int .i64 acc].toArray w [] (fun u _ => u = .bool (mayA e.r e.w e.x acc)) := by
  refine enter Tryz.func107 ?_
  refine run ?_
  intro B
  refine callE (fun wc hG => pMay_e e.r e.w e.x e.af e.ng e.soft acc wc) ?_
  refine run ?_
  exact fin1 rfl
theorem tFound_e {w : World} (es : List EnD) (ds : List IvD) (v u : Value) (h : SlAt w v 14 (es.map enV)) (hd : SlAt w u 4 (ds.map ivV)) (hcap : ∃ q c, v = .slice q es.length c ∧ es.length ≤ c) (hok : tlbOk es ds = true) (K V A : Int) (P : Nat) (acc : Int) (hV : PtD.btw V 0 15 = true) (hA : PtD.btw A 0 15 = true) (hP : P ≤ 4095) (ha : PtD.btw acc 0 2 = true) :
    Fn Tryz.prog 87 [.agg #[v, u], .int .i64 K, .int .i64 V, .int .i64 A, .int .i64 (P : Int), .int .i64 acc].toArray w [] (fun r _ => r = bif decide (0 ≤ idxI (pFnd K V A P acc) es) then .tuple #[.agg (enV (es.getD (idxI (pFnd K V A P acc) es).toNat default)).toArray, .int .i64 0] else .tuple #[.agg (enV default).toArray, .int .i64 3]) := by
  have h' := h
  have hd' := hd
  have hcap' := hcap
  obtain ⟨q, cap, rfl, hne, hle⟩ := h.opened
  obtain ⟨q2, cap2, rfl, hne2, hle2⟩ := hd.opened
  have hem := tlb_may hok
  obtain ⟨ez, hez⟩ : ∃ z : Int, z = 0 := ⟨0, rfl⟩
  have hpm : ∀ wc, Fn Tryz.prog 53 [.agg #[.bool false, .bool false, .bool false, .bool false, .bool false, .int .i64 0], .int .i64 acc].toArray wc [] (fun u _ => u = .tuple #[.bool (mayA false false false acc), .int .i64 ez]) := fun wc => by
    have := pMay_e false false false false false 0 acc wc
    rw [ha] at this
    rw [hez]; exact this
  refine enter Tryz.func87 ?_
  refine run ?_
  intro B R
  refine run ?_
  refine callE (fun wc hG => hpm wc) ?_
  refine run ?_
  refine callE (fun wc hG => tCheck_e es ds _ _ ((Sees.old h').good hG) ((Sees.old hd').good hG) hcap') ?_
  refine runG ?_
  have hg0 : wnt (!decide ((bif tlbOk es ds then (0 : Int) else 1) = 0) || !decide (ez = 0)) false = true := by rw [hok, hez]; rfl
  simp only [hg0, gv_true]
  refine opsGT ?_ hg0
  refine runG ?_
  intro Z
  refine callEG (fun hg wc hG => tWithin_e 15 [V, A] (lie_rows (xs := [inV V, inV A]) (hG.here ⟨Z, #[.int .i64 V, .int .i64 A], 3⟩ mh) (by simp [inV]) (by simp))) ?_
  refine runG ?_
  have hVA : ([V, A].all fun x => PtD.btw x 0 15) = true := by simp only [List.all_cons, List.all_nil, Bool.and_true, hV, hA]
  have hg1 : wnt (!decide ((bif tlbOk es ds then (0 : Int) else 1) = 0) || !decide (ez = 0) || ![V, A].all fun x => PtD.btw x 0 15) false = true := by rw [hok, hez, hVA]; rfl
  simp only [hg1, gv_true]
  refine opsGT ?_ hg1
  refine runG ?_
  intro Z2
  refine callEG (fun hg wc hG => tWithin_e 4095 [(P : Int)] (lie_rows (xs := [inV (P : Int)]) (hG.here ⟨Z2, #[.int .i64 (P : Int)], 3⟩ mh) (by simp [inV]) (by simp))) ?_
  refine runG ?_
  have hPP : ([(P : Int)].all fun x => PtD.btw x 0 4095) = true := by simp only [List.all_cons, List.all_nil, Bool.and_true]; exact btwT (by omega) (by omega)
  refine st_cond _ rfl (fun hc => absurd hc (by rw [hok, hez, hVA, hPP]; simp)) (fun hc => ?_)
  refine run ?_
  refine loopS (σ := Nat) (fun k => [(49, .int .i64 (k : Int))]) (fun _ => [⟨R, (enV default).toArray, 88⟩]) (fun k => k ≤ es.length ∧ ∀ j, j < k → pFnd K V A P acc (es.getD j default) = false) (fun k => es.length - k) 0 ⟨by omega, fun j h => absurd h (by omega)⟩ ?_
  rintro k m hm ⟨hk, hno⟩
  refine run ?_
  refine st_cond _ rfl (fun hc => ?_) (fun hc => ?_)
  · have hlt : k < es.length := by simp at hc; omega
    obtain ⟨b, o, rfl⟩ := hne (by intro e; subst e; simp at hlt)
    have hr := h.row hlt
    have hemk := hem.1 _ (getD_mem hlt)
    refine run ?_
    intro E
    refine run ?_
    intro X
    refine run ?_
    refine callE (fun wc hG => tOf_e (es.getD k default) hemk K V A P hP wc) ?_
    refine runG ?_
    refine callEG (fun _ wc hG => tLets_e (es.getD k default) acc wc) ?_
    refine runG ?_
    refine st_cond _ rfl (fun hc2 => ?_) (fun hc2 => ?_)
    · rw [idxI_at (k := k) hlt hc2 hno]
      rw [show decide (0 ≤ (k : Int)) = true from decide_eq_true (by omega), cond_true, Int.toNat_natCast]
      refine run ?_
      exact finA1 (cs := (enV (es.getD k default)).toArray) rfl
    · refine run ?_
      refine nextS (k + 1) ⟨hlt, fun j hj => ?_⟩
      rcases Nat.lt_or_ge j k with h1 | h1
      · exact hno j h1
      · obtain rfl : j = k := by omega
        exact hc2
  · have : k = es.length := by simp at hc; omega
    subst this
    rw [show idxI (pFnd K V A P acc) es = -1 from idxI_none hno]
    refine run ?_
    exact finA1 (cs := #[.int .i64 0, .int .i64 0, .int .i64 0, .bool false, .int .i64 0, .int .i64 0, .int .i64 0, .int .i64 0, .bool false, .bool false, .bool false, .bool false, .bool false, .int .i64 0]) rfl
end Go.Proofs.YtdaenalnmdmflaaGreat
namespace Go.Proofs.YtdaenalnmdmflaaGreat
open Go.RowKit
set_option linter.unusedVariables false
set_option linter.unusedSimpArgs false
set_option maxRecDepth 20000
attribute [local irreducible] Hy St Ops DH DHF DE1 DE2 DE3 DS DCh DWF
theorem idxI_same {α : Type} [Inhabited α] {p q : α → Bool} {l : List α} (h : ∀ x ∈ l, p x = q x) : idxI p l = idxI q l := by
  cases ha : l.any p with
  | false =>
    rw [List.any_eq_false] at ha
    rw [idxI_none fun j hj => by simpa using ha _ (getD_mem hj), idxI_none fun j hj => by rw [← h _ (getD_mem hj)]; simpa using ha _ (getD_mem hj)]
  | true =>
    obtain ⟨x, hx, hp⟩ := List.any_eq_true.1 ha
    obtain ⟨j, hj, rfl⟩ := List.getElem_of_mem hx
    have hjp : p (l.getD j default) = true := by rw [List.getD_eq_getElem?_getD, List.getElem?_eq_getElem hj]; exact hp
    obtain ⟨j0, h0, h2, h3⟩ := idx_least p l j hjp
    have hj0 : j0 < l.length := by omega
    rw [idxI_at (k := j0) hj0 h2 h3, idxI_at (k := j0) hj0 (by rw [← h _ (getD_mem hj0)]; exact h2) (fun i hi => by rw [← h _ (getD_mem (by omega))]; exact h3 i hi)]
theorem fnd_whole (V A : Int) (P : Nat) (acc : Int) (e : EnD) : pFnd 1 V A P acc e = pWhole V A P acc e := by
  unfold pFnd pOf pWhole EnD.of_ EnD.lets EnD.pg
  by_cases h : e.kind = 1
  · simp [h, Bool.and_assoc]
  · simp [h]
theorem fnd_mid (V : Int) (P : Nat) (acc : Int) (e : EnD) (he : e.may = true) : pFnd 2 V 0 P acc e = pMid V P acc e := by
  unfold pFnd pOf pMid EnD.lets EnD.pg
  by_cases h : e.kind = 2
  · have hall : e.all = true := by
      simp only [EnD.may, h, decide_true, show decide ((2 : Int) = 1) = false from rfl, cond_true, cond_false, Bool.and_eq_true, Bool.not_eq_true'] at he
      exact he.2.1.1.1.2
    simp [h, hall, Bool.and_assoc]
  · simp [h]
theorem pOf_walk (V A : Int) (P : Nat) (e : EnD) : pOf 3 V A P e = pWlk V A P e := by
  unfold pOf pWlk EnD.of_ EnD.pg
  by_cases h : e.kind = 3
  · simp [h, Bool.and_assoc]
  · simp [h]
def bstE (es : List EnD) (q : EnD → Bool) (k : Nat) : EnD := bif decide (0 ≤ bestI es q k) then es.getD (bestI es q k).toNat default else default
theorem pwlk_kind {V A : Int} {P : Nat} {e : EnD} (h : pWlk V A P e = true) : e.kind = 3 := by
  simp only [pWlk, Bool.and_eq_true, decide_eq_true_eq] at h
  exact h.1.1
theorem bst_lv {es : List EnD} {q : EnD → Bool} {k : Nat} (hm : ∀ x ∈ es, x.may = true) (hq : ∀ x, q x = true → x.kind = 3) (hk : k ≤ es.length) : (!decide ((bstE es q k).level = 0)) = decide (0 ≤ bestI es q k) := by
  unfold bstE
  cases hc : decide (0 ≤ bestI es q k) with
  | false => rfl
  | true =>
    rw [cond_true]
    have h0 := of_decide_eq_true hc
    have h1 := bestI_at (es := es) (q := q) k h0
    have h2 := (bestI_lt (es := es) (q := q) k).2
    have h3 := may_lv (hm _ (getD_mem (l := es) (k := (bestI es q k).toNat) (by omega))) (hq _ h1)
    rw [decide_eq_false (by omega)]; rfl
theorem bst_step {es : List EnD} {q : EnD → Bool} {k : Nat} (hm : ∀ x ∈ es, x.may = true) (hq : ∀ x, q x = true → x.kind = 3) (hk : k < es.length) : bstE es q (k + 1) = bif q (es.getD k default) && decide ((bstE es q k).level < (es.getD k default).level) then es.getD k default else bstE es q k := by
  have hlt := (bestI_lt (es := es) (q := q) k).2
  have key : (q (es.getD k default) && (decide (bestI es q k < 0) || decide ((es.getD (bestI es q k).toNat default).level < (es.getD k default).level))) = (q (es.getD k default) && decide ((bstE es q k).level < (es.getD k default).level)) := by
    cases hqk : q (es.getD k default) with
    | false => rfl
    | true =>
      rw [Bool.true_and, Bool.true_and]
      unfold bstE
      cases hc : decide (0 ≤ bestI es q k) with
      | false =>
        have h0 := of_decide_eq_false hc
        have h3 := may_lv (hm _ (getD_mem hk)) (hq _ hqk)
        rw [cond_false, decide_eq_true (by omega : bestI es q k < 0), Bool.true_or]
        exact (decide_eq_true (show (default : EnD).level < _ from by show (0 : Int) < _; omega)).symm
      | true =>
        have h0 := of_decide_eq_true hc
        rw [cond_true, decide_eq_false (by omega : ¬ bestI es q k < 0), Bool.false_or]
  show (bif decide (0 ≤ bestI es q (k + 1)) then es.getD (bestI es q (k + 1)).toNat default else default) = _
  rw [bestI, key]
  cases hc : (q (es.getD k default) && decide ((bstE es q k).level < (es.getD k default).level)) with
  | true => rw [cond_true, cond_true, decide_eq_true (by omega : (0 : Int) ≤ (k : Int)), cond_true, Int.toNat_natCast]
  | false => rw [cond_false, cond_false]; rfl
def fndV (es : List EnD) (i : Int) : Value := bif decide (0 ≤ i) then .tuple #[.agg (enV (es.getD i.toNat default)).toArray, .int .i64 0] else .tuple #[.agg (enV default).toArray, .int .i64 3]
theorem fndV_eq (es : List EnD) (i : Int) : fndV es i = .tuple #[.agg (enV (bif decide (0 ≤ i) then es.getD i.toNat default else default)).toArray, .int .i64 (bif decide (0 ≤ i) then 0 else 3)] := by
  unfold fndV
  cases decide (0 ≤ i) <;> rfl
section
variable {w : World} {es : List EnD} {ds : List IvD} {v u : Value}
theorem tWhole_e (h : SlAt w v 14 (es.map enV)) (hd : SlAt w u 4 (ds.map ivV)) (hcap : ∃ q c, v = .slice q es.length c ∧ es.length ≤ c) (hok : tlbOk es ds = true) (V A : Int) (P : Nat) (acc : Int) (hV : PtD.btw V 0 15 = true) (hA : PtD.btw A 0 15 = true) (hP : P ≤ 4095) (ha : PtD.btw acc 0 2 = true) :
    Fn Tryz.prog 61 [.agg #[v, u], .int .i64 V, .int .i64 A, .int .i64 (P : Int), .int .i64 acc].toArray w [] (fun r _ => r = fndV es (idxI (pWhole V A P acc) es)) := by
  have h' := h
  have hd' := hd
  have hcap' := hcap
  obtain ⟨q, cap, rfl, _, _⟩ := h.opened
  obtain ⟨q2, cap2, rfl, _, _⟩ := hd.opened
  have hi : idxI (pFnd 1 V A P acc) es = idxI (pWhole V A P acc) es := idxI_same fun x hx => fnd_whole V A P acc x
  have hf : ∀ {wc : World}, SlAt wc (.slice q es.length cap) 14 (es.map enV) → SlAt wc (.slice q2 ds.length cap2) 4 (ds.map ivV) → Fn Tryz.prog 87 [.agg #[.slice q es.length cap, .slice q2 ds.length cap2], .int .i64 1, .int .i64 V, .int .i64 A, .int .i64 (P : Int), .int .i64 acc].toArray wc [] (fun r _ => r = .tuple #[.agg (enV (bif decide (0 ≤ idxI (pWhole V A P acc) es) then es.getD (idxI (pWhole V A P acc) es).toNat default else default)).toArray, .int .i64 (bif decide (0 ≤ idxI (pWhole V A P acc) es) then 0 else 3)]) := fun ha1 hb1 => by
    have := tFound_e es ds _ _ ha1 hb1 hcap' hok 1 V A P acc hV hA hP ha
    rw [hi] at this
    rw [← fndV_eq]
    exact this
  rw [fndV_eq]
  generalize (bif decide (0 ≤ idxI (pWhole V A P acc) es) then es.getD (idxI (pWhole V A P acc) es).toNat default else default) = E at hf ⊢
  generalize (bif decide (0 ≤ idxI (pWhole V A P acc) es) then (0 : Int) else 3) = z at hf ⊢
  refine enter Tryz.func61 ?_
  refine run ?_
  intro B R
  refine run ?_
  refine callE (fun wc hG => hf ((Sees.old h').good hG) ((Sees.old hd').good hG)) ?_
  refine run ?_
  exact finA1 (cs := (enV E).toArray) rfl
theorem tMid_e (h : SlAt w v 14 (es.map enV)) (hd : SlAt w u 4 (ds.map ivV)) (hcap : ∃ q c, v = .slice q es.length c ∧ es.length ≤ c) (hok : tlbOk es ds = true) (V : Int) (P : Nat) (acc : Int) (hV : PtD.btw V 0 15 = true) (hP : P ≤ 4095) (ha : PtD.btw acc 0 2 = true) :
    Fn Tryz.prog 85 [.agg #[v, u], .int .i64 V, .int .i64 (P : Int), .int .i64 acc].toArray w [] (fun r _ => r = fndV es (idxI (pMid V P acc) es)) := by
  have h' := h
  have hd' := hd
  have hcap' := hcap
  obtain ⟨q, cap, rfl, _, _⟩ := h.opened
  obtain ⟨q2, cap2, rfl, _, _⟩ := hd.opened
  have hi : idxI (pFnd 2 V 0 P acc) es = idxI (pMid V P acc) es := idxI_same fun x hx => fnd_mid V P acc x ((tlb_may hok).1 x hx)
  have hf : ∀ {wc : World}, SlAt wc (.slice q es.length cap) 14 (es.map enV) → SlAt wc (.slice q2 ds.length cap2) 4 (ds.map ivV) → Fn Tryz.prog 87 [.agg #[.slice q es.length cap, .slice q2 ds.length cap2], .int .i64 2, .int .i64 V, .int .i64 0, .int .i64 (P : Int), .int .i64 acc].toArray wc [] (fun r _ => r = .tuple #[.agg (enV (bif decide (0 ≤ idxI (pMid V P acc) es) then es.getD (idxI (pMid V P acc) es).toNat default else default)).toArray, .int .i64 (bif decide (0 ≤ idxI (pMid V P acc) es) then 0 else 3)]) := fun ha1 hb1 => by
    have := tFound_e es ds _ _ ha1 hb1 hcap' hok 2 V 0 P acc hV rfl hP ha
    rw [hi] at this
    rw [← fndV_eq]
    exact this
  rw [fndV_eq]
  generalize (bif decide (0 ≤ idxI (pMid V P acc) es) then es.getD (idxI (pMid V P acc) es).toNat default else default) = E at hf ⊢
  generalize (bif decide (0 ≤ idxI (pMid V P acc) es) then (0 : Int) else 3) = z at hf ⊢
  refine enter Tryz.func85 ?_
  refine run ?_
  intro B R
  refine run ?_
  refine callE (fun wc hG => hf ((Sees.old h').good hG) ((Sees.old hd').good hG)) ?_
  refine run ?_
  exact finA1 (cs := (enV E).toArray) rfl
theorem tWalk_e (h : SlAt w v 14 (es.map enV)) (hd : SlAt w u 4 (ds.map ivV)) (hcap : ∃ q c, v = .slice q es.length c ∧ es.length ≤ c) (hok : tlbOk es ds = true) (V A : Int) (P : Nat) (hV : PtD.btw V 0 15 = true) (hA : PtD.btw A 0 15 = true) (hP : P ≤ 4095) :
    Fn Tryz.prog 108 [.agg #[v, u], .int .i64 V, .int .i64 A, .int .i64 (P : Int)].toArray w [] (fun r _ => r = fndV es (bestI es (pWlk V A P) es.length)) := by
  have h' := h
  have hd' := hd
  have hcap' := hcap
  obtain ⟨q, cap, rfl, hne, hle⟩ := h.opened
  obtain ⟨q2, cap2, rfl, _, _⟩ := hd.opened
  have hem := tlb_may hok
  obtain ⟨ez, hez⟩ : ∃ z : Int, z = 0 := ⟨0, rfl⟩
  have hck : ∀ {wc : World}, SlAt wc (.slice q es.length cap) 14 (es.map enV) → SlAt wc (.slice q2 ds.length cap2) 4 (ds.map ivV) → Fn Tryz.prog 54 [.agg #[.slice q es.length cap, .slice q2 ds.length cap2]].toArray wc [] (fun r _ => r = .int .i64 ez) := fun ha1 hb1 => by
    have := tCheck_e es ds _ _ ha1 hb1 hcap'
    rw [hok] at this
    rw [hez]; exact this
  refine enter Tryz.func108 ?_
  refine run ?_
  intro B R
  refine run ?_
  refine callE (fun wc hG => hck ((Sees.old h').good hG) ((Sees.old hd').good hG)) ?_
  refine runG ?_
  have hg0 : wnt (!decide (ez = 0)) false = true := by rw [hez]; rfl
  simp only [hg0, gv_true]
  refine opsGT ?_ hg0
  refine runG ?_
  intro Z
  refine callEG (fun hg wc hG => tWithin_e 15 [V, A] (lie_rows (xs := [inV V, inV A]) (hG.here ⟨Z, #[.int .i64 V, .int .i64 A], 3⟩ mh) (by simp [inV]) (by simp))) ?_
  refine runG ?_
  have hVA : ([V, A].all fun x => PtD.btw x 0 15) = true := by simp only [List.all_cons, List.all_nil, Bool.and_true, hV, hA]
  have hg1 : wnt (!decide (ez = 0) || ![V, A].all fun x => PtD.btw x 0 15) false = true := by rw [hez, hVA]; rfl
  simp only [hg1, gv_true]
  refine opsGT ?_ hg1
  refine runG ?_
  intro Z2
  refine callEG (fun hg wc hG => tWithin_e 4095 [(P : Int)] (lie_rows (xs := [inV (P : Int)]) (hG.here ⟨Z2, #[.int .i64 (P : Int)], 3⟩ mh) (by simp [inV]) (by simp))) ?_
  refine runG ?_
  have hPP : ([(P : Int)].all fun x => PtD.btw x 0 4095) = true := by simp only [List.all_cons, List.all_nil, Bool.and_true]; exact btwT (by omega) (by omega)
  refine st_cond _ rfl (fun hc => absurd hc (by rw [hez, hVA, hPP]; simp)) (fun hc => ?_)
  refine run ?_
  intro T
  refine run ?_
  refine loopS (σ := Nat × EnD) (fun z => [(33, .int .i64 (z.1 : Int))]) (fun z => [⟨T, #[.int .i64 z.2.kind, .int .i64 z.2.vmid, .int .i64 z.2.asid, .bool z.2.all, .int .i64 z.2.page, .int .i64 z.2.level, .int .i64 z.2.frame, .int .i64 z.2.mid, .bool z.2.r, .bool z.2.w, .bool z.2.x, .bool z.2.af, .bool z.2.ng, .int .i64 z.2.soft], 88⟩, ⟨R, #[.int .i64 0, .int .i64 0, .int .i64 0, .bool false, .int .i64 0, .int .i64 0, .int .i64 0, .int .i64 0, .bool false, .bool false, .bool false, .bool false, .bool false, .int .i64 0], 88⟩]) (fun z => z.1 ≤ es.length ∧ z.2 = bstE es (pWlk V A P) z.1) (fun z => es.length - z.1) (0, default) ⟨Nat.zero_le _, rfl⟩ ?_
  rintro ⟨k, bst⟩ m hm ⟨hk, hB⟩
  dsimp only at hm hk hB ⊢
  refine run ?_
  refine st_cond _ rfl (fun hc => ?_) (fun hc => ?_)
  · have hlt : k < es.length := by simp at hc; omega
    obtain ⟨b, o, rfl⟩ := hne (by intro e; subst e; simp at hlt)
    have hr := h.row hlt
    have hemk := hem.1 _ (getD_mem hlt)
    have hstep := bst_step (q := pWlk V A P) (es := es) (k := k) (fun x hx => hem.1 x hx) (fun x hx => pwlk_kind hx) hlt
    rw [← hB] at hstep
    refine run ?_
    intro E
    refine runG ?_
    refine callE (fun wc hG => tOf_e (es.getD k default) hemk 3 V A P hP wc) ?_
    rw [pOf_walk]
    refine runG ?_
    refine st_cond _ rfl (fun hc2 => ?_) (fun hc2 => ?_)
    · rw [hc2, cond_true] at hstep
      refine run ?_
      exact nextS (k + 1, es.getD k default) ⟨hlt, hstep.symm⟩ (hm := by dsimp only; omega) (h2 := by (refine hpLe_cnt fun a => ?_; simp only [cntB_app, cntB_cons, cntB_nil]; omega))
    · rw [hc2, cond_false] at hstep
      refine run ?_
      exact nextS (k + 1, bst) ⟨hlt, hstep.symm⟩ (hm := by dsimp only; omega) (h2 := by (refine hpLe_cnt fun a => ?_; simp only [cntB_app, cntB_cons, cntB_nil]; omega))
  · have : k = es.length := by simp at hc; omega
    subst this
    rw [fndV_eq]
    have hbl := bestI_lt (es := es) (q := pWlk V A P) es.length
    have hlv := bst_lv (q := pWlk V A P) (es := es) (k := es.length) (fun x hx => hem.1 x hx) (fun x hx => pwlk_kind hx) (Nat.le_refl _)
    rw [← hB] at hlv
    rw [show (bif decide (0 ≤ bestI es (pWlk V A P) es.length) then es.getD (bestI es (pWlk V A P) es.length).toNat default else default) = bst from hB.symm]
    refine run ?_
    refine st_cond _ rfl (fun hc2 => ?_) (fun hc2 => ?_)
    · rw [show decide (0 ≤ bestI es (pWlk V A P) es.length) = false by rw [← hlv]; simpa using hc2]
      refine run ?_
      exact finA1 (cs := (enV bst).toArray) rfl
    · rw [show decide (0 ≤ bestI es (pWlk V A P) es.length) = true by rw [← hlv]; simpa using hc2]
      refine run ?_
      exact finA1 (cs := (enV bst).toArray) rfl
end
end Go.Proofs.YtdaenalnmdmflaaGreat
namespace Go.Proofs.YtdaenalnmdmflaaGreat
open Go.RowKit
set_option linter.unusedVariables false
set_option linter.unusedSimpArgs false
set_option maxRecDepth 20000
attribute [local irreducible] Hy St Ops DH DHF DE1 DE2 DE3 DS DCh DWF
section
variable {w : World} {es : List EnD} {ds : List IvD} {v u : Value}
theorem tFill_e (h : SlAt w v 14 (es.map enV)) (hd : SlAt w u 4 (ds.map ivV)) (hcap : ∃ q c, v = .slice q es.length c ∧ es.length ≤ c) (hok : tlbOk es ds = true) (e : EnD) (he : e.may = true) :
    Fn Tryz.prog 92 [.agg #[v, u], .agg (enV e).toArray].toArray w [] (fun r hn => ∃ v1 h1 v2 h2, r = .tuple #[.agg #[v1, v2], .int .i64 0] ∧ Own 88 14 v1 h1 ((fillL es e).map enV) ∧ Own 94 4 v2 h2 (ds.map ivV) ∧ HpLe (h1 ++ h2) hn) := by
  have h' := h
  have hd' := hd
  have hcap' := hcap
  obtain ⟨q, cap, rfl, hne, hle⟩ := h.opened
  obtain ⟨q2, cap2, rfl, _, _⟩ := hd.opened
  have hem := tlb_may hok
  obtain ⟨ez, hez⟩ : ∃ z : Int, z = 0 := ⟨0, rfl⟩
  have hck : ∀ {wc : World}, SlAt wc (.slice q es.length cap) 14 (es.map enV) → SlAt wc (.slice q2 ds.length cap2) 4 (ds.map ivV) → Fn Tryz.prog 54 [.agg #[.slice q es.length cap, .slice q2 ds.length cap2]].toArray wc [] (fun r _ => r = .int .i64 ez) := fun ha1 hb1 => by
    have := tCheck_e es ds _ _ ha1 hb1 hcap'
    rw [hok] at this
    rw [hez]; exact this
  refine enter Tryz.func92 ?_
  refine run ?_
  intro B C R
  refine run ?_
  refine callE (fun wc hG => hck ((Sees.old h').good hG) ((Sees.old hd').good hG)) ?_
  refine runG ?_
  refine callEG (fun hg wc hG => enMay_e e wc) ?_
  refine runG ?_
  refine st_cond _ rfl (fun hc => absurd hc (by rw [hez, he]; simp)) (fun hc => ?_)
  refine run ?_
  refine callB (fun wc hG => tlbCopy_e es ds _ _ ((Sees.old h').good hG) ((Sees.old hd').good hG) (by omega) (by omega)) ?_
  rintro u1 hn1 ⟨v1, h1, v2, h2, rfl, hO1, hO2, hle1⟩
  obtain ⟨q3, c3, e3⟩ := hO1.opened
  obtain ⟨q4, c4, e4⟩ := hO2.opened
  rw [List.length_map] at e3 e4
  subst e3 e4
  refine ops_le (⟨R, #[.slice none 0 0, .slice none 0 0], 35⟩ :: ⟨C, (enV e).toArray, 88⟩ :: (h1 ++ h2)) (by (refine hpLe_cnt fun a => ?_; have := HpLe.cnt hle1 a; simp only [cntB_app, cntB_cons, cntB_nil] at *; omega)) ?_
  refine run ?_
  intro X
  refine runG ?_
  refine callEG (fun _ wc hG => containsEn_e e es _ (hO1.lie (fun b hb => hG.here b (by simp [hb])) (by rw [List.length_map]; omega))) ?_
  refine runG ?_
  have hcc : decide ((es.length : Int) < 8) = decide (es.length < 8) := by
    rw [Bool.eq_iff_iff, decide_eq_true_eq, decide_eq_true_eq]; omega
  refine st_cond _ rfl (fun hc2 => ?_) (fun hc2 => ?_)
  · have hfl : fillL es e = es ++ [e] := by
      unfold fillL
      rw [show (!(es.any fun t => decide (t = e)) && decide (es.length < 8)) = true by
        rw [Bool.and_comm, ← hcc]; exact hc2]
      rfl
    rw [hfl]
    refine run ?_
    intro T
    refine run ?_
    refine appendW (c := enV e) (⟨T, #[.int .i64 e.kind, .int .i64 e.vmid, .int .i64 e.asid, .bool e.all, .int .i64 e.page, .int .i64 e.level, .int .i64 e.frame, .int .i64 e.mid, .bool e.r, .bool e.w, .bool e.x, .bool e.af, .bool e.ng, .int .i64 e.soft], 88⟩ :: ⟨X, #[.slice q3 es.length c3, .slice q4 ds.length c4], 35⟩ :: ⟨R, #[.slice none 0 0, .slice none 0 0], 35⟩ :: ⟨C, (enV e).toArray, 88⟩ :: h2) hO1 (fun v' ha' hA' => ?_) (by simp; omega) (news_own (m := 14) mh rfl) (hperm := by (refine perm_cnt fun a => ?_; simp only [cntB_app, cntB_cons, cntB_nil]; omega))
    rw [show es.map enV ++ [enV e] = (es ++ [e]).map enV by simp] at hA'
    obtain ⟨q5, c5, e5⟩ := hA'.opened
    rw [List.length_map] at e5
    subst e5
    refine ops_le (⟨X, #[.slice q3 es.length c3, .slice q4 ds.length c4], 35⟩ :: ⟨R, #[.slice none 0 0, .slice none 0 0], 35⟩ :: (ha' ++ h2)) (by (refine hpLe_cnt fun a => ?_; simp only [cntB_app, cntB_cons, cntB_nil]; omega)) ?_
    refine run ?_
    exact finA1 (cs := #[.slice q5 (es ++ [e]).length c5, .slice q4 ds.length c4]) ⟨_, ha', _, h2, rfl, hA', hO2, by (refine hpLe_cnt fun a => ?_; simp only [cntB_app, cntB_cons, cntB_nil]; omega)⟩
  · have hfl : fillL es e = es := by
      unfold fillL
      rw [show (!(es.any fun t => decide (t = e)) && decide (es.length < 8)) = false by
        rw [Bool.and_comm, ← hcc]; exact hc2]
      rfl
    rw [hfl]
    refine run ?_
    exact finA1 (cs := #[.slice q3 es.length c3, .slice q4 ds.length c4]) ⟨_, h1, _, h2, rfl, hO1, hO2, by (refine hpLe_cnt fun a => ?_; simp only [cntB_app, cntB_cons, cntB_nil]; omega)⟩
end
end Go.Proofs.YtdaenalnmdmflaaGreat
namespace Go.Proofs.YtdaenalnmdmflaaGreat
open Go.RowKit
set_option linter.unusedVariables false
set_option linter.unusedSimpArgs false
set_option maxRecDepth 20000
section
variable {P : Program} {T : Tab} {n : Nat} {w0 : World} {mu : List Nat} {l : Fm} {hp : Hp} {dd : Option Tmp} {ty : TypeId} {pos : String} {af : Array Edge} {gg : Option (Nat × Bool)} {Q : Exit → Fm → Hp → Prop} {all : Array Oper} {rest : List Oper}
theorem z_clearC (ok : TabOk P T) {t e sz b o m c : Nat} {cs : Array Value} {tb : TypeId} {x : Operand} {z : Value} {hp' : Hp} (hx : ev l x = some (.slice (some ⟨b, o, none⟩) m c)) (ht : lk T.sl t = some (e, sz)) (hz : lk T.zs e = some z) (hzs : z.cells.size = sz) (hz1 : z.cells.toList.all (·.oneCell') = true) (h0 : 0 < sz) (hm : 0 < m)
    (hperm : (⟨b, cs, tb⟩ :: hp').Perm hp) (hfit : o + m * sz ≤ cs.size)
    (h : ∀ zs : List Value, zs.length = m * sz → Ops P n w0 mu all rest l (⟨b, putAt cs o zs, tb⟩ :: hp') Q) : Ops P n w0 mu all (⟨none, .call { callee := .builtin .clear, args := #[x], argTypes := #[t] }, ty, pos, af, none⟩ :: rest) l hp Q := by
  intro ac w hk hG
  obtain ⟨hu, hsz⟩ := ok.gsl ht
  have hG' := hG.perm hperm
  have hb := hG'.here _ (List.mem_cons_self ..)
  obtain ⟨zs, hrep⟩ : ∃ zs, zs = (Builtin.zeroCells z.cells m).toList := ⟨_, rfl⟩
  have hlen : zs.length = m * sz := by rw [hrep, Array.length_toList, size_zeroCells, hzs, Nat.mul_comm]
  have hall : ∀ u ∈ zs, u.oneCell' = true := fun u hu => by
    rw [hrep] at hu
    simp only [Builtin.zeroCells, Array.mem_toList_iff, Array.mem_map, Array.mem_range] at hu
    obtain ⟨i, hi, rfl⟩ := hu
    have hlt : i % z.cells.size < z.cells.size := Nat.mod_lt _ (by omega)
    have h2 := (List.all_eq_true.1 hz1) (z.cells[i % z.cells.size]) (by simp)
    simpa [hlt] using h2
  have hst := run_storeCells_cells (P := P) b o zs 0 w
    (fun j hj => by rw [hlen] at hj; rw [cell_of_block hb]; simp [show o + j < cs.size by omega])
    (fun j _ => free_of_block hb) hall
  simp only [Nat.add_zero] at hst
  refine wpList_plain rfl fun K hK => ?_
  unfold Oper.wp execOp
  have hr : (Builtin.clear_ #[t] ty #[.slice (some ⟨b, o, none⟩) m c]).run P w = .ok (.tuple #[]) (w.setCells b o zs) := by
    obtain ⟨m', rfl⟩ : ∃ m', m = m' + 1 := ⟨m - 1, by omega⟩
    simp [Builtin.clear_, run_underlying hu, run_zero (ok.gzs hz) w, ← hrep, hst]
  simp only [resolve, invoke, builtin, Sem.run_bind, Sem.run_pure, Result.andThen_ok, List.map_toArray, List.map_cons, List.map_nil, hk.ev hx, hr]
  exact hK _ _ (h zs hlen _ _ hk (Good.sets (w := w) _ cs o w hG'))
end
theorem Row.cut_end {g cap n i sz : Nat} {cur : Array Value} {xs : List (List Value)} (h : Row g cap cur sz n xs.flatten) (hall : ∀ c ∈ xs, c.length = sz) (hi : i ≤ n) (hn : xs.length = n) {zs : List Value} (hz : i * sz + zs.length ≤ cur.size) : Row g cap (putAt cur (i * sz) zs) sz i (xs.take i).flatten := by
  have hle : i * sz ≤ n * sz := Nat.mul_le_mul_right _ hi
  refine ⟨by rw [flatten_len (xs.take i) (fun c hc => hall c (List.mem_of_mem_take hc)), List.length_take, Nat.min_eq_left (by omega)], Nat.le_trans hi h.le, h.max, by rw [putAt_size]; exact h.size, ?_⟩
  have hl : (cur.toList.take (i * sz)).length = i * sz := by
    rw [List.length_take, Nat.min_eq_left]; simp; omega
  rw [putAt_list _ _ _ hz, List.append_assoc, List.take_left' hl]
  have h1 := congrArg (List.take (i * sz)) h.take
  rw [List.take_take, Nat.min_eq_left hle] at h1
  rw [h1]
  conv => lhs; rw [← List.take_append_drop i xs]
  rw [List.flatten_append, List.take_left']
  rw [flatten_len (xs.take i) (fun c hc => hall c (List.mem_of_mem_take hc)), List.length_take, Nat.min_eq_left (by omega)]
attribute [local irreducible] Hy St Ops DH DHF DE1 DE2 DE3 DS DCh
end Go.Proofs.YtdaenalnmdmflaaGreat
namespace Go.Proofs.YtdaenalnmdmflaaGreat
open Go.RowKit
set_option linter.unusedVariables false
set_option linter.unusedSimpArgs false
set_option maxRecDepth 20000
section
variable {P : Program} {T : Tab} {n : Nat} {w0 : World} {mu : List Nat} {l : Fm} {hp : Hp} {ty : TypeId} {pos : String} {af : Array Edge} {Q : Exit → Fm → Hp → Prop} {all : Array Oper} {rest : List Oper}
theorem x_sliceLHM (ok : TabOk P T) {dd : Option Tmp} {gg : Option (Nat × Bool)} {t e sz m cap : Nat} {p : Option Addr} {kl kh km : IntKind} {x lo hi mx : Operand} {i j k : Int} (hx : ev l x = some (.slice p m cap)) (hlo : ev l lo = some (.int kl i)) (hhi : ev l hi = some (.int kh j)) (hmx : ev l mx = some (.int km k)) (ht : lk T.sl t = some (e, sz))
    (h0 : 0 ≤ i) (h1 : i ≤ j) (h2 : j ≤ k) (h3 : k ≤ cap) :
    Hy P n w0 mu l hp ⟨dd, .slice t x (some lo) (some hi) (some mx), ty, pos, af, gg⟩ (sliced p i.toNat j.toNat k.toNat sz) := by
  obtain ⟨hu, hsz⟩ := ok.gsl ht
  refine hy_run fun a w hk _ => ?_
  have he : P.elem t = e := by simp [Program.elem, hu]
  have hs := run_sizeOf hsz w
  simp only [execOp, Option.map_some, Option.map_none, hk.ev hx, hk.ev hlo, hk.ev hhi, hk.ev hmx]
  simp only [Sem.run_bind]
  rw [run_sliceAt_slice (w := w) t _ _ _ _ (elem_of hu), run_slice_lhm (w := w) t _ m cap (elem_of hu) kl kh km i j k h0 h1 h2 h3, he, hs]
  simp
theorem z_appendIn (ok : TabOk P T) {t d e sz by_ k m c a o g cap : Nat} {cur : Array Value} {x y : Operand} {z : Value} {xs news : List Value} {hp' : Hp} (hd : Nat.blt d n = true) (hx : ev l x = some (.slice (some ⟨g, 0, none⟩) k cap)) (hy : ev l y = some (.slice (some ⟨a, o, none⟩) m c)) (ht : lk T.sl t = some (e, sz))
    (hz : lk T.zs e = some z) (hzs : z.cells.size = sz) (hb : lk T.eb e = some by_) (hperm : (⟨g, cur, e⟩ :: hp').Perm hp) (hown : Row g cap cur sz k xs) (hl : news.length = m * sz) (hnews : NewsAt w0 mu hp a o news) (h1 : news.all (·.oneCell') = true) (hroom : k + m ≤ cap)
    (h : ∀ cur', Row g cap cur' sz (k + m) (xs ++ news) → Ops P n w0 mu all rest ((d, .slice (some ⟨g, 0, none⟩) (k + m) cap) :: l) (⟨g, cur', e⟩ :: hp') Q) : Ops P n w0 mu all (⟨some d, .call { callee := .builtin .append, args := #[x, y], argTypes := #[t, t] }, ty, pos, af, none⟩ :: rest) l hp Q := by
  intro ac w hk hG
  have hput : ∀ v, Knows n ((d, v) :: l) (ac.put (some d) v) := fun v => Knows.put (d := some d) hk (fun t ht => by cases ht; simpa using hd) v
  obtain ⟨hu, hsz⟩ := ok.gsl ht
  have hbb := List.all_eq_true.1 ok.eb _ (lk_mem hb)
  simp only [beq_iff_eq] at hbb
  obtain ⟨i, hi, hiz, his, hib⟩ := info_of hsz hbb (ok.gzs hz)
  subst his hib
  have hG' := hG.perm hperm
  have hg := hG'.here _ (List.mem_cons_self ..)
  have hn : ∀ j u, news[j]? = some u → w.cell? ((⟨a, o, none⟩ : Addr).add j) = some u := fun j u hj => by rw [Addr.add_mid]; exact hnews w hG j u hj
  refine wpList_plain rfl fun K hK => ?_
  have hfit : k * i.size + news.length ≤ cur.size := by rw [hl, hown.size, ← Nat.add_mul]; exact Nat.mul_le_mul_right _ hroom
  have hr := run_append_room (P := P) w t ty e i hu hi g k cap cur hg ⟨a, o, none⟩ m c news hl hn (fun u hu => List.all_eq_true.1 h1 u hu) hroom hfit
  unfold Oper.wp execOp
  simp only [resolve, invoke, builtin, Sem.run_bind, Sem.run_pure, Result.andThen_ok, List.map_toArray, List.map_cons, List.map_nil, hk.ev hx, hk.ev hy, hr]
  refine hK _ _ (h _ ⟨?_, hroom, hown.max, ?_, ?_⟩ _ _ (hput _) (hG'.row _))
  · rw [List.length_append, hown.len, hl, Nat.add_mul]
  · have := hown.size
    simp only [List.size_toArray, List.length_append, List.length_take, List.length_drop, Array.length_toList]
    omega
  · rw [hown.take, show (k + m) * i.size = (xs ++ news).length by rw [List.length_append, hown.len, hl, Nat.add_mul]]
    exact List.take_left
end
attribute [local irreducible] Hy St Ops DH DHF DE1 DE2 DE3 DS DCh DWF
theorem Row.pre {g cap n i sz : Nat} {cur : Array Value} {xs : List (List Value)} (h : Row g cap cur sz n xs.flatten) (hall : ∀ c ∈ xs, c.length = sz) (hi : i ≤ n) (hn : xs.length = n) : Row g cap cur sz i (xs.take i).flatten := by
  have hle : i * sz ≤ n * sz := Nat.mul_le_mul_right _ hi
  have hf : (xs.take i).flatten.length = i * sz := by rw [flatten_len (xs.take i) (fun c hc => hall c (List.mem_of_mem_take hc)), List.length_take, Nat.min_eq_left (by omega)]
  refine ⟨hf, Nat.le_trans hi h.le, h.max, h.size, ?_⟩
  have h1 := congrArg (List.take (i * sz)) h.take
  rw [List.take_take, Nat.min_eq_left hle] at h1
  rw [h1]
  conv => lhs; rw [← List.take_append_drop i xs]
  rw [List.flatten_append, List.take_left' hf]
theorem Row.post {g cap n i sz : Nat} {cur : Array Value} {xs : List (List Value)} (h : Row g cap cur sz n xs.flatten) (hall : ∀ c ∈ xs, c.length = sz) (hi : i ≤ n) (hn : xs.length = n) : (cur.toList.drop (i * sz)).take ((n - i) * sz) = (xs.drop i).flatten := by
  have hf : (xs.take i).flatten.length = i * sz := by rw [flatten_len (xs.take i) (fun c hc => hall c (List.mem_of_mem_take hc)), List.length_take, Nat.min_eq_left (by omega)]
  have h1 := congrArg (List.drop (i * sz)) h.take
  rw [List.drop_take] at h1
  rw [Nat.sub_mul, h1]
  conv => lhs; rw [← List.take_append_drop i xs]
  rw [List.flatten_append, List.drop_left' hf]
theorem delete1_e {w : World} (es : List EnD) (i : Nat) (hi : i < es.length) (hl : es.length < 100000) {v : Value} {ha : Hp} (hA : Own 88 14 v ha (es.map enV)) (hN : HereN ha w) :
    Fn Tryz.prog 59 [v, .int .i64 (i : Int), .int .i64 ((i + 1 : Nat) : Int)].toArray w (ha.map (·.b)) (fun u hn => Own 88 14 u hn ((es.eraseIdx i).map enV)) := by
  obtain ⟨g, cap, cur, rfl, rfl, hrow⟩ := hA.row (n := es.length) (by simp) (by omega)
  have hle := hrow.le
  have hsz := hrow.size
  refine enterM _ hN Tryz.func59 ?_
  refine run ?_
  refine op1 (by rfl) (x_sliceLHM tb_ok rfl rfl rfl rfl (by rfl) (by omega) (by omega) (by omega) (by omega)) ?_
  refine run ?_
  refine st_cond _ rfl (fun hc => absurd hc (by simp; omega)) (fun hc => ?_)
  refine run ?_
  have hall : ∀ c ∈ (es.drop (i + 1)).map enV, c.length = 14 ∧ c.all (·.oneCell') = true := fun c hc => by
    obtain ⟨x, _, rfl⟩ := List.mem_map.1 hc
    exact ⟨rfl, rfl⟩
  have hdl : (es.drop (i + 1)).length = es.length - (i + 1) := List.length_drop
  refine st_cutD (σ := Array Value) (fun _ => [(0, .slice (some ⟨g, 0, none⟩) (es.length - 1) cap)]) (fun cur' => [⟨g, cur', 88⟩]) (fun cur' => Row g cap cur' 14 (es.length - 1) ((es.eraseIdx i).map enV).flatten) ?_ ?_
  · refine drawN 6 ?_
    refine runD ?_
    refine opD (x_sliceH tb_ok rfl rfl (by rfl) (by omega) (by omega) (m' := i) (by simp) (.inr ⟨_, _, rfl⟩)) ?_
    refine runD ?_
    refine opD (x_sliceLV tb_ok rfl rfl (by rfl) (by omega) (by omega)) ?_
    refine runD ?_
    have hpre := hrow.pre (fun c hc => (en_all c hc).1) (i := i) (by omega) (by simp)
    by_cases hlast : i + 1 = es.length
    · rw [show sliced (some ⟨g, 0, none⟩) (((i + 1 : Nat) : Int)).toNat es.length cap 14 = .slice (if cap = i + 1 then some ⟨g, 0, none⟩ else some ⟨g, 0 + (i + 1) * 14, none⟩) 0 (cap - (i + 1)) by
        simp [sliced, hlast, slice_add]]
      refine z_append0 tb_ok (by rfl) rfl (by omega) rfl (by rfl) (by rfl) ?_
      refine run ?_
      rw [show i = es.length - 1 by omega]
      refine meetS cur ?_
      rw [List.eraseIdx_eq_take_drop_succ, show es.length - 1 + 1 = es.length by omega, List.drop_length, List.append_nil, List.map_take]
      rw [show es.length - 1 = i by omega]
      exact hpre
    · rw [show sliced (some ⟨g, 0, none⟩) (((i + 1 : Nat) : Int)).toNat es.length cap 14 = .slice (some ⟨g, (i + 1) * 14, none⟩) (es.length - (i + 1)) (cap - (i + 1)) by
        have : ¬ cap = i + 1 := by omega
        simp [sliced, this, slice_add]]
      have hpost := hrow.post (fun c hc => (en_all c hc).1) (i := i + 1) (by omega) (by simp)
      rw [← List.map_drop] at hpost
      refine z_appendIn tb_ok (hp' := []) (by rfl) rfl rfl (by rfl) (by rfl) (by rfl) (by rfl) (.refl _) hpre (news := ((es.drop (i + 1)).map enV).flatten) (by rw [flatten_len _ (fun c hc => (hall c hc).1), List.length_map, hdl]) (news_own (m := (es.length - (i + 1)) * 14) mh hpost) (by
        rw [List.all_eq_true]
        intro u hu
        obtain ⟨c, hc, hu⟩ := List.mem_flatten.1 hu
        exact List.all_eq_true.1 (hall c hc).2 u hu) (by omega) (fun cur' hrow' => ?_)
      refine run ?_
      rw [show i + (es.length - (i + 1)) = es.length - 1 by omega] at hrow' ⊢
      refine meetS cur' ?_
      rw [List.eraseIdx_eq_take_drop_succ, List.map_append, List.flatten_append, List.map_take]
      exact hrow'
  rintro cur' hrow'
  have hsz' := hrow'.size
  have hel : (es.eraseIdx i).length = es.length - 1 := by rw [List.length_eraseIdx]; simp [hi]
  refine run ?_
  refine op1 (by rfl) (x_sliceLH tb_ok rfl rfl rfl (by rfl) (by omega) (by omega) (by omega) (by omega) (o' := (es.length - 1) * 14) (by omega) (m' := 1) (by omega) (c' := cap - (es.length - 1)) (by omega)) ?_
  refine z_clearC tb_ok (hp' := []) rfl (by rfl) (by rfl) (by rfl) (by rfl) (by decide) (by omega) (.refl _) (by rw [hsz']; omega) (fun zs hzs => ?_)
  refine run ?_
  refine fin1 ?_
  refine ⟨en_all, .inr ⟨g, cap, putAt cur' ((es.length - 1) * 14) zs, by rw [List.length_map, hel], rfl, ?_⟩⟩
  have := hrow'.cut_end (i := es.length - 1) (fun c hc => (en_all c hc).1) (Nat.le_refl _) (by rw [List.length_map]; exact hel) (zs := zs) (by rw [hzs, hsz']; omega)
  rw [List.take_of_length_le (by rw [List.length_map, hel]; exact Nat.le_refl _)] at this
  rw [List.length_map, hel]
  exact this
section
variable {w : World} {es : List EnD} {ds : List IvD} {v u : Value}
theorem tDrop_e (h : SlAt w v 14 (es.map enV)) (hd : SlAt w u 4 (ds.map ivV)) (hcap : ∃ q c, v = .slice q es.length c ∧ es.length ≤ c) (hok : tlbOk es ds = true) (i : Int) :
    Fn Tryz.prog 31 [.agg #[v, u], .int .i64 i].toArray w [] (fun r hn => ∃ v1 h1 v2 h2, r = .tuple #[.agg #[v1, v2], .int .i64 (bif decide (0 ≤ i) && decide (i < (es.length : Int)) then 0 else 3)] ∧ ((decide (0 ≤ i) && decide (i < (es.length : Int))) = true → Own 88 14 v1 h1 ((dropL es i).map enV) ∧ Own 94 4 v2 h2 (ds.map ivV)) ∧ ((decide (0 ≤ i) && decide (i < (es.length : Int))) = false → v1 = .slice none 0 0 ∧ v2 = .slice none 0 0) ∧ HpLe (h1 ++ h2) hn) := by
  have h' := h
  have hd' := hd
  have hcap' := hcap
  obtain ⟨q, cap, rfl, hne, hle⟩ := h.opened
  obtain ⟨q2, cap2, rfl, _, _⟩ := hd.opened
  have hem := tlb_may hok
  refine enter Tryz.func31 ?_
  refine run ?_
  intro B R
  refine run ?_
  refine callE (fun wc hG => tCheck_e es ds _ _ ((Sees.old h').good hG) ((Sees.old hd').good hG) hcap') ?_
  rw [hok]
  refine runC ?_
  have hin : (decide (0 ≤ i) && decide (i < (es.length : Int))) = !(decide (i < 0) || decide ((es.length : Int) ≤ i)) := by
    rw [Bool.not_or, ← decide_not, ← decide_not]
    congr 1 <;> (rw [Bool.eq_iff_iff, decide_eq_true_eq, decide_eq_true_eq]; omega)
  refine st_cond _ rfl (fun hc => ?_) (fun hc => ?_)
  · rw [hin, hc]
    refine run ?_
    exact finA1 (cs := #[.slice none 0 0, .slice none 0 0]) ⟨_, [], _, [], rfl, fun h => absurd h (by simp), fun _ => ⟨rfl, rfl⟩, by (refine hpLe_cnt fun a => ?_; simp only [cntB_app, cntB_cons, cntB_nil] <;> omega)⟩
  · rw [hin, hc]
    have hii : 0 ≤ i ∧ i < es.length := by simp at hc; omega
    obtain ⟨k, rfl⟩ : ∃ k : Nat, i = (k : Int) := ⟨i.toNat, by omega⟩
    have hdl : dropL es (k : Int) = es.eraseIdx k := by
      unfold dropL
      rw [hin, hc]; rfl
    rw [hdl]
    refine run ?_
    refine callB (fun wc hG => tlbCopy_e es ds _ _ ((Sees.old h').good hG) ((Sees.old hd').good hG) (by omega) (by omega)) ?_
    rintro u1 hn1 ⟨v1, h1, v2, h2, rfl, hO1, hO2, hle1⟩
    obtain ⟨q3, c3, e3⟩ := hO1.opened
    obtain ⟨q4, c4, e4⟩ := hO2.opened
    rw [List.length_map] at e3 e4
    subst e3 e4
    refine ops_le (⟨R, #[.slice none 0 0, .slice none 0 0], 35⟩ :: (h1 ++ h2)) (by (refine hpLe_cnt fun a => ?_; have := HpLe.cnt hle1 a; simp only [cntB_app, cntB_cons, cntB_nil] at *; omega)) ?_
    refine run ?_
    intro X
    refine run ?_
    refine callM h1 (⟨X, #[.slice q3 es.length c3, .slice q4 ds.length c4], 35⟩ :: ⟨R, #[.slice none 0 0, .slice none 0 0], 35⟩ :: h2) (fun wc hG => delete1_e es k (by omega) (by omega) hO1 hG.hereN) ?_ (by (refine perm_cnt fun a => ?_; simp only [cntB_app, cntB_cons, cntB_nil] <;> omega))
    rintro v5 h5 hO5
    obtain ⟨q5, c5, e5⟩ := hO5.opened
    subst e5
    refine ops_le (⟨X, #[.slice q3 es.length c3, .slice q4 ds.length c4], 35⟩ :: ⟨R, #[.slice none 0 0, .slice none 0 0], 35⟩ :: (h5 ++ h2)) (by (refine hpLe_cnt fun a => ?_; simp only [cntB_app, cntB_cons, cntB_nil] <;> omega)) ?_
    refine run ?_
    exact finA1 (cs := #[.slice q5 ((es.eraseIdx k).map enV).length c5, .slice q4 ds.length c4]) ⟨_, h5, _, h2, rfl, fun _ => ⟨hO5, hO2⟩, fun h => absurd h (by simp), by (refine hpLe_cnt fun a => ?_; simp only [cntB_app, cntB_cons, cntB_nil] <;> omega)⟩
end
end Go.Proofs.YtdaenalnmdmflaaGreat
namespace Go.Proofs.YtdaenalnmdmflaaGreat
open Go.RowKit
set_option linter.unusedVariables false
set_option linter.unusedSimpArgs false
set_option maxRecDepth 20000
attribute [local irreducible] Hy St Ops DH DHF DE1 DE2 DE3 DS DCh DWF
abbrev wyC (c : AcC) (mv ev dv rv : Value) : Array Value := #[mv, ev, dv, .int .i64 c.pk.cpu, .bool c.pk.fill, .bool c.pk.mids, .bool c.pk.walk, .int .i64 c.pk.drop, .bool c.pk.use, .bool c.one.on, .int .i64 c.one.frame, .int .i64 c.one.tag, .bool c.two.on, .int .i64 c.two.frame, .int .i64 c.two.tag, .int .i64 (c.page : Int), .int .i64 c.acc, rv]
theorem Own.cap {e sz : Nat} {v : Value} {hb : Hp} {α : Type} {f : α → List Value} {xs : List α} (hA : Own e sz v hb (xs.map f)) : ∃ q c, v = .slice q xs.length c ∧ xs.length ≤ c := by
  rcases hA.2 with ⟨e1, e2, _⟩ | ⟨g, cap, cur, e1, _, hrow⟩
  · rw [List.map_eq_nil_iff] at e1
    subst e1
    exact ⟨none, 0, e2, Nat.le_refl _⟩
  · rw [List.length_map] at e1 hrow
    exact ⟨_, cap, e1, hrow.le⟩
theorem wyFill_e (c : AcC) {w : World} {Wb : Nat} {mv ev dv rv : Value} {he hd hr : Hp} (es : List EnD) (ds : List IvD) (hok : tlbOk es ds = true) (e : EnD) (hem : e.may = true) (hm : ∃ q n cp, mv = .slice q n cp) (hr' : ∃ q n cp, rv = .slice q n cp)
    (h1 : Own 88 14 ev he (es.map enV)) (h2 : Own 94 4 dv hd (ds.map ivV)) (hN : HereN (⟨Wb, wyC c mv ev dv rv, 73⟩ :: (he ++ hd ++ hr)) w) :
    Fn Tryz.prog 63 [.pointer (some ⟨Wb, 0, none⟩), .agg (enV e).toArray].toArray w (Wb :: (he ++ hd ++ hr).map (·.b)) (fun u hn => ∃ ev' dv' he' hd', u = .tuple #[] ∧ Own 88 14 ev' he' ((fillL es e).map enV) ∧ Own 94 4 dv' hd' (ds.map ivV) ∧ HpLe (⟨Wb, wyC c mv ev' dv' rv, 73⟩ :: (he' ++ hd' ++ hr)) hn) := by
  have hcap := h1.cap
  have hle8 := (tlb_may hok).2
  obtain ⟨qm, nm, cm, rfl⟩ := hm
  obtain ⟨qr, nr, cr, rfl⟩ := hr'
  obtain ⟨qe, ce, ee⟩ := h1.opened
  obtain ⟨qd, cd, ed⟩ := h2.opened
  rw [List.length_map] at ee ed
  subst ee ed
  simp only [wyC] at hN ⊢
  refine enterM _ hN Tryz.func63 ?_
  refine run ?_
  intro B
  refine run ?_
  have hfl := fun {wc : World} (ha : SlAt wc (.slice qe es.length ce) 14 (es.map enV)) (hb : SlAt wc (.slice qd ds.length cd) 4 (ds.map ivV)) => tFill_e ha hb hcap hok e hem
  refine drawED 10 [0, 1, 2, 3, 4, 5] [6] [7, 8, 9] [10, 11] [12] ?_
  refine runS ?_
  refine eCall (fun wc hG => hfl (h1.lie (fun b hb => hG.here b (by simp [hb])) (by rw [List.length_map]; omega)) (h2.lie (fun b hb => hG.here b (by simp [hb])) (by rw [List.length_map]; omega))) (hfl (h1.lie (fun b hb => hN.here b (by simp [hb])) (by rw [List.length_map]; omega)) (h2.lie (fun b hb => hN.here b (by simp [hb])) (by rw [List.length_map]; omega))).some ?_
  refine eNil ?_
  rintro u5 hn5 ⟨v5, h5, v6, h6, rfl, hA5, hA6, hle5⟩
  obtain ⟨q5, c5, e5⟩ := hA5.opened
  obtain ⟨q6, c6, e6⟩ := hA6.opened
  rw [List.length_map] at e5 e6
  subst e5 e6
  refine dMove ?_
  refine dExtract ?_
  refine dExtract ?_
  refine dNil ?_
  refine dNilCheck ?_
  refine dField ?_
  refine dNil ?_
  simp only [DN, List.cons_append, List.nil_append, List.append_nil]
  refine cStore (b := Wb) (tb := 73) (cs := #[.slice qm nm cm, .slice qe es.length ce, .slice qd ds.length cd, .int .i64 c.pk.cpu, .bool c.pk.fill, .bool c.pk.mids, .bool c.pk.walk, .int .i64 c.pk.drop, .bool c.pk.use, .bool c.one.on, .int .i64 c.one.frame, .int .i64 c.one.tag, .bool c.two.on, .int .i64 c.two.frame, .int .i64 c.two.tag, .int .i64 (c.page : Int), .int .i64 c.acc, .slice qr nr cr]) (cs' := #[.slice qm nm cm, .slice q5 (fillL es e).length c5, .slice q6 ds.length c6, .int .i64 c.pk.cpu, .bool c.pk.fill, .bool c.pk.mids, .bool c.pk.walk, .int .i64 c.pk.drop, .bool c.pk.use, .bool c.one.on, .int .i64 c.one.frame, .int .i64 c.one.tag, .bool c.two.on, .int .i64 c.two.frame, .int .i64 c.two.tag, .int .i64 (c.page : Int), .int .i64 c.acc, .slice qr nr cr]) (hp' := hn5 ++ (⟨B, (enV e).toArray, 88⟩ :: (he ++ hd ++ hr))) ?_ (by (refine perm_cnt fun a => ?_; simp only [cntB_app, cntB_cons, cntB_nil]; omega))
  refine dc_nil ?_
  refine opsC ?_
  refine run ?_
  exact fin0 ⟨_, _, h5, h6, rfl, hA5, hA6, by (refine hpLe_cnt fun a => ?_; have := HpLe.cnt hle5 a; simp only [cntB_app, cntB_cons, cntB_nil] at *; omega)⟩
theorem midL_hit (ws : List Nat) (frame : Int) (mid : Nat) (acc : Int) : ((midL ws true frame mid acc).f.kind = 0 → (midL ws true frame mid acc).h.mid = (mid : Int)) ∧ ((midL ws true frame mid acc).f.kind ≠ 0 → (midL ws true frame mid acc).h.frame = 0) := by
  simp only [midL, Bool.not_true, cond_false, midE]
  cases hc : decide ((midG (walk5 ws 2 frame mid) mid acc).kind = 0) with
  | true => exact ⟨fun _ => rfl, fun h => absurd (of_decide_eq_true hc) h⟩
  | false => exact ⟨fun h => absurd h (of_decide_eq_false hc), fun _ => rfl⟩
theorem wyMid_e (c : AcC) (hk : AcOk c) (cap : Nat) (hcc : c.ws.length ≤ cap) {p : Option Addr} {w : World} {Wb : Nat} {ev dv rv : Value} {he hd hr : Hp} (s : AcS) (ds : List IvD) (mid : Nat) (hmid : mid ≤ 4095) (acc : Int) (ha : PtD.btw acc 0 2 = true) (hE : EsOk c.ws.length s.es ds) (hrl : s.rd.length < 100000)
    (hm : Sees w (Wb :: (he ++ hd ++ hr).map (·.b)) (.slice p c.ws.length cap) 1 (c.ws.map uV)) (h1 : Own 88 14 ev he (s.es.map enV)) (h2 : Own 94 4 dv hd (ds.map ivV)) (h3 : Own 3 1 rv hr (s.rd.map inV)) (hN : HereN (⟨Wb, wyC c (.slice p c.ws.length cap) ev dv rv, 73⟩ :: (he ++ hd ++ hr)) w) :
    Fn Tryz.prog 60 [.pointer (some ⟨Wb, 0, none⟩), .int .i64 (mid : Int), .int .i64 acc].toArray w (Wb :: (he ++ hd ++ hr).map (·.b)) (fun u hn => ∃ (H : HtD) (ev' dv' rv' : Value) (he' hd' hr' : Hp), u = .tuple #[htV H, ftV (midA c s mid acc).f] ∧ (H.frame = (midA c s mid acc).n ∧ ((midA c s mid acc).f.kind = 0 → H.mid = (mid : Int) ∧ (⟨H.r, H.w, H.x, H.af, H.ng⟩ : AtD) = (midA c s mid acc).a)) ∧ Own 88 14 ev' he' ((midA c s mid acc).s.es.map enV) ∧ Own 94 4 dv' hd' (ds.map ivV) ∧ Own 3 1 rv' hr' ((midA c s mid acc).s.rd.map inV) ∧ HpLe (⟨Wb, wyC c (.slice p c.ws.length cap) ev' dv' rv', 73⟩ :: (he' ++ hd' ++ hr')) hn) := by
  have hcap := h1.cap
  obtain ⟨qe, ce, ee⟩ := h1.opened
  obtain ⟨qd, cd, ed⟩ := h2.opened
  obtain ⟨qr, cr, er⟩ := h3.opened
  rw [List.length_map] at ee ed er
  subst ee ed er
  simp only [wyC] at hN ⊢
  have hmi := memOk_iff hk.mem
  have hem := hE.may
  have htw := RtD.may_iff hk.two
  refine enterM _ hN Tryz.func60 ?_
  refine run ?_
  intro R1 R2
  refine run ?_
  refine st_cutD (σ := Unit) (fun _ => []) (fun _ => ⟨R2, #[.int .i64 0, .int .i64 0, .int .i64 0, .bool false, .int .i64 0], 44⟩ :: ⟨R1, #[.int .i64 0, .int .i64 0, .bool false, .bool false, .bool false, .bool false, .bool false, .int .i64 0, .int .i64 0], 62⟩ :: ⟨Wb, #[.slice p c.ws.length cap, .slice qe s.es.length ce, .slice qd ds.length cd, .int .i64 c.pk.cpu, .bool c.pk.fill, .bool c.pk.mids, .bool c.pk.walk, .int .i64 c.pk.drop, .bool c.pk.use, .bool c.one.on, .int .i64 c.one.frame, .int .i64 c.one.tag, .bool c.two.on, .int .i64 c.two.frame, .int .i64 c.two.tag, .int .i64 (c.page : Int), .int .i64 c.acc, .slice qr s.rd.length cr], 73⟩ :: (he ++ hd ++ hr)) (fun _ => (c.pk.use && decide (0 ≤ midI c s mid acc)) = false) ?_ ?_
  · refine st_cond _ rfl (fun hc => ?_) (fun hc => ?_)
    · refine run ?_
      have hmm := fun {wc : World} (ha1 : SlAt wc (.slice qe s.es.length ce) 14 (s.es.map enV)) (hb1 : SlAt wc (.slice qd ds.length cd) 4 (ds.map ivV)) => tMid_e ha1 hb1 hcap hE.tlb c.two.tag mid acc (btwT htw.2.1 htw.2.2) hmid ha
      rw [fndV_eq, show idxI (pMid c.two.tag mid acc) s.es = midI c s mid acc from rfl] at hmm
      obtain ⟨E, hEE⟩ : ∃ E, E = (bif decide (0 ≤ midI c s mid acc) then s.es.getD (midI c s mid acc).toNat default else default) := ⟨_, rfl⟩
      rw [← hEE] at hmm
      refine drawEC 17 16 [0, 1, 2, 3, 4, 5, 6, 7, 8, 9, 10, 11, 12, 13, 14] [15] [16] (⟨R2, #[.int .i64 0, .int .i64 0, .int .i64 0, .bool false, .int .i64 0], 44⟩ :: ⟨R1, #[.int .i64 0, .int .i64 0, .bool false, .bool false, .bool false, .bool false, .bool false, .int .i64 0, .int .i64 0], 62⟩ :: ⟨Wb, #[.slice p c.ws.length cap, .slice qe s.es.length ce, .slice qd ds.length cd, .int .i64 c.pk.cpu, .bool c.pk.fill, .bool c.pk.mids, .bool c.pk.walk, .int .i64 c.pk.drop, .bool c.pk.use, .bool c.one.on, .int .i64 c.one.frame, .int .i64 c.one.tag, .bool c.two.on, .int .i64 c.two.frame, .int .i64 c.two.tag, .int .i64 (c.page : Int), .int .i64 c.acc, .slice qr s.rd.length cr], 73⟩ :: (he ++ hd ++ hr)) ?_
      refine runZ ?_
      refine sCallA (fun wc hx hG => hmm (h1.lie (fun b hb => hG.here b (by simp [hb])) (by rw [List.length_map]; omega)) (h2.lie (fun b hb => hG.here b (by simp [hb])) (by rw [List.length_map]; omega))) ?_
      refine runZ ?_
      refine eAlloc ?_
      refine eNil ?_
      rintro _ _ ⟨X, rfl, rfl⟩
      simp only [DN, List.cons_append, List.nil_append, List.append_nil]
      refine cStore (b := X) (tb := 88) (cs := #[.int .i64 0, .int .i64 0, .int .i64 0, .bool false, .int .i64 0, .int .i64 0, .int .i64 0, .int .i64 0, .bool false, .bool false, .bool false, .bool false, .bool false, .int .i64 0]) (cs' := #[.int .i64 E.kind, .int .i64 E.vmid, .int .i64 E.asid, .bool E.all, .int .i64 E.page, .int .i64 E.level, .int .i64 E.frame, .int .i64 E.mid, .bool E.r, .bool E.w, .bool E.x, .bool E.af, .bool E.ng, .int .i64 E.soft]) (hp' := ⟨R2, #[.int .i64 0, .int .i64 0, .int .i64 0, .bool false, .int .i64 0], 44⟩ :: ⟨R1, #[.int .i64 0, .int .i64 0, .bool false, .bool false, .bool false, .bool false, .bool false, .int .i64 0, .int .i64 0], 62⟩ :: ⟨Wb, #[.slice p c.ws.length cap, .slice qe s.es.length ce, .slice qd ds.length cd, .int .i64 c.pk.cpu, .bool c.pk.fill, .bool c.pk.mids, .bool c.pk.walk, .int .i64 c.pk.drop, .bool c.pk.use, .bool c.one.on, .int .i64 c.one.frame, .int .i64 c.one.tag, .bool c.two.on, .int .i64 c.two.frame, .int .i64 c.two.tag, .int .i64 (c.page : Int), .int .i64 c.acc, .slice qr s.rd.length cr], 73⟩ :: (he ++ hd ++ hr)) ?_ (List.Perm.refl _)
      refine dc_nil ?_
      refine opsC ?_
      refine run ?_
      refine st_cond _ rfl (fun hc2 => ?_) (fun hc2 => ?_)
      · have h0 : 0 ≤ midI c s mid acc := by
          cases hq : decide (0 ≤ midI c s mid acc) with
          | true => exact of_decide_eq_true hq
          | false => rw [hq] at hc2; simp at hc2
        have hmA : midA c s mid acc = ⟨s, E.frame, atE E, noFt⟩ := by rw [hEE]; simp only [midA, hc, h0, decide_true, Bool.and_self, cond_true]
        rw [hmA]
        refine run ?_
        exact finAA2 (cs := #[.int .i64 E.frame, .int .i64 (mid : Int), .bool E.r, .bool E.w, .bool E.x, .bool E.af, .bool E.ng, .int .i64 E.soft, .int .i64 0]) (cs2 := #[.int .i64 0, .int .i64 0, .int .i64 0, .bool false, .int .i64 0]) ⟨⟨E.frame, mid, E.r, E.w, E.x, E.af, E.ng, E.soft, 0⟩, _, _, _, he, hd, hr, rfl, ⟨rfl, fun _ => ⟨rfl, rfl⟩⟩, h1, h2, h3, by (refine hpLe_cnt fun a => ?_; simp only [cntB_app, cntB_cons, cntB_nil]; omega)⟩
      · refine run ?_
        exact meetS () (by
          rw [hc, Bool.true_and]
          cases hq : decide (0 ≤ midI c s mid acc) with
          | false => rfl
          | true => rw [hq] at hc2; simp at hc2)
    · refine run ?_
      exact meetS () (by rw [hc]; rfl)
  rintro ⟨⟩ hcut
  have hmA : midA c s mid acc = midF c s mid (midL c.ws true c.two.frame mid acc) := by simp only [midA, hcut, cond_false]
  rw [hmA]
  have hcl : ∀ {wc : World}, SlAt wc (.slice p c.ws.length cap) 1 (c.ws.map uV) → Fn Tryz.prog 86 [.agg #[.slice p c.ws.length cap], .agg #[.bool c.two.on, .int .i64 c.two.frame, .int .i64 c.two.tag], .int .i64 (mid : Int), .int .i64 acc].toArray wc [] (fun u hn => ∃ rv' hr', u = .tuple #[htV (midL c.ws true c.two.frame mid acc).h, ftV (midL c.ws true c.two.frame mid acc).f, rv', .int .i64 0] ∧ Own 3 1 rv' hr' ((midL c.ws true c.two.frame mid acc).rd.map inV) ∧ HpLe hr' hn) := fun h => by
    rw [hk.on]
    exact nMid_e c.ws hk.w64 cap hk.mem hcc h c.two.frame c.two.tag htw.1.1 htw.1.2 mid hmid acc ha
  refine run ?_
  refine drawED 18 [0, 1, 2, 3, 4, 5, 6, 7, 8, 9] [10, 16, 17] [11, 12, 13, 14, 15] [20, 21] [18, 19] ?_
  refine runS ?_
  refine eCall (fun wc hG => hcl (hm.good hG)) (hcl hm.at_).some ?_
  refine eAlloc ?_
  refine eAlloc ?_
  refine eNil ?_
  rintro _ _ ⟨F, rfl, rfl⟩ _ _ ⟨H, rfl, rfl⟩ u hn2 ⟨v2, h2', rfl, hO, hle2⟩
  have hL4 := midL_rd c.ws c.two.frame mid acc
  have hLok := midL_ok (ws := c.ws) (frame := c.two.frame) (mid := mid) (acc := acc)
  have hLh := midL_hit c.ws c.two.frame mid acc
  generalize midL c.ws true c.two.frame mid acc = L at hO hL4 hLok hLh ⊢
  obtain ⟨q2, c2, e2⟩ := hO.opened
  rw [List.length_map] at e2
  subst e2
  refine dMove ?_
  refine dExtract ?_
  refine dExtract ?_
  refine dExtract ?_
  refine dExtract ?_
  refine dNil ?_
  refine dAssign ?_
  refine dAssign ?_
  refine dNil ?_
  simp only [DN, List.cons_append, List.nil_append, List.append_nil]
  refine cStore (b := H) (tb := 62) (cs := #[.int .i64 0, .int .i64 0, .bool false, .bool false, .bool false, .bool false, .bool false, .int .i64 0, .int .i64 0]) (cs' := #[.int .i64 L.h.frame, .int .i64 L.h.mid, .bool L.h.r, .bool L.h.w, .bool L.h.x, .bool L.h.af, .bool L.h.ng, .int .i64 L.h.soft, .int .i64 L.h.level]) (hp' := ⟨F, #[.int .i64 0, .int .i64 0, .int .i64 0, .bool false, .int .i64 0], 44⟩ :: (hn2 ++ (⟨R2, #[.int .i64 0, .int .i64 0, .int .i64 0, .bool false, .int .i64 0], 44⟩ :: ⟨R1, #[.int .i64 0, .int .i64 0, .bool false, .bool false, .bool false, .bool false, .bool false, .int .i64 0, .int .i64 0], 62⟩ :: ⟨Wb, #[.slice p c.ws.length cap, .slice qe s.es.length ce, .slice qd ds.length cd, .int .i64 c.pk.cpu, .bool c.pk.fill, .bool c.pk.mids, .bool c.pk.walk, .int .i64 c.pk.drop, .bool c.pk.use, .bool c.one.on, .int .i64 c.one.frame, .int .i64 c.one.tag, .bool c.two.on, .int .i64 c.two.frame, .int .i64 c.two.tag, .int .i64 (c.page : Int), .int .i64 c.acc, .slice qr s.rd.length cr], 73⟩ :: (he ++ hd ++ hr)))) ?_ (by (refine perm_cnt fun a => ?_; simp only [cntB_app, cntB_cons, cntB_nil]; omega))
  refine cStore (b := F) (tb := 44) (cs := #[.int .i64 0, .int .i64 0, .int .i64 0, .bool false, .int .i64 0]) (cs' := #[.int .i64 L.f.kind, .int .i64 L.f.stage, .int .i64 L.f.level, .bool L.f.walk, .int .i64 L.f.page]) (hp' := ⟨H, #[.int .i64 L.h.frame, .int .i64 L.h.mid, .bool L.h.r, .bool L.h.w, .bool L.h.x, .bool L.h.af, .bool L.h.ng, .int .i64 L.h.soft, .int .i64 L.h.level], 62⟩ :: (hn2 ++ (⟨R2, #[.int .i64 0, .int .i64 0, .int .i64 0, .bool false, .int .i64 0], 44⟩ :: ⟨R1, #[.int .i64 0, .int .i64 0, .bool false, .bool false, .bool false, .bool false, .bool false, .int .i64 0, .int .i64 0], 62⟩ :: ⟨Wb, #[.slice p c.ws.length cap, .slice qe s.es.length ce, .slice qd ds.length cd, .int .i64 c.pk.cpu, .bool c.pk.fill, .bool c.pk.mids, .bool c.pk.walk, .int .i64 c.pk.drop, .bool c.pk.use, .bool c.one.on, .int .i64 c.one.frame, .int .i64 c.one.tag, .bool c.two.on, .int .i64 c.two.frame, .int .i64 c.two.tag, .int .i64 (c.page : Int), .int .i64 c.acc, .slice qr s.rd.length cr], 73⟩ :: (he ++ hd ++ hr)))) ?_ (by (refine perm_cnt fun a => ?_; simp only [cntB_app, cntB_cons, cntB_nil]; omega))
  refine dc_nil ?_
  refine opsC ?_
  refine ops_le (⟨F, #[.int .i64 L.f.kind, .int .i64 L.f.stage, .int .i64 L.f.level, .bool L.f.walk, .int .i64 L.f.page], 44⟩ :: ⟨H, #[.int .i64 L.h.frame, .int .i64 L.h.mid, .bool L.h.r, .bool L.h.w, .bool L.h.x, .bool L.h.af, .bool L.h.ng, .int .i64 L.h.soft, .int .i64 L.h.level], 62⟩ :: ⟨R2, #[.int .i64 0, .int .i64 0, .int .i64 0, .bool false, .int .i64 0], 44⟩ :: ⟨R1, #[.int .i64 0, .int .i64 0, .bool false, .bool false, .bool false, .bool false, .bool false, .int .i64 0, .int .i64 0], 62⟩ :: ⟨Wb, #[.slice p c.ws.length cap, .slice qe s.es.length ce, .slice qd ds.length cd, .int .i64 c.pk.cpu, .bool c.pk.fill, .bool c.pk.mids, .bool c.pk.walk, .int .i64 c.pk.drop, .bool c.pk.use, .bool c.one.on, .int .i64 c.one.frame, .int .i64 c.one.tag, .bool c.two.on, .int .i64 c.two.frame, .int .i64 c.two.tag, .int .i64 (c.page : Int), .int .i64 c.acc, .slice qr s.rd.length cr], 73⟩ :: (he ++ hd ++ hr ++ h2')) (by (refine hpLe_cnt fun a => ?_; have := HpLe.cnt hle2 a; simp only [cntB_app, cntB_cons, cntB_nil] at *; omega)) ?_
  refine run ?_
  refine appendG (L.rd.map inV) (⟨F, #[.int .i64 L.f.kind, .int .i64 L.f.stage, .int .i64 L.f.level, .bool L.f.walk, .int .i64 L.f.page], 44⟩ :: ⟨H, #[.int .i64 L.h.frame, .int .i64 L.h.mid, .bool L.h.r, .bool L.h.w, .bool L.h.x, .bool L.h.af, .bool L.h.ng, .int .i64 L.h.soft, .int .i64 L.h.level], 62⟩ :: ⟨R2, #[.int .i64 0, .int .i64 0, .int .i64 0, .bool false, .int .i64 0], 44⟩ :: ⟨R1, #[.int .i64 0, .int .i64 0, .bool false, .bool false, .bool false, .bool false, .bool false, .int .i64 0, .int .i64 0], 62⟩ :: ⟨Wb, #[.slice p c.ws.length cap, .slice qe s.es.length ce, .slice qd ds.length cd, .int .i64 c.pk.cpu, .bool c.pk.fill, .bool c.pk.mids, .bool c.pk.walk, .int .i64 c.pk.drop, .bool c.pk.use, .bool c.one.on, .int .i64 c.one.frame, .int .i64 c.one.tag, .bool c.two.on, .int .i64 c.two.frame, .int .i64 c.two.tag, .int .i64 (c.page : Int), .int .i64 c.acc, .slice qr s.rd.length cr], 73⟩ :: (he ++ hd ++ h2')) h3 (SrcAt.own hO (by (refine hpLe_cnt fun a => ?_; simp only [cntB_app, cntB_cons, cntB_nil]; omega))) (fun v4 h4 hO4 => ?_) (by simp only [List.length_map]; omega) (fun c hc => by obtain ⟨x, _, rfl⟩ := List.mem_map.1 hc; exact ⟨rfl, rfl⟩) (hperm := by (refine perm_cnt fun a => ?_; simp only [cntB_app, cntB_cons, cntB_nil]; omega))
  rw [← List.map_append] at hO4
  obtain ⟨q4, c4, e4⟩ := hO4.opened
  rw [List.length_map] at e4
  subst e4
  refine ops_le (⟨F, #[.int .i64 L.f.kind, .int .i64 L.f.stage, .int .i64 L.f.level, .bool L.f.walk, .int .i64 L.f.page], 44⟩ :: ⟨H, #[.int .i64 L.h.frame, .int .i64 L.h.mid, .bool L.h.r, .bool L.h.w, .bool L.h.x, .bool L.h.af, .bool L.h.ng, .int .i64 L.h.soft, .int .i64 L.h.level], 62⟩ :: ⟨R2, #[.int .i64 0, .int .i64 0, .int .i64 0, .bool false, .int .i64 0], 44⟩ :: ⟨R1, #[.int .i64 0, .int .i64 0, .bool false, .bool false, .bool false, .bool false, .bool false, .int .i64 0, .int .i64 0], 62⟩ :: ⟨Wb, #[.slice p c.ws.length cap, .slice qe s.es.length ce, .slice qd ds.length cd, .int .i64 c.pk.cpu, .bool c.pk.fill, .bool c.pk.mids, .bool c.pk.walk, .int .i64 c.pk.drop, .bool c.pk.use, .bool c.one.on, .int .i64 c.one.frame, .int .i64 c.one.tag, .bool c.two.on, .int .i64 c.two.frame, .int .i64 c.two.tag, .int .i64 (c.page : Int), .int .i64 c.acc, .slice qr s.rd.length cr], 73⟩ :: (he ++ hd ++ h4)) (by (refine hpLe_cnt fun a => ?_; simp only [cntB_app, cntB_cons, cntB_nil]; omega)) ?_
  refine runG ?_
  obtain ⟨es', hes⟩ : ∃ es', es' = (bif decide (L.f.kind = 0) && c.pk.mids then fillL s.es (entM c.two.tag mid L.h) else s.es) := ⟨_, rfl⟩
  have hYs : midF c s mid L = ⟨⟨es', s.rd ++ L.rd⟩, L.h.frame, bif decide (L.f.kind = 0) then ⟨L.h.r, L.h.w, L.h.x, L.h.af, L.h.ng⟩ else noAt, L.f⟩ := by
    rw [hes]
    unfold midF
    cases hc : decide (L.f.kind = 0) with
    | true => rfl
    | false =>
      simp only [Bool.not_false, cond_true, cond_false, Bool.false_and]
      rw [hLh.2 (of_decide_eq_false hc)]
  rw [hYs]
  dsimp only
  refine st_cutD (σ := Value × Value × Hp × Hp) (fun _ => []) (fun z => ⟨F, #[.int .i64 L.f.kind, .int .i64 L.f.stage, .int .i64 L.f.level, .bool L.f.walk, .int .i64 L.f.page], 44⟩ :: ⟨H, #[.int .i64 L.h.frame, .int .i64 L.h.mid, .bool L.h.r, .bool L.h.w, .bool L.h.x, .bool L.h.af, .bool L.h.ng, .int .i64 L.h.soft, .int .i64 L.h.level], 62⟩ :: ⟨R2, #[.int .i64 0, .int .i64 0, .int .i64 0, .bool false, .int .i64 0], 44⟩ :: ⟨R1, #[.int .i64 0, .int .i64 0, .bool false, .bool false, .bool false, .bool false, .bool false, .int .i64 0, .int .i64 0], 62⟩ :: ⟨Wb, #[.slice p c.ws.length cap, z.1, z.2.1, .int .i64 c.pk.cpu, .bool c.pk.fill, .bool c.pk.mids, .bool c.pk.walk, .int .i64 c.pk.drop, .bool c.pk.use, .bool c.one.on, .int .i64 c.one.frame, .int .i64 c.one.tag, .bool c.two.on, .int .i64 c.two.frame, .int .i64 c.two.tag, .int .i64 (c.page : Int), .int .i64 c.acc, .slice q4 (s.rd ++ L.rd).length c4], 73⟩ :: (z.2.2.1 ++ z.2.2.2 ++ h4)) (fun z => Own 88 14 z.1 z.2.2.1 (es'.map enV) ∧ Own 94 4 z.2.1 z.2.2.2 (ds.map ivV)) ?_ ?_
  · refine st_cond _ rfl (fun hc => ?_) (fun hc => ?_)
    · rw [hc, cond_true] at hes
      subst hes
      rw [Bool.and_eq_true] at hc
      obtain ⟨hLf, hLn, hLg⟩ := hLok (of_decide_eq_true hc.1)
      refine run ?_
      refine drawEC 13 12 [0, 1, 2, 3, 4, 5, 6, 7, 8, 9, 10] [11] [12] (⟨Wb, #[.slice p c.ws.length cap, .slice qe s.es.length ce, .slice qd ds.length cd, .int .i64 c.pk.cpu, .bool c.pk.fill, .bool c.pk.mids, .bool c.pk.walk, .int .i64 c.pk.drop, .bool c.pk.use, .bool c.one.on, .int .i64 c.one.frame, .int .i64 c.one.tag, .bool c.two.on, .int .i64 c.two.frame, .int .i64 c.two.tag, .int .i64 (c.page : Int), .int .i64 c.acc, .slice q4 (s.rd ++ L.rd).length c4], 73⟩ :: ⟨F, #[.int .i64 L.f.kind, .int .i64 L.f.stage, .int .i64 L.f.level, .bool L.f.walk, .int .i64 L.f.page], 44⟩ :: ⟨H, #[.int .i64 L.h.frame, .int .i64 L.h.mid, .bool L.h.r, .bool L.h.w, .bool L.h.x, .bool L.h.af, .bool L.h.ng, .int .i64 L.h.soft, .int .i64 L.h.level], 62⟩ :: ⟨R2, #[.int .i64 0, .int .i64 0, .int .i64 0, .bool false, .int .i64 0], 44⟩ :: ⟨R1, #[.int .i64 0, .int .i64 0, .bool false, .bool false, .bool false, .bool false, .bool false, .int .i64 0, .int .i64 0], 62⟩ :: (he ++ hd ++ h4)) ?_
      refine runZ ?_
      refine eAlloc ?_
      refine eNil ?_
      rintro _ _ ⟨X, rfl, rfl⟩
      simp only [DN, List.cons_append, List.nil_append, List.append_nil]
      refine cStore (b := X) (tb := 88) (cs := #[.int .i64 0, .int .i64 0, .int .i64 0, .bool false, .int .i64 0, .int .i64 0, .int .i64 0, .int .i64 0, .bool false, .bool false, .bool false, .bool false, .bool false, .int .i64 0]) (cs' := #[.int .i64 2, .int .i64 c.two.tag, .int .i64 0, .bool true, .int .i64 (mid : Int), .int .i64 0, .int .i64 L.h.frame, .int .i64 0, .bool L.h.r, .bool L.h.w, .bool L.h.x, .bool L.h.af, .bool L.h.ng, .int .i64 L.h.soft]) (hp' := ⟨Wb, #[.slice p c.ws.length cap, .slice qe s.es.length ce, .slice qd ds.length cd, .int .i64 c.pk.cpu, .bool c.pk.fill, .bool c.pk.mids, .bool c.pk.walk, .int .i64 c.pk.drop, .bool c.pk.use, .bool c.one.on, .int .i64 c.one.frame, .int .i64 c.one.tag, .bool c.two.on, .int .i64 c.two.frame, .int .i64 c.two.tag, .int .i64 (c.page : Int), .int .i64 c.acc, .slice q4 (s.rd ++ L.rd).length c4], 73⟩ :: ⟨F, #[.int .i64 L.f.kind, .int .i64 L.f.stage, .int .i64 L.f.level, .bool L.f.walk, .int .i64 L.f.page], 44⟩ :: ⟨H, #[.int .i64 L.h.frame, .int .i64 L.h.mid, .bool L.h.r, .bool L.h.w, .bool L.h.x, .bool L.h.af, .bool L.h.ng, .int .i64 L.h.soft, .int .i64 L.h.level], 62⟩ :: ⟨R2, #[.int .i64 0, .int .i64 0, .int .i64 0, .bool false, .int .i64 0], 44⟩ :: ⟨R1, #[.int .i64 0, .int .i64 0, .bool false, .bool false, .bool false, .bool false, .bool false, .int .i64 0, .int .i64 0], 62⟩ :: (he ++ hd ++ h4)) ?_ (List.Perm.refl _)
      refine dc_nil ?_
      refine opsC ?_
      refine run ?_
      have hen : entM c.two.tag mid L.h = ⟨2, c.two.tag, 0, true, mid, 0, L.h.frame, 0, L.h.r, L.h.w, L.h.x, L.h.af, false, 0⟩ := by unfold entM; rw [hLg]
      have hmay := entM_may hk hmid hLf hLg
      rw [hen] at hmay ⊢
      refine callM (⟨Wb, #[.slice p c.ws.length cap, .slice qe s.es.length ce, .slice qd ds.length cd, .int .i64 c.pk.cpu, .bool c.pk.fill, .bool c.pk.mids, .bool c.pk.walk, .int .i64 c.pk.drop, .bool c.pk.use, .bool c.one.on, .int .i64 c.one.frame, .int .i64 c.one.tag, .bool c.two.on, .int .i64 c.two.frame, .int .i64 c.two.tag, .int .i64 (c.page : Int), .int .i64 c.acc, .slice q4 (s.rd ++ L.rd).length c4], 73⟩ :: (he ++ hd ++ h4)) (⟨X, #[.int .i64 2, .int .i64 c.two.tag, .int .i64 0, .bool true, .int .i64 (mid : Int), .int .i64 0, .int .i64 L.h.frame, .int .i64 0, .bool L.h.r, .bool L.h.w, .bool L.h.x, .bool L.h.af, .bool false, .int .i64 0], 88⟩ :: ⟨F, #[.int .i64 L.f.kind, .int .i64 L.f.stage, .int .i64 L.f.level, .bool L.f.walk, .int .i64 L.f.page], 44⟩ :: ⟨H, #[.int .i64 L.h.frame, .int .i64 L.h.mid, .bool L.h.r, .bool L.h.w, .bool L.h.x, .bool L.h.af, .bool L.h.ng, .int .i64 L.h.soft, .int .i64 L.h.level], 62⟩ :: [⟨R2, #[.int .i64 0, .int .i64 0, .int .i64 0, .bool false, .int .i64 0], 44⟩, ⟨R1, #[.int .i64 0, .int .i64 0, .bool false, .bool false, .bool false, .bool false, .bool false, .int .i64 0, .int .i64 0], 62⟩]) (fun wc hG => wyFill_e c s.es ds hE.tlb ⟨2, c.two.tag, 0, true, mid, 0, L.h.frame, 0, L.h.r, L.h.w, L.h.x, L.h.af, false, 0⟩ hmay ⟨_, _, _, rfl⟩ ⟨_, _, _, rfl⟩ h1 h2 hG.hereN) ?_ (by (refine perm_cnt fun a => ?_; simp only [cntB_app, cntB_cons, cntB_nil]; omega))
      rintro u7 hn7 ⟨ev7, dv7, he7, hd7, rfl, h17, h27, hle7⟩
      simp only [wyC] at hle7
      refine run ?_
      exact meetS (ev7, dv7, he7, hd7) ⟨h17, h27⟩ (h2 := by (refine hpLe_cnt fun a => ?_; have := HpLe.cnt hle7 a; simp only [cntB_app, cntB_cons, cntB_nil] at *; omega))
    · rw [hc, cond_false] at hes
      subst hes
      refine run ?_
      exact meetS (.slice qe s.es.length ce, .slice qd ds.length cd, he, hd) ⟨h1, h2⟩ (h2 := by (refine hpLe_cnt fun a => ?_; simp only [cntB_app, cntB_cons, cntB_nil]; omega))
  rintro ⟨ev2, dv2, he2, hd2⟩ ⟨h1', h2''⟩
  dsimp only at h1' h2'' ⊢
  refine run ?_
  refine drawC 4 2 [0, 1] [2, 3] (⟨F, #[.int .i64 L.f.kind, .int .i64 L.f.stage, .int .i64 L.f.level, .bool L.f.walk, .int .i64 L.f.page], 44⟩ :: ⟨H, #[.int .i64 L.h.frame, .int .i64 L.h.mid, .bool L.h.r, .bool L.h.w, .bool L.h.x, .bool L.h.af, .bool L.h.ng, .int .i64 L.h.soft, .int .i64 L.h.level], 62⟩ :: ⟨Wb, #[.slice p c.ws.length cap, ev2, dv2, .int .i64 c.pk.cpu, .bool c.pk.fill, .bool c.pk.mids, .bool c.pk.walk, .int .i64 c.pk.drop, .bool c.pk.use, .bool c.one.on, .int .i64 c.one.frame, .int .i64 c.one.tag, .bool c.two.on, .int .i64 c.two.frame, .int .i64 c.two.tag, .int .i64 (c.page : Int), .int .i64 c.acc, .slice q4 (s.rd ++ L.rd).length c4], 73⟩ :: (he2 ++ hd2 ++ h4)) ?_
  refine runZ ?_
  refine cStore (b := R1) (tb := 62) (cs := #[.int .i64 0, .int .i64 0, .bool false, .bool false, .bool false, .bool false, .bool false, .int .i64 0, .int .i64 0]) (cs' := #[.int .i64 L.h.frame, .int .i64 L.h.mid, .bool L.h.r, .bool L.h.w, .bool L.h.x, .bool L.h.af, .bool L.h.ng, .int .i64 L.h.soft, .int .i64 L.h.level]) (hp' := ⟨R2, #[.int .i64 0, .int .i64 0, .int .i64 0, .bool false, .int .i64 0], 44⟩ :: ⟨F, #[.int .i64 L.f.kind, .int .i64 L.f.stage, .int .i64 L.f.level, .bool L.f.walk, .int .i64 L.f.page], 44⟩ :: ⟨H, #[.int .i64 L.h.frame, .int .i64 L.h.mid, .bool L.h.r, .bool L.h.w, .bool L.h.x, .bool L.h.af, .bool L.h.ng, .int .i64 L.h.soft, .int .i64 L.h.level], 62⟩ :: ⟨Wb, #[.slice p c.ws.length cap, ev2, dv2, .int .i64 c.pk.cpu, .bool c.pk.fill, .bool c.pk.mids, .bool c.pk.walk, .int .i64 c.pk.drop, .bool c.pk.use, .bool c.one.on, .int .i64 c.one.frame, .int .i64 c.one.tag, .bool c.two.on, .int .i64 c.two.frame, .int .i64 c.two.tag, .int .i64 (c.page : Int), .int .i64 c.acc, .slice q4 (s.rd ++ L.rd).length c4], 73⟩ :: (he2 ++ hd2 ++ h4)) ?_ (by (refine perm_cnt fun a => ?_; simp only [cntB_app, cntB_cons, cntB_nil]; omega))
  refine cStore (b := R2) (tb := 44) (cs := #[.int .i64 0, .int .i64 0, .int .i64 0, .bool false, .int .i64 0]) (cs' := #[.int .i64 L.f.kind, .int .i64 L.f.stage, .int .i64 L.f.level, .bool L.f.walk, .int .i64 L.f.page]) (hp' := ⟨R1, #[.int .i64 L.h.frame, .int .i64 L.h.mid, .bool L.h.r, .bool L.h.w, .bool L.h.x, .bool L.h.af, .bool L.h.ng, .int .i64 L.h.soft, .int .i64 L.h.level], 62⟩ :: ⟨F, #[.int .i64 L.f.kind, .int .i64 L.f.stage, .int .i64 L.f.level, .bool L.f.walk, .int .i64 L.f.page], 44⟩ :: ⟨H, #[.int .i64 L.h.frame, .int .i64 L.h.mid, .bool L.h.r, .bool L.h.w, .bool L.h.x, .bool L.h.af, .bool L.h.ng, .int .i64 L.h.soft, .int .i64 L.h.level], 62⟩ :: ⟨Wb, #[.slice p c.ws.length cap, ev2, dv2, .int .i64 c.pk.cpu, .bool c.pk.fill, .bool c.pk.mids, .bool c.pk.walk, .int .i64 c.pk.drop, .bool c.pk.use, .bool c.one.on, .int .i64 c.one.frame, .int .i64 c.one.tag, .bool c.two.on, .int .i64 c.two.frame, .int .i64 c.two.tag, .int .i64 (c.page : Int), .int .i64 c.acc, .slice q4 (s.rd ++ L.rd).length c4], 73⟩ :: (he2 ++ hd2 ++ h4)) ?_ (by (refine perm_cnt fun a => ?_; simp only [cntB_app, cntB_cons, cntB_nil]; omega))
  refine dc_nil ?_
  refine opsC ?_
  refine run ?_
  exact finAA2 (cs := #[.int .i64 L.h.frame, .int .i64 L.h.mid, .bool L.h.r, .bool L.h.w, .bool L.h.x, .bool L.h.af, .bool L.h.ng, .int .i64 L.h.soft, .int .i64 L.h.level]) (cs2 := #[.int .i64 L.f.kind, .int .i64 L.f.stage, .int .i64 L.f.level, .bool L.f.walk, .int .i64 L.f.page]) ⟨L.h, _, _, _, he2, hd2, h4, rfl, ⟨rfl, fun hk0 => ⟨hLh.1 hk0, by rw [show decide (L.f.kind = 0) = true from decide_eq_true hk0]; rfl⟩⟩, h1', h2'', hO4, by (refine hpLe_cnt fun a => ?_; simp only [cntB_app, cntB_cons, cntB_nil]; omega)⟩
end Go.Proofs.YtdaenalnmdmflaaGreat
namespace Go.Proofs.YtdaenalnmdmflaaGreat
open Go.RowKit
set_option linter.unusedVariables false
set_option linter.unusedSimpArgs false
set_option maxRecDepth 20000
attribute [local irreducible] Hy St Ops DH DHF DE1 DE2 DE3 DS DCh DWF
theorem finTTA {fn : Func} {R : Value → Hp → Prop} {l : Fm} {hp : Hp} {s0 s1 a t b : Nat} {cs : Array Value} {tb : TypeId} {v v1 : Value} (h : R (.tuple #[v, v1, .agg cs]) hp) (hr : fn.results = #[.tmp s0, .tmp s1, .cell a t] := by rfl) (h0 : look l s0 = some v := by rfl) (h1 : look l s1 = some v1 := by rfl) (hv : look l a = some (.pointer (some ⟨b, 0, none⟩)) := by rfl) (hag : mem Tb.ag t = true := by rfl) (hm : (⟨b, cs, tb⟩ : Blk) ∈ hp := by (first | (with_reducible apply mh) | (focus ((repeat (first | (with_reducible apply mh) | (with_reducible apply mt) | (with_reducible apply List.mem_append_right))); done)))) (hz : lk Tb.sz t = some cs.size := by rfl) : Fin Tryz.prog fn R .ret l hp :=
  ⟨.inl rfl, [v, v1, .agg cs], by rw [hr]; exact ⟨h0, h1, ⟨⟨b, cs, tb⟩, hm, hv, .inr ⟨tb_ok.gag hag, tb_ok.gsz hz, rfl⟩⟩, trivial⟩, h⟩
theorem wyTable_e (c : AcC) (hk : AcOk c) (cap : Nat) (hcc : c.ws.length ≤ cap) {p : Option Addr} {w : World} {Wb : Nat} {ev dv rv : Value} {he hd hr : Hp} (s : AcS) (ds : List IvD) (mid level : Nat) (hmid : mid ≤ 4095) (hlv : level ≤ 3) (hE : EsOk c.ws.length s.es ds) (hrl : s.rd.length < 90000)
    (hm : Sees w (Wb :: (he ++ hd ++ hr).map (·.b)) (.slice p c.ws.length cap) 1 (c.ws.map uV)) (h1 : Own 88 14 ev he (s.es.map enV)) (h2 : Own 94 4 dv hd (ds.map ivV)) (h3 : Own 3 1 rv hr (s.rd.map inV)) (hN : HereN (⟨Wb, wyC c (.slice p c.ws.length cap) ev dv rv, 73⟩ :: (he ++ hd ++ hr)) w) :
    Fn Tryz.prog 91 [.pointer (some ⟨Wb, 0, none⟩), .int .i64 (mid : Int), .int .i64 (level : Int)].toArray w (Wb :: (he ++ hd ++ hr).map (·.b)) (fun u hn => ∃ (lv : Int) (ev' dv' rv' : Value) (he' hd' hr' : Hp), u = .tuple #[.int .i64 (tblA c s mid level).n, .int .i64 lv, ftV (tblA c s mid level).f] ∧ ((tblA c s mid level).f.kind = 0 → lv = (level : Int)) ∧ Own 88 14 ev' he' ((tblA c s mid level).s.es.map enV) ∧ Own 94 4 dv' hd' (ds.map ivV) ∧ Own 3 1 rv' hr' ((tblA c s mid level).s.rd.map inV) ∧ HpLe (⟨Wb, wyC c (.slice p c.ws.length cap) ev' dv' rv', 73⟩ :: (he' ++ hd' ++ hr')) hn) := by
  simp only [wyC] at hN ⊢
  have hmi := memOk_iff hk.mem
  have hem := hE.may
  refine enterM _ hN Tryz.func91 ?_
  refine run ?_
  intro R
  refine callM (⟨Wb, #[.slice p c.ws.length cap, ev, dv, .int .i64 c.pk.cpu, .bool c.pk.fill, .bool c.pk.mids, .bool c.pk.walk, .int .i64 c.pk.drop, .bool c.pk.use, .bool c.one.on, .int .i64 c.one.frame, .int .i64 c.one.tag, .bool c.two.on, .int .i64 c.two.frame, .int .i64 c.two.tag, .int .i64 (c.page : Int), .int .i64 c.acc, rv], 73⟩ :: (he ++ hd ++ hr)) [⟨R, #[.int .i64 0, .int .i64 0, .int .i64 0, .bool false, .int .i64 0], 44⟩] (fun wc hG => wyMid_e c hk cap hcc s ds mid hmid 0 rfl hE (by omega) (hm.into hG) h1 h2 h3 hG.hereN) ?_ (by (refine perm_cnt fun a => ?_; simp only [cntB_app, cntB_cons, cntB_nil]; omega))
  rintro u1 hn1 ⟨H, ev1, dv1, rv1, he1, hd1, hr1, rfl, ⟨hH1, hH2⟩, h11, h21, h31, hle1⟩
  simp only [wyC] at hle1
  obtain ⟨hMs, hMf⟩ := midA_ok hk hE (mid := mid) hmid 0
  rw [tblA]
  generalize midA c s mid 0 = Y at hH1 hH2 h11 h31 hMs hMf ⊢
  refine ops_le (⟨R, #[.int .i64 0, .int .i64 0, .int .i64 0, .bool false, .int .i64 0], 44⟩ :: ⟨Wb, #[.slice p c.ws.length cap, ev1, dv1, .int .i64 c.pk.cpu, .bool c.pk.fill, .bool c.pk.mids, .bool c.pk.walk, .int .i64 c.pk.drop, .bool c.pk.use, .bool c.one.on, .int .i64 c.one.frame, .int .i64 c.one.tag, .bool c.two.on, .int .i64 c.two.frame, .int .i64 c.two.tag, .int .i64 (c.page : Int), .int .i64 c.acc, rv1], 73⟩ :: (he1 ++ hd1 ++ hr1)) (by (refine hpLe_cnt fun a => ?_; have := HpLe.cnt hle1 a; simp only [cntB_app, cntB_cons, cntB_nil] at *; omega)) ?_
  refine run ?_
  intro HB F
  refine st_cond _ rfl (fun hc => ?_) (fun hc => ?_)
  · rw [hc, cond_true]
    refine run ?_
    refine dropS 6 ?_
    refine dropS 7 ?_
    refine drawC 4 3 [0, 1, 2] [3] (⟨F, #[.int .i64 Y.f.kind, .int .i64 Y.f.stage, .int .i64 Y.f.level, .bool true, .int .i64 Y.f.page], 44⟩ :: ⟨HB, #[.int .i64 H.frame, .int .i64 H.mid, .bool H.r, .bool H.w, .bool H.x, .bool H.af, .bool H.ng, .int .i64 H.soft, .int .i64 H.level], 62⟩ :: ⟨Wb, #[.slice p c.ws.length cap, ev1, dv1, .int .i64 c.pk.cpu, .bool c.pk.fill, .bool c.pk.mids, .bool c.pk.walk, .int .i64 c.pk.drop, .bool c.pk.use, .bool c.one.on, .int .i64 c.one.frame, .int .i64 c.one.tag, .bool c.two.on, .int .i64 c.two.frame, .int .i64 c.two.tag, .int .i64 (c.page : Int), .int .i64 c.acc, rv1], 73⟩ :: (he1 ++ hd1 ++ hr1)) ?_
    refine runZ ?_
    refine cStore (b := R) (tb := 44) (cs := #[.int .i64 0, .int .i64 0, .int .i64 0, .bool false, .int .i64 0]) (cs' := #[.int .i64 Y.f.kind, .int .i64 Y.f.stage, .int .i64 Y.f.level, .bool true, .int .i64 Y.f.page]) (hp' := ⟨F, #[.int .i64 Y.f.kind, .int .i64 Y.f.stage, .int .i64 Y.f.level, .bool true, .int .i64 Y.f.page], 44⟩ :: ⟨HB, #[.int .i64 H.frame, .int .i64 H.mid, .bool H.r, .bool H.w, .bool H.x, .bool H.af, .bool H.ng, .int .i64 H.soft, .int .i64 H.level], 62⟩ :: ⟨Wb, #[.slice p c.ws.length cap, ev1, dv1, .int .i64 c.pk.cpu, .bool c.pk.fill, .bool c.pk.mids, .bool c.pk.walk, .int .i64 c.pk.drop, .bool c.pk.use, .bool c.one.on, .int .i64 c.one.frame, .int .i64 c.one.tag, .bool c.two.on, .int .i64 c.two.frame, .int .i64 c.two.tag, .int .i64 (c.page : Int), .int .i64 c.acc, rv1], 73⟩ :: (he1 ++ hd1 ++ hr1)) ?_ (by (refine perm_cnt fun a => ?_; simp only [cntB_app, cntB_cons, cntB_nil]; omega))
    refine dc_nil ?_
    refine opsC ?_
    refine run ?_
    exact finTTA (cs := #[.int .i64 Y.f.kind, .int .i64 Y.f.stage, .int .i64 Y.f.level, .bool true, .int .i64 Y.f.page]) ⟨0, _, _, _, he1, hd1, hr1, rfl, fun h0 => absurd h0 (by simpa using hc), h11, h21, h31, by (refine hpLe_cnt fun a => ?_; simp only [cntB_app, cntB_cons, cntB_nil]; omega)⟩
  · rw [hc, cond_false]
    obtain ⟨hMf1, hMf2, hMf3⟩ := hMf (by simpa using hc)
    rw [show decide (0 < level) = decide ((0 : Int) < (level : Int)) by rw [Bool.eq_iff_iff]; simp]
    refine runG ?_
    obtain ⟨es', hes⟩ : ∃ es', es' = (bif decide ((0 : Int) < (level : Int)) && c.pk.walk then fillL Y.s.es (entW c level Y.n) else Y.s.es) := ⟨_, rfl⟩
    rw [← hes]
    dsimp only
    have hle3 : dbits (level - 1) = 3 * (4 - level) ∨ level = 0 := by unfold dbits; omega
    refine st_cutD (σ := Value × Value × Hp × Hp) (fun _ => []) (fun z => ⟨F, #[.int .i64 Y.f.kind, .int .i64 Y.f.stage, .int .i64 Y.f.level, .bool Y.f.walk, .int .i64 Y.f.page], 44⟩ :: ⟨HB, #[.int .i64 H.frame, .int .i64 H.mid, .bool H.r, .bool H.w, .bool H.x, .bool H.af, .bool H.ng, .int .i64 H.soft, .int .i64 H.level], 62⟩ :: ⟨R, #[.int .i64 0, .int .i64 0, .int .i64 0, .bool false, .int .i64 0], 44⟩ :: ⟨Wb, #[.slice p c.ws.length cap, z.1, z.2.1, .int .i64 c.pk.cpu, .bool c.pk.fill, .bool c.pk.mids, .bool c.pk.walk, .int .i64 c.pk.drop, .bool c.pk.use, .bool c.one.on, .int .i64 c.one.frame, .int .i64 c.one.tag, .bool c.two.on, .int .i64 c.two.frame, .int .i64 c.two.tag, .int .i64 (c.page : Int), .int .i64 c.acc, rv1], 73⟩ :: (z.2.2.1 ++ z.2.2.2 ++ hr1)) (fun z => Own 88 14 z.1 z.2.2.1 (es'.map enV) ∧ Own 94 4 z.2.1 z.2.2.2 (ds.map ivV)) ?_ ?_
    · refine st_cond _ rfl (fun hc3 => ?_) (fun hc3 => ?_)
      · rw [hc3, cond_true] at hes
        subst hes
        rw [Bool.and_eq_true] at hc3
        have hl0 : 0 < level := by have := of_decide_eq_true hc3.1; omega
        have hb : (3 * (4 - (level : Int)) : Int) = ((3 * (4 - level) : Nat) : Int) := by omega
        have hp5 := hk.page
        have hcut : ((c.page >>> (3 * (4 - level))) <<< (3 * (4 - level)) : Nat) = cutN (level - 1) c.page := by
          have h2 : coversN (level - 1) = 2 ^ (3 * (4 - level)) := by
            unfold coversN dbits
            rw [Nat.one_shiftLeft, show 3 * (3 - (level - 1)) = 3 * (4 - level) by omega]
          unfold cutN
          rw [h2, Nat.shiftRight_eq_div_pow, Nat.shiftLeft_eq]
          have := Nat.div_add_mod c.page (2 ^ (3 * (4 - level)))
          rw [Nat.mul_comm] at this
          omega
        have hcl := cut_le (level - 1) c.page
        refine run ?_
        refine drawN 23 ?_
        refine runD ?_
        refine opD (x_shrI rfl rfl c.page (3 * (4 - level)) rfl hb (by omega)) ?_
        refine runD ?_
        refine opD (x_shlI rfl rfl (c.page >>> (3 * (4 - level))) (3 * (4 - level)) rfl hb (by omega) (by rw [hcut]; omega)) ?_
        rw [hcut]
        refine runD ?_
        have hmay := entW_may hk hl0 hlv (n := H.frame) (by rw [hH1]; exact hMf1)
        refine callM (⟨Wb, #[.slice p c.ws.length cap, ev1, dv1, .int .i64 c.pk.cpu, .bool c.pk.fill, .bool c.pk.mids, .bool c.pk.walk, .int .i64 c.pk.drop, .bool c.pk.use, .bool c.one.on, .int .i64 c.one.frame, .int .i64 c.one.tag, .bool c.two.on, .int .i64 c.two.frame, .int .i64 c.two.tag, .int .i64 (c.page : Int), .int .i64 c.acc, rv1], 73⟩ :: (he1 ++ hd1 ++ hr1)) (⟨F, #[.int .i64 Y.f.kind, .int .i64 Y.f.stage, .int .i64 Y.f.level, .bool Y.f.walk, .int .i64 Y.f.page], 44⟩ :: ⟨HB, #[.int .i64 H.frame, .int .i64 H.mid, .bool H.r, .bool H.w, .bool H.x, .bool H.af, .bool H.ng, .int .i64 H.soft, .int .i64 H.level], 62⟩ :: ⟨R, #[.int .i64 0, .int .i64 0, .int .i64 0, .bool false, .int .i64 0], 44⟩ :: []) (fun wc hG => wyFill_e c Y.s.es ds hMs.es.tlb (entW c level H.frame) hmay ⟨_, _, _, rfl⟩ ⟨_, _, _, h31.opened.choose_spec.choose_spec⟩ h11 h21 hG.hereN) ?_ (by (refine perm_cnt fun a => ?_; simp only [cntB_app, cntB_cons, cntB_nil]; omega))
        rintro u7 hn7 ⟨ev7, dv7, he7, hd7, rfl, h17, h27, hle7⟩
        simp only [wyC] at hle7
        rw [hH1] at h17
        refine run ?_
        exact meetS (ev7, dv7, he7, hd7) ⟨h17, h27⟩ (h2 := by (refine hpLe_cnt fun a => ?_; have := HpLe.cnt hle7 a; simp only [cntB_app, cntB_cons, cntB_nil] at *; omega))
      · rw [hc3, cond_false] at hes
        subst hes
        refine run ?_
        exact meetS (ev1, dv1, he1, hd1) ⟨h11, h21⟩ (h2 := by (refine hpLe_cnt fun a => ?_; simp only [cntB_app, cntB_cons, cntB_nil]; omega))
    rintro ⟨ev2, dv2, he2, hd2⟩ ⟨h1', h2''⟩
    dsimp only at h1' h2'' ⊢
    refine run ?_
    refine dropS 6 ?_
    refine dropS 7 ?_
    refine drawC 7 6 [0, 1, 2, 3, 4, 5] [6] (⟨F, #[.int .i64 Y.f.kind, .int .i64 Y.f.stage, .int .i64 Y.f.level, .bool Y.f.walk, .int .i64 Y.f.page], 44⟩ :: ⟨HB, #[.int .i64 H.frame, .int .i64 H.mid, .bool H.r, .bool H.w, .bool H.x, .bool H.af, .bool H.ng, .int .i64 H.soft, .int .i64 H.level], 62⟩ :: ⟨Wb, #[.slice p c.ws.length cap, ev2, dv2, .int .i64 c.pk.cpu, .bool c.pk.fill, .bool c.pk.mids, .bool c.pk.walk, .int .i64 c.pk.drop, .bool c.pk.use, .bool c.one.on, .int .i64 c.one.frame, .int .i64 c.one.tag, .bool c.two.on, .int .i64 c.two.frame, .int .i64 c.two.tag, .int .i64 (c.page : Int), .int .i64 c.acc, rv1], 73⟩ :: (he2 ++ hd2 ++ hr1)) ?_
    refine runZ ?_
    refine cStore (b := R) (tb := 44) (cs := #[.int .i64 0, .int .i64 0, .int .i64 0, .bool false, .int .i64 0]) (cs' := #[.int .i64 Y.f.kind, .int .i64 Y.f.stage, .int .i64 Y.f.level, .bool Y.f.walk, .int .i64 Y.f.page]) (hp' := ⟨F, #[.int .i64 Y.f.kind, .int .i64 Y.f.stage, .int .i64 Y.f.level, .bool Y.f.walk, .int .i64 Y.f.page], 44⟩ :: ⟨HB, #[.int .i64 H.frame, .int .i64 H.mid, .bool H.r, .bool H.w, .bool H.x, .bool H.af, .bool H.ng, .int .i64 H.soft, .int .i64 H.level], 62⟩ :: ⟨Wb, #[.slice p c.ws.length cap, ev2, dv2, .int .i64 c.pk.cpu, .bool c.pk.fill, .bool c.pk.mids, .bool c.pk.walk, .int .i64 c.pk.drop, .bool c.pk.use, .bool c.one.on, .int .i64 c.one.frame, .int .i64 c.one.tag, .bool c.two.on, .int .i64 c.two.frame, .int .i64 c.two.tag, .int .i64 (c.page : Int), .int .i64 c.acc, rv1], 73⟩ :: (he2 ++ hd2 ++ hr1)) ?_ (by (refine perm_cnt fun a => ?_; simp only [cntB_app, cntB_cons, cntB_nil]; omega))
    refine dc_nil ?_
    refine opsC ?_
    refine run ?_
    refine finTTA (v := .int .i64 H.frame) (v1 := .int .i64 (level : Int)) (cs := #[.int .i64 Y.f.kind, .int .i64 Y.f.stage, .int .i64 Y.f.level, .bool Y.f.walk, .int .i64 Y.f.page]) ?_
    exact ⟨level, _, _, _, he2, hd2, hr1, by rw [hH1, ← hMf2], fun _ => rfl, h1', h2'', h31, by (refine hpLe_cnt fun a => ?_; simp only [cntB_app, cntB_cons, cntB_nil]; omega)⟩
end Go.Proofs.YtdaenalnmdmflaaGreat
namespace Go.Proofs.YtdaenalnmdmflaaGreat
open Go.RowKit
set_option linter.unusedVariables false
set_option linter.unusedSimpArgs false
theorem hyG_perm {P : Program} {n : Nat} {w0 : World} {mu : List Nat} {all : Array Oper} {lf : Fm} {hp hp' : Hp} {o : Oper} {v : Value} (h : HyG P n w0 mu all lf hp o v) (hp2 : hp.Perm hp') : HyG P n w0 mu all lf hp' o v := by
  have go : ∀ {u : Value}, Hy P n w0 mu lf hp o u → Hy P n w0 mu lf hp' o u := fun hy a w hk hG K Q hK => hy a w hk (hG.perm hp2) K Q fun w' hG' => hK w' (hG'.perm hp2.symm)
  unfold HyG at h ⊢
  cases hg : o.guard with
  | none => rw [hg] at h; exact go h
  | some jw =>
    obtain ⟨j, want⟩ := jw
    rw [hg] at h
    obtain ⟨dj, c0, b, u, h1, h2, h3, h4, h5⟩ := h
    exact ⟨dj, c0, b, u, h1, h2, h3, fun a b => go (h4 a b), h5⟩
def EoW (P : Program) (n : Nat) (w0 : World) (mu : List Nat) (all : Array Oper) (lf : Fm) (hi rest : Hp) (o : Oper) (R : RT) : Prop :=
  (∀ a, Knows n lf a → Region.wanted o (yielded all a.tmps) = true) ∧ ∀ a w hx, Knows n lf a → Good w0 mu (hx ++ (hi ++ rest)) w → ∀ (K : Act → World → Prop) (Q : Exit → Act → World → Prop), (∀ v hn w', R v hn → Good w0 mu (hn ++ (hx ++ rest)) w' → K (a.put o.dst v) w') → o.wp P a w K Q
def hbW (i0 : Nat) (hi rest : Hp) (listed : Array Bool) : Hp := bif listed.getD i0 false then rest else hi ++ rest
def DE2W (P : Program) (n : Nat) (w0 : World) (mu : List Nat) (all : Array Oper) (ds : List (Nat × Nat)) (l : Fm) (i0 : Nat) (hi rest : Hp) (iv : Fm) (X : List (Nat × RT) → Prop) : List Nat → List (Nat × RT) → Prop
  | [], Rs => X Rs
  | i :: E, Rs => ∃ o R, all[i]? = some o ∧ ((i ≠ i0 → EoR P n w0 mu all (depFm ds iv o.after.toList ++ l) rest o R) ∧ (i = i0 → EoW P n w0 mu all (depFm ds iv o.after.toList ++ l) hi rest o R)) ∧ (∃ v hn, R v hn) ∧ DE2W P n w0 mu all ds l i0 hi rest iv X E ((i, R) :: Rs)
section
variable {P : Program} {n : Nat} {w0 : World} {mu : List Nat} {l : Fm} {hi rest : Hp} {i0 : Nat} {Q : Exit → Fm → Hp → Prop} {all : Array Oper} {kd : Nat → Kd} {val : Ch → Nat → Value} {k : Nat} {ds : List (Nat × Nat)}
theorem de2w_mono {iv : Fm} {X Y : List (Nat × RT) → Prop} : ∀ (E : List Nat) (Rs : List (Nat × RT)) (hXY : ∀ Rs', Rs'.map (·.1) = E.reverse ++ Rs.map (·.1) → X Rs' → Y Rs'), DE2W P n w0 mu all ds l i0 hi rest iv X E Rs → DE2W P n w0 mu all ds l i0 hi rest iv Y E Rs := by
  intro E
  induction E with
  | nil => intro Rs hXY h; exact hXY Rs (by simp) h
  | cons i E ih =>
    rintro Rs hXY ⟨o, R, ho, hy, hn, h⟩
    exact ⟨o, R, ho, hy, hn, ih _ (fun Rs' e => hXY Rs' (by rw [e]; simp)) h⟩
theorem de2w_get {iv : Fm} {X : List (Nat × RT) → Prop} : ∀ (E : List Nat) (Rs : List (Nat × RT)), E.Nodup → (∀ i ∈ E, lk Rs i = none) → DE2W P n w0 mu all ds l i0 hi rest iv X E Rs →
    (∀ i R, (i, R) ∈ Rs → lk Rs i = some R ∧ ∃ o, all[i]? = some o ∧ ((i ≠ i0 → EoR P n w0 mu all (depFm ds iv o.after.toList ++ l) rest o R) ∧ (i = i0 → EoW P n w0 mu all (depFm ds iv o.after.toList ++ l) hi rest o R)) ∧ ∃ v hn, R v hn) →
    ∃ RE, X RE ∧ (∀ i, (∃ R, lk RE i = some R) ↔ i ∈ E ∨ ∃ R, lk Rs i = some R) ∧ ∀ i R, (i, R) ∈ RE → lk RE i = some R ∧ ∃ o, all[i]? = some o ∧ ((i ≠ i0 → EoR P n w0 mu all (depFm ds iv o.after.toList ++ l) rest o R) ∧ (i = i0 → EoW P n w0 mu all (depFm ds iv o.after.toList ++ l) hi rest o R)) ∧ ∃ v hn, R v hn := by
  intro E
  induction E with
  | nil => intro Rs _ _ h hs; exact ⟨Rs, h, fun i => by simp, hs⟩
  | cons i E ih =>
    rintro Rs hnd hno ⟨o, R, ho, hy, hinh, h⟩ hs
    rw [List.nodup_cons] at hnd
    have hi := hno i (List.mem_cons_self ..)
    obtain ⟨RE, hX, hk, hs2⟩ := ih ((i, R) :: Rs) hnd.2 (fun j hj => by rw [lk_cons, if_neg (by rintro rfl; exact hnd.1 hj)]; exact hno j (List.mem_cons_of_mem _ hj)) h (fun j R' hj => by
      rcases List.mem_cons.1 hj with hj | hj
      · cases hj
        exact ⟨by rw [lk_cons, if_pos rfl], o, ho, hy, hinh⟩
      · obtain ⟨h1, h2⟩ := hs j R' hj
        refine ⟨?_, h2⟩
        rw [lk_cons]
        by_cases hij : i = j
        · subst hij; rw [hi] at h1; cases h1
        · rw [if_neg hij]; exact h1)
    refine ⟨RE, hX, fun j => ?_, hs2⟩
    rw [hk, List.mem_cons, lk_cons]
    by_cases hij : i = j
    · subst hij; simp
    · rw [if_neg hij]; simp [Ne.symm hij]
theorem headE_runW {ds : List (Nat × Nat)} (hds : ∀ k d, lk ds k = some d → dstAt all k = some d) {g : Nat} {Q' : Exit → Act → World → Prop} (hk : k ≤ all.size) (hd : dstB all k n = true) (hf : freshB l (dstsOf all k) = true) (hback : backB all = true)
    (hi0k : i0 < k) (hi0E : isE (kd i0) = true)
    (hS : ∀ i o v, i < k → all[i]? = some o → kd i = .s v → (∀ c, val c i = v) ∧ ∃ iv', (∀ j u, look iv' j = some u → j < k ∧ ∀ c, val c j = u) ∧ ∀ hx, HyG P n w0 mu all (depFm ds iv' o.after.toList ++ l) (hx ++ (hi ++ rest)) o v)
    (hAnc : ∀ listed, HeadInv .any all k listed → listed.getD i0 false = true → ∀ i v, i < k → kd i = .s v → listed.getD i false = true)
    (hE : ∀ i o R, i < k → all[i]? = some o → kd i = .e R → (∀ c, val c i = (c i).1) ∧ ∃ iv', (∀ j u, look iv' j = some u → j < k ∧ ∀ c, val c j = u) ∧ (i ≠ i0 → EoR P n w0 mu all (depFm ds iv' o.after.toList ++ l) rest o R) ∧ (i = i0 → EoW P n w0 mu all (depFm ds iv' o.after.toList ++ l) hi rest o R))
    (hD : ∀ c, Valid kd k c → ∀ i o, i < k → all[i]? = some o → kd i = .d → ∃ iv', (∀ j u, look iv' j = some u → j < k ∧ val c j = u) ∧ HyR P n w0 mu (depFm ds iv' o.after.toList ++ l) [] o (val c i))
    (htail : ∀ f c listed, leftOf k listed = f → HeadInv .any all k listed → (∀ i, i < k → isE (kd i) = true → listed.getD i true = true) → ∀ a w, MidE n w0 mu all l rest kd val k c listed a w → wpAny P .any all Q' (f + g) listed a w)
    (hwait : ∀ listed, HeadInv .any all k listed → ∀ i, i < k → isE (kd i) = true → listed.getD i true = false → ∀ t, k ≤ t → t ∉ Region.ready .any all listed) :
    ∀ f c listed a w, leftOf k listed = f → HeadInv .any all k listed → MidE n w0 mu all l (hbW i0 hi rest listed) kd val k c listed a w → wpAny P .any all Q' (f + g) listed a w := by
  intro f
  induction f with
  | zero =>
    intro c listed a w hlf inv hm
    have hall0 : ∀ i, i < k → listed.getD i true = true := fun i hi => by
      cases hc : listed.getD i true with
      | true => rfl
      | false =>
      exfalso
      have : i ∈ (List.range k).filter fun i => !listed.getD i true := List.mem_filter.2 ⟨List.mem_range.2 hi, by simp only [hc, Bool.not_false]⟩
      have h2 := List.length_pos_of_mem this
      unfold leftOf at hlf
      omega
    have hl0 : listed.getD i0 false = true := by
      cases hc : listed.getD i0 false with
      | true => rfl
      | false => have h1 := hall0 i0 hi0k; rw [getD_in (by rw [inv.size]; omega) hc] at h1; cases h1
    rw [hbW, hl0] at hm
    exact htail 0 c listed hlf inv (fun i hi _ => hall0 i hi) a w hm
  | succ f ih =>
    intro c listed a w hlf inv hm
    by_cases hallE : ∀ i, i < k → isE (kd i) = true → listed.getD i true = true
    · have hl0 : listed.getD i0 false = true := by
        cases hc : listed.getD i0 false with
        | true => rfl
        | false => have h1 := hallE i0 hi0k hi0E; rw [getD_in (by rw [inv.size]; omega) hc] at h1; cases h1
      rw [hbW, hl0] at hm
      exact htail (f + 1) c listed hlf inv hallE a w hm
    obtain ⟨j0, hj0k, hj0e, hj0⟩ : ∃ i, i < k ∧ isE (kd i) = true ∧ listed.getD i true = false := by
      refine Classical.byContradiction fun hno => hallE fun i hi he => ?_
      cases hc : listed.getD i true with
      | true => rfl
      | false => exact absurd ⟨i, hi, he, hc⟩ hno
    rw [show f + 1 + g = (f + g) + 1 by omega]
    refine ⟨fun hnil => ?_, fun i hri => ?_⟩
    · exfalso
      obtain ⟨i, ⟨hik, hil⟩, hmin⟩ := exists_least (p := fun i => i < k ∧ listed.getD i true = false) ⟨j0, hj0k, hj0⟩
      have hr : i ∈ Region.ready .any all listed := by
        rw [mem_ready]
        have hs : i < all.size := by omega
        refine ⟨hil, all[i], by simp [hs], fun e he hb => ?_⟩
        have hb2 := List.all_eq_true.1 hback i (List.mem_range.2 hs)
        simp only [Array.getElem?_eq_getElem hs] at hb2
        have hb3 := (Array.all_eq_true_iff_forall_mem.1 hb2) e he
        simp only [hb, Bool.not_true, Bool.false_or, Nat.blt_eq] at hb3
        cases hc : listed.getD e.on false with
        | true => rfl
        | false =>
          have h5 := hmin e.on ⟨by omega, getD_in (by rw [inv.size]; omega) hc⟩
          omega
      rw [hnil] at hr; cases hr
    · have hik : i < k := by
        rcases Nat.lt_or_ge i k with h | h
        · exact h
        · exact absurd hri (hwait listed inv j0 hj0k hj0e hj0 i h)
      obtain ⟨hun, o, ho, hall⟩ := mem_ready.1 hri
      have hsz : i < listed.size := by rw [inv.size]; omega
      have hself : ∀ j, j < k → listed.getD j false = true → isE (kd j) = true → c j = c j := fun _ _ _ _ => rfl
      have hgo : ∀ c2 a' w', MidE n w0 mu all l (hbW i0 hi rest (listed.setIfInBounds i true)) kd val k c2 (listed.setIfInBounds i true) a' w' → wpAny P .any all Q' (f + g) (listed.setIfInBounds i true) a' w' := fun c2 a' w' h =>
        ih c2 _ _ _ (by have := left_set hik (by rw [inv.size]; omega) hun; omega) (inv.set hri hik) h
      have hweak : Good w0 mu [] w := hm.good.sub (List.nil_sublist _)
      have hsame : i ≠ i0 → hbW i0 hi rest (listed.setIfInBounds i true) = hbW i0 hi rest listed := fun hne => by rw [hbW, hbW, getD_set_ne false hne]
      have hrestle : ∃ x, hbW i0 hi rest listed = x ++ rest := by
        rw [hbW]; cases listed.getD i0 false with
        | true => exact ⟨[], rfl⟩
        | false => exact ⟨hi, rfl⟩
      unfold wpOp
      simp only [ho]
      cases hkd : kd i with
      | s v =>
        obtain ⟨hvc, iv', hiv, hy⟩ := hS i o v hik ho hkd
        have hkn := depFm_lookE (i := i) hds hm hm.valid hself (fun j u hu => ⟨(hiv j u hu).1, (hiv j u hu).2 c⟩) hall
        have hE0 : isE (kd i) = false := by rw [hkd]; rfl
        have hne : i ≠ i0 := fun e => by rw [e, hi0E] at hE0; cases hE0
        rw [hsame hne] at hgo
        have hnext : ∀ w', Good w0 mu (blks kd c listed k ++ hbW i0 hi rest listed) w' → wpAny P .any all Q' (f + g) (listed.setIfInBounds i true) (a.put o.dst v) w' := fun w' hG' =>
          hgo c _ _ (mide_step hm ho hik hun hsz hd hf hm.valid (fun _ _ => rfl) (by rw [blks_same hE0]; exact hG') (fun c' _ _ => hvc c'))
        obtain ⟨hx, h3, hpx⟩ : ∃ hx, HyG P n w0 mu all (depFm ds iv' o.after.toList ++ l) hx o v ∧ hx = blks kd c listed k ++ hbW i0 hi rest listed := by
          have ht0 : listed.getD i0 false = false := by
            cases hc : listed.getD i0 false with
            | false => rfl
            | true => have := hAnc listed inv hc i v hik hkd; rw [getD_both hun] at this; cases this
          exact ⟨_, hy (blks kd c listed k), by rw [hbW, ht0]; rfl⟩
        subst hpx
        unfold HyG at h3
        cases hg : o.guard with
        | none =>
          rw [hg] at h3
          rw [if_pos (by simp [Region.wanted, hg])]
          exact .inl (h3 a w hkn hm.good _ _ hnext)
        | some jw =>
          obtain ⟨j, want⟩ := jw
          rw [hg] at h3
          obtain ⟨dj, c0, b, u, hj, hb, hdj, hy, hvv⟩ := h3
          have hw := wanted_of hkn hg hj hb hdj
          cases hc : (c0 && wnt b want) with
          | true =>
            rw [hc] at hw hvv
            rw [if_pos hw]
            rw [Bool.and_eq_true] at hc
            rw [show v = u from hvv] at hnext
            exact .inl (hy hc.1 hc.2 a w hkn hm.good _ _ hnext)
          | false =>
            rw [hc] at hw hvv
            rw [if_neg (by rw [hw]; decide)]
            rw [show v = undef from hvv] at hnext
            exact hnext w hm.good
      | e R =>
        obtain ⟨hvc, iv', hiv, hEr, hEw⟩ := hE i o R hik ho hkd
        have hkn := depFm_lookE (i := i) hds hm hm.valid hself (fun j u hu => ⟨(hiv j u hu).1, (hiv j u hu).2 c⟩) hall
        have hfin : ∀ {hb : Hp} (hmb : MidE n w0 mu all l hb kd val k c listed a w) (v : Value) (hn : Hp) (w' : World), R v hn → Good w0 mu (hn ++ (blks kd c listed k ++ hb)) w' → MidE n w0 mu all l hb kd val k (fun t => if t = i then (v, hn) else c t) (listed.setIfInBounds i true) (a.put o.dst v) w' := fun {hb} hmb v hn w' hR hG' => by
          refine mide_step hmb ho hik hun hsz hd hf ?_ (fun j hj => by simp [hj]) ?_ ?_
          · intro j hj R' hR'
            by_cases hji : j = i
            · subst hji
              rw [hkd] at hR'
              cases hR'
              simpa using hR
            · simp only [hji, if_false]
              exact hm.valid j hj R' hR'
          · refine hG'.perm ?_
            rw [← List.append_assoc]
            exact (blks_set (by rw [hkd]; rfl) hun hsz k hik).symm.append_right _
          · intro c' hc' hag
            rw [hvc c', hag i hik (by simp [hsz]) (by rw [hkd]; rfl)]
            simp
        by_cases hne : i = i0
        · obtain ⟨hg, hy⟩ := hEw hne
          have hl0 : listed.getD i0 false = false := by rw [← hne]; exact getD_both hun
          have hb0 : hbW i0 hi rest listed = hi ++ rest := by rw [hbW, hl0]; rfl
          have hb1 : hbW i0 hi rest (listed.setIfInBounds i true) = rest := by
            rw [hbW, ← hne, show (listed.setIfInBounds i true).getD i false = true by simp [hsz]]; rfl
          rw [hb1] at hgo
          have hgd := hm.good
          rw [hb0] at hgd
          have hmr : MidE n w0 mu all l rest kd val k c listed a w := ⟨hm.size, hm.defers, hm.has, hm.valid, hgd.sub (List.Sublist.append (List.Sublist.refl _) (List.sublist_append_right _ _)), hm.done⟩
          rw [if_pos (hg _ hkn)]
          exact .inl (hy a w _ hkn hgd _ _ fun v hn w' hR hG' => hgo _ _ _ (hfin hmr v hn w' hR hG'))
        · obtain ⟨hg, hy⟩ := hEr hne
          rw [hsame hne] at hgo
          obtain ⟨x, hxe⟩ := hrestle
          rw [if_pos (hg _ hkn)]
          have hgd := hm.good
          rw [hxe, ← List.append_assoc] at hgd
          exact .inl (hy a w _ hkn hgd _ _ fun v hn w' hR hG' => hgo _ _ _ (hfin hm v hn w' hR (by rw [hxe]; simpa only [List.append_assoc] using hG')))
      | d =>
        obtain ⟨iv', hiv, hg, hy⟩ := hD c hm.valid i o hik ho hkd
        have hE0 : isE (kd i) = false := by rw [hkd]; rfl
        have hne : i ≠ i0 := fun e => by rw [e, hi0E] at hE0; cases hE0
        rw [hsame hne] at hgo
        have hkn := depFm_lookE (i := i) hds hm hm.valid hself hiv hall
        have hrun := hy a w hkn hweak
        rw [if_pos (by simp [Region.wanted, hg])]
        refine .inl ?_
        unfold Oper.wp
        rw [hrun]
        refine hgo c _ _ (mide_step hm ho hik hun hsz hd hf hm.valid (fun _ _ => rfl) (by rw [blks_same hE0]; exact hm.good) (fun c' hc' hag => ?_))
        obtain ⟨iv2, hiv2, hg2, hy2⟩ := hD c' hc' i o hik ho hkd
        have hag' : ∀ j, j < k → listed.getD j false = true → isE (kd j) = true → c' j = c j := fun j hj hl he => hag j hj (getD_set_true hl) he
        have hrun2 := hy2 a w (depFm_lookE (i := i) hds hm hc' hag' hiv2 hall) hweak
        rw [hrun] at hrun2
        simp only [Result.ok.injEq, Next.value.injEq, and_true] at hrun2
        exact hrun2.symm
def ancLB (all : Array Oper) (i0 : Nat) (S : List Nat) : Bool := S.all fun i => Region.waitsFor .any all i0 i || S.any fun j => Nat.blt i j && Region.waitsFor .any all j i
theorem ancL_ok {S : List Nat} {listed : Array Bool} (h : ancLB all i0 S = true) (inv : HeadInv .any all k listed) (h0 : listed.getD i0 false = true) : ∀ i ∈ S, listed.getD i false = true := by
  have go : ∀ d i, S.foldr max 0 < i + d → i ∈ S → listed.getD i false = true := by
    intro d
    induction d with
    | zero =>
      intro i hlt hi
      exfalso
      have : ∀ (L : List Nat), i ∈ L → i ≤ L.foldr max 0 := by
        intro L
        induction L with
        | nil => intro h; cases h
        | cons x r ih =>
          intro h
          rw [List.foldr_cons]
          rcases List.mem_cons.1 h with rfl | h
          · exact Nat.le_max_left ..
          · exact Nat.le_trans (ih h) (Nat.le_max_right ..)
      have := this S hi
      omega
    | succ d ih =>
      intro i hlt hi
      have h1 := List.all_eq_true.1 h i hi
      rw [Bool.or_eq_true] at h1
      rcases h1 with h1 | h1
      · obtain ⟨oj, h6, e, he, hb, heq⟩ := Region.waitsFor_spec h1
        rw [← heq]
        exact inv.closed i0 oj h6 h0 e he hb
      · obtain ⟨j, hj, h2⟩ := List.any_eq_true.1 h1
        rw [Bool.and_eq_true] at h2
        have hij : i < j := by simpa using h2.1
        have h3 := ih j (by omega) hj
        obtain ⟨oj, h6, e, he, hb, heq⟩ := Region.waitsFor_spec h2.2
        rw [← heq]
        exact inv.closed j oj h6 h3 e he hb
  exact fun i hi => go (S.foldr max 0 + 1) i (by omega) hi
def drawEWB (ops : Array Oper) (n k i0 : Nat) (S E D D2 C : List Nat) : Bool :=
  match C with
  | [] => false
  | t0 :: _ => (mem E i0 && ancLB ops i0 S) && (decide (k ≤ ops.size) && dstB ops k n && dstKB ops ops.size n && backB ops && coverB ops.size (S ++ E ++ D ++ D2) C && linkB ops C && (S.all fun j => Region.waitsFor .any ops t0 j) && (E.all fun j => Region.waitsFor .any ops t0 j) && (D2 ++ C).all (fun j => Nat.ble k j) &&
    ((List.range ops.size).all fun i => (dstAt ops i).isSome || Nat.beq i t0 || Region.waitsFor .any ops i t0) &&
    ((List.range ops.size).all fun i => Nat.blt i k || (E.all fun j => Region.waitsFor .any ops i j) || (List.range ops.size).any fun j => Nat.ble k j && Region.waitsFor .any ops i j))
end
section
variable {P : Program} {n : Nat} {w0 : World} {mu : List Nat} {l : Fm} {hp : Hp} {Q : Exit → Fm → Hp → Prop} {ds : List (Nat × Nat)}
theorem st_drawEW0 {ops : List Oper} (k i0 : Nat) (hi rest : Hp) (S E D D2 C : List Nat) (hB : drawEWB ops.toArray n k i0 S E D D2 C = true) (hperm : (hi ++ rest).Perm hp) (hf : freshB l (dstsOf ops.toArray ops.toArray.size) = true) (hf1 : freshB l (dstsOf ops.toArray k) = true) (hsp : splitB k S E D = true) (hds : dstTab ops 0 = ds)
    (h : DE1 P n w0 mu ops.toArray ds l hp (fun ivS => DE2W P n w0 mu ops.toArray ds l i0 hi rest ivS (fun Rs => ∀ c, AllR c Rs → DE3 P n w0 mu ops.toArray ds l [] (fun iv1 => DE3 P n w0 mu ops.toArray ds l [] (fun iv2 => DCh P n w0 mu ops.toArray ds l [] iv2 (fun ivE hc => Ops P n w0 mu ops.toArray [] (headFm ds (ivE ++ iv2) ++ l) hc Q) C [] (blE E c k ++ rest)) D2 iv1) D (chs c Rs ++ ivS)) E []) S []) : StAny P n w0 mu ops.toArray l hp Q := by
  intro a w hk hG
  replace hG := hG.perm hperm
  simp only [splitB, Bool.and_eq_true, decide_eq_true_eq] at hsp
  obtain ⟨⟨⟨_, hnd⟩, hlt⟩, hcov⟩ := hsp
  have hlt' : ∀ i ∈ S ++ E ++ D, i < k := fun i hi => by have := List.all_eq_true.1 hlt i hi; simpa using this
  have hcov' : ∀ i, i < k → i ∈ S ∨ i ∈ E ∨ i ∈ D := fun i hi => by
    have := mem_mem (List.all_eq_true.1 hcov i (List.mem_range.2 hi))
    simpa [or_assoc] using this
  rw [List.append_assoc, List.nodup_append] at hnd
  obtain ⟨hndS, hndED, hSx⟩ := hnd
  rw [List.nodup_append] at hndED
  obtain ⟨hndE, hndD, hEx⟩ := hndED
  obtain ⟨ivS, h2, huS, hkS, hsS⟩ := de1_get S [] hndS (fun _ _ => rfl) (fun _ _ h => by cases h) h (fun i v hv => by cases hv)
  obtain ⟨Rs, h3, hkE, hsE⟩ := de2w_get E [] hndE (fun _ _ => rfl) h2 (fun i R hR => by cases hR)
  simp only [lk, reduceCtorEq, exists_false, or_false] at hkS hkE
  have hES : ∀ i R, lk Rs i = some R → lk ivS i = none := fun i R hR => by
    cases hv : lk ivS i with
    | none => rfl
    | some v => exact absurd rfl (hSx i ((hkS i).1 ⟨v, hv⟩) i (List.mem_append_left _ ((hkE i).1 ⟨R, hR⟩)))
  let kd : Nat → Kd := fun i => match lk Rs i with | some R => .e R | none => match lk ivS i with | some v => .s v | none => .d
  have hkdE : ∀ i R, kd i = .e R ↔ lk Rs i = some R := fun i R => by
    show (match lk Rs i with | some R => Kd.e R | none => match lk ivS i with | some v => .s v | none => .d) = _ ↔ _
    cases lk Rs i with
    | some R' => simp
    | none => cases lk ivS i <;> simp
  have hkdS : ∀ i v, kd i = .s v → lk Rs i = none ∧ lk ivS i = some v := fun i v => by
    show (match lk Rs i with | some R => Kd.e R | none => match lk ivS i with | some v => .s v | none => .d) = _ → _
    cases lk Rs i with
    | some R' => simp
    | none => cases lk ivS i <;> simp
  have hkdD : ∀ i, kd i = .d → lk Rs i = none ∧ lk ivS i = none := fun i => by
    show (match lk Rs i with | some R => Kd.e R | none => match lk ivS i with | some v => .s v | none => .d) = _ → _
    cases lk Rs i with
    | some R' => simp
    | none => cases lk ivS i <;> simp
  have hlkm : ∀ i R, lk Rs i = some R → (i, R) ∈ Rs := fun i R h => lk_mem h
  have hvalid : ∀ c, Valid kd k c → AllR c Rs := fun c hc => allR_of Rs fun p hp => by
    obtain ⟨i, R⟩ := p
    have h1 := (hsE i R hp).1
    exact hc i (hlt' i (List.mem_append_left _ (List.mem_append_right _ ((hkE i).1 ⟨R, h1⟩)))) R ((hkdE i R).2 h1)
  have hex : ∀ c, Valid kd k c → ∃ ivD, DE3 P n w0 mu ops.toArray ds l [] (fun iv2 => DCh P n w0 mu ops.toArray ds l [] iv2 (fun ivE hc => Ops P n w0 mu ops.toArray [] (headFm ds (ivE ++ iv2) ++ l) hc Q) C [] (blE E c k ++ rest)) D2 ivD ∧ Uq ivD ∧ Mono (chs c Rs ++ ivS) ivD ∧ (∀ i, (∃ v, lk ivD i = some v) ↔ i ∈ D ∨ ∃ v, lk (chs c Rs ++ ivS) i = some v) ∧ ∀ i v, lk ivD i = some v → lk (chs c Rs ++ ivS) i = some v ∨ ∃ o iv', ops.toArray[i]? = some o ∧ Mono iv' ivD ∧ HyR P n w0 mu (depFm ds iv' o.after.toList ++ l) [] o v := fun c hc =>
    de3_get D (chs c Rs ++ ivS) hndD (fun i hi => by
      rw [chs_lk]
      have e1 : lk Rs i = none := by
        cases hR : lk Rs i with
        | none => rfl
        | some R => exact absurd rfl (hEx i ((hkE i).1 ⟨R, hR⟩) i hi)
      rw [e1]
      cases hv : lk ivS i with
      | none => rfl
      | some v => exact absurd rfl (hSx i ((hkS i).1 ⟨v, hv⟩) i (List.mem_append_right _ hi))) (fun i v hv => by
      rw [chs_lk]
      rcases List.mem_append.1 hv with hv | hv
      · obtain ⟨rfl, R, hR⟩ := chs_mem Rs hv
        rw [(hsE i R hR).1]
      · have h1 := huS i v hv
        cases hR : lk Rs i with
        | none => exact h1
        | some R => rw [hES i R hR] at h1; cases h1) (fun _ _ h => h) (h3 c (hvalid c hc)) (fun i v hv => .inl hv)
  have hch : ∃ F : Ch → Fm, ∀ c, Valid kd k c → DE3 P n w0 mu ops.toArray ds l [] (fun iv2 => DCh P n w0 mu ops.toArray ds l [] iv2 (fun ivE hc => Ops P n w0 mu ops.toArray [] (headFm ds (ivE ++ iv2) ++ l) hc Q) C [] (blE E c k ++ rest)) D2 (F c) ∧ Uq (F c) ∧ Mono (chs c Rs ++ ivS) (F c) ∧ (∀ i, (∃ v, lk (F c) i = some v) ↔ i ∈ D ∨ ∃ v, lk (chs c Rs ++ ivS) i = some v) ∧ ∀ i v, lk (F c) i = some v → lk (chs c Rs ++ ivS) i = some v ∨ ∃ o iv', ops.toArray[i]? = some o ∧ Mono iv' (F c) ∧ HyR P n w0 mu (depFm ds iv' o.after.toList ++ l) [] o v := by
    classical
    refine ⟨fun c => if hc : Valid kd k c then Classical.choose (hex c hc) else [], fun c hc => ?_⟩
    simp only [hc, dif_pos]
    exact Classical.choose_spec (hex c hc)
  obtain ⟨F, hF⟩ := hch
  let val : Ch → Nat → Value := fun c i => match kd i with | .s v => v | .e _ => (c i).1 | .d => (lk (F c) i).getD undef
  have hvalF : ∀ c, Valid kd k c → ∀ i v, lk (F c) i = some v → val c i = v := fun c hc i v hv => by
    obtain ⟨_, _, hmo, _, _⟩ := hF c hc
    show (match kd i with | .s v => v | .e _ => (c i).1 | .d => (lk (F c) i).getD undef) = v
    cases hkd : kd i with
    | s u =>
      obtain ⟨e1, e2⟩ := hkdS i u hkd
      have := hmo i u (by rw [chs_lk, e1]; exact e2)
      rw [hv] at this; cases this; rfl
    | e R =>
      have e1 := (hkdE i R).1 hkd
      have := hmo i (c i).1 (by rw [chs_lk, e1])
      rw [hv] at this; cases this; rfl
    | d => rw [hv]; rfl
  have hFall : ∀ c, Valid kd k c → ∀ i, i < k → ∃ v, lk (F c) i = some v := fun c hc i hi => by
    obtain ⟨_, _, _, hkk, _⟩ := hF c hc
    rw [hkk i]
    rcases hcov' i hi with h | h | h
    · obtain ⟨v, hv⟩ := (hkS i).2 h
      right
      rw [chs_lk]
      cases lk Rs i with
      | some R => exact ⟨_, rfl⟩
      | none => exact ⟨v, hv⟩
    · obtain ⟨R, hR⟩ := (hkE i).2 h
      right
      rw [chs_lk, hR]
      exact ⟨_, rfl⟩
    · exact .inl h
  have hvalS : ∀ i v, lk ivS i = some v → i < k ∧ ∀ c, val c i = v := fun i v hv => by
    refine ⟨hlt' i (List.mem_append_left _ (List.mem_append_left _ ((hkS i).1 ⟨v, hv⟩))), fun c => ?_⟩
    show (match kd i with | .s v => v | .e _ => (c i).1 | .d => (lk (F c) i).getD undef) = v
    have : kd i = .s v := by
      show (match lk Rs i with | some R => Kd.e R | none => match lk ivS i with | some v => .s v | none => .d) = _
      cases hR : lk Rs i with
      | some R => rw [hES i R hR] at hv; cases hv
      | none => rw [hv]
    rw [this]
  cases C with
  | nil => simp [drawEWB] at hB
  | cons t0 C' =>
  simp only [drawEWB, Bool.and_eq_true, decide_eq_true_eq] at hB
  obtain ⟨⟨hi0m, hanc⟩, ⟨⟨⟨⟨⟨⟨⟨⟨⟨hks, hd⟩, hdK⟩, hback⟩, hcoverK⟩, hlink⟩, hSt⟩, hEt⟩, hge⟩, hstb⟩, hwt⟩ := hB
  have hi0E := mem_mem hi0m
  have hi0k := hlt' i0 (List.mem_append_left _ (List.mem_append_right _ hi0E))
  have hSl : ∀ listed, HeadInv .any ops.toArray k listed → listed.getD i0 false = true → ∀ i ∈ S, listed.getD i false = true := fun listed inv h => ancL_ok hanc inv h
  have hAncS : ∀ listed, HeadInv .any ops.toArray k listed → listed.getD i0 false = true → ∀ i v, i < k → kd i = .s v → listed.getD i false = true := fun listed inv h i v _ hkd => hSl listed inv h i ((hkS i).1 ⟨v, (hkdS i v hkd).2⟩)
  simp only [coverB, Bool.and_eq_true, decide_eq_true_eq] at hcoverK
  obtain ⟨⟨hndK, hltK⟩, hcovK⟩ := hcoverK
  have hgeK : ∀ j, j ∈ D2 ++ t0 :: C' → k ≤ j := fun j hj => by have := List.all_eq_true.1 hge j hj; simpa using this
  have hdsl : ∀ i d, lk ds i = some d → dstAt ops.toArray i = some d := fun i d h => by rw [← hds] at h; have := (dstTab_ok ops 0 i d h).2; simpa [dstAt] using this
  have hinh : ∃ c0 : Ch, Valid kd k c0 := by
    have h1 : ∀ i, ∃ x : Value × Hp, ∀ R, kd i = .e R → R x.1 x.2 := fun i => by
      cases hR : lk Rs i with
      | none => exact ⟨(undef, []), fun R h => by rw [(hkdE i R).1 h] at hR; cases hR⟩
      | some R =>
        obtain ⟨_, o, _, _, v, hn, hv⟩ := hsE i R (hlkm i R hR)
        exact ⟨(v, hn), fun R' h => by rw [(hkdE i R').1 h] at hR; cases hR; exact hv⟩
    exact ⟨fun i => Classical.choose (h1 i), fun i hi R hR => Classical.choose_spec (h1 i) R hR⟩
  obtain ⟨c0, hc0⟩ := hinh
  have inv0 : HeadInv .any ops.toArray k (Array.replicate ops.toArray.size false) :=
    ⟨by simp, fun j oj _ hl => (by rw [getD_replicate_false] at hl; cases hl), fun t _ ht => getD_in (by simpa using ht) (getD_replicate_false _ _)⟩
  have hleft : leftOf k (Array.replicate ops.toArray.size false) = k := by
    unfold leftOf
    rw [List.filter_eq_self.2]
    · simp
    · intro i hi
      have hi' : i < k := by simpa using hi
      have : (Array.replicate ops.toArray.size false).getD i true = false := getD_in (by simp at hks ⊢; omega) (getD_replicate_false _ _)
      simp only [this, Bool.not_false]
  have hbl0 : ∀ m, blks kd c0 (Array.replicate ops.toArray.size false) m = [] := by
    intro m
    induction m with
    | zero => rfl
    | succ m ih => simp only [blks, ih, blkAt, getD_replicate_false, Bool.and_false, cond_false, List.append_nil]
  have hisE : ∀ i, i < k → isE (kd i) = mem E i := fun i hi => by
    cases hkd : kd i with
    | e R => rw [mem_of ((hkE i).1 ⟨R, (hkdE i R).1 hkd⟩)]; rfl
    | s v =>
      cases hmm : mem E i with
      | false => rfl
      | true => obtain ⟨R, hR⟩ := (hkE i).2 (mem_mem hmm); rw [(hkdE i R).2 hR] at hkd; cases hkd
    | d =>
      cases hmm : mem E i with
      | false => rfl
      | true => obtain ⟨R, hR⟩ := (hkE i).2 (mem_mem hmm); rw [(hkdE i R).2 hR] at hkd; cases hkd
  have key := headE_runW hdsl (P := P) (n := n) (w0 := w0) (mu := mu) (l := l) (hi := hi) (rest := rest) (i0 := i0) (all := ops.toArray) (kd := kd) (val := val) (k := k) (g := ops.toArray.size - k) (Q' := QQ n w0 mu Q) hks hd hf1 hback hi0k (by rw [hisE i0 hi0k]; exact hi0m)
    (fun i o v hi ho hkd => by
      obtain ⟨e1, e2⟩ := hkdS i v hkd
      obtain ⟨o', iv', h1, h2, h3⟩ := hsS i v e2
      rw [ho] at h1; cases h1
      exact ⟨(hvalS i v e2).2, iv', fun j u hu => hvalS j u (h2 j u (by rw [← look_lk]; exact hu)), fun hx => hyG_perm (h3 hx) (hperm.symm.append_left _)⟩)
    hAncS
    (fun i o R hi ho hkd => by
      have e1 := (hkdE i R).1 hkd
      obtain ⟨_, o', h1, h2, _⟩ := hsE i R (hlkm i R e1)
      rw [ho] at h1; cases h1
      refine ⟨fun c => ?_, ivS, fun j u hu => hvalS j u (by rw [← look_lk]; exact hu), h2⟩
      show (match kd i with | .s v => v | .e _ => (c i).1 | .d => (lk (F c) i).getD undef) = _
      rw [hkd])
    (fun c hcv i o hi ho hkd => by
      obtain ⟨e1, e2⟩ := hkdD i hkd
      obtain ⟨v, hv⟩ := hFall c hcv i hi
      obtain ⟨_, _, _, _, hsp⟩ := hF c hcv
      rw [hvalF c hcv i v hv]
      rcases hsp i v hv with h0 | ⟨o', iv', h1, h2, h3⟩
      · rw [chs_lk, e1] at h0; rw [e2] at h0; cases h0
      · rw [ho] at h1; cases h1
        refine ⟨iv', fun j u hu => ?_, h3⟩
        have hj := h2 j u (by rw [← look_lk]; exact hu)
        refine ⟨?_, hvalF c hcv j u hj⟩
        obtain ⟨_, _, _, hkk, _⟩ := hF c hcv
        rcases (hkk j).1 ⟨u, hj⟩ with h | ⟨v', h⟩
        · exact hlt' j (List.mem_append_right _ h)
        · rw [chs_lk] at h
          cases hR : lk Rs j with
          | some R => exact hlt' j (List.mem_append_left _ (List.mem_append_right _ ((hkE j).1 ⟨R, hR⟩)))
          | none => rw [hR] at h; exact (hvalS j v' h).1)
    (fun f c listed hlf inv hallE a w hmid => ?_)
    (fun listed inv i hi hie hun t ht => ?_)
    k c0 _ a { w with drawn := w.drawn + 1 } hleft inv0 ⟨hk.size, hk.defers, hk.has, hc0, by rw [hbl0, hbW, getD_replicate_false]; exact hG.drawn _, fun i _ hl => (by rw [getD_replicate_false] at hl; cases hl)⟩
  · have e : k + (ops.toArray.size - k) = ops.toArray.size := by omega
    rw [e] at key
    exact key
  · obtain ⟨hX, huq, hmo, hkk, hsp1⟩ := hF c hmid.valid
    have hFk : ∀ i v, lk (F c) i = some v → i < k := fun i v hv => by
      rcases (hkk i).1 ⟨v, hv⟩ with h | ⟨v', h⟩
      · exact hlt' i (List.mem_append_right _ h)
      · rw [chs_lk] at h
        cases hR : lk Rs i with
        | some R => exact hlt' i (List.mem_append_left _ (List.mem_append_right _ ((hkE i).1 ⟨R, hR⟩)))
        | none => rw [hR] at h; exact (hvalS i v' h).1
    have hndK' := hndK
    rw [List.nodup_append, List.nodup_append] at hndK'
    obtain ⟨⟨_, hndD2, hD2x⟩, hndC, hCx⟩ := hndK'
    obtain ⟨iv2, hY, hu2, hmo2, hkk2, hsp2⟩ := de3_get (base := F c) D2 (F c) hndD2 (fun i hi => by
      cases hv : lk (F c) i with
      | none => rfl
      | some v =>
        have h1 := hFk i v hv
        have h2 := hgeK i (List.mem_append_left _ hi)
        omega) huq (fun _ _ h => h) hX (fun i v hv => .inl hv)
    have hgetK : ∀ j, k ≤ j → j < ops.toArray.size → listed.getD j true = false := fun j h1 h2 => inv.tail j h1 h2
    have hltK' : ∀ i ∈ (S ++ E ++ D ++ D2) ++ t0 :: C', i < ops.toArray.size := fun i hi => by have := List.all_eq_true.1 hltK i hi; simpa using this
    have hiv2 : ∀ i v, lk iv2 i = some v → i < ops.toArray.size := fun i v hv => by
      rcases (hkk2 i).1 ⟨v, hv⟩ with h | ⟨v', h⟩
      · exact hltK' i (List.mem_append_left _ (List.mem_append_right _ h))
      · have := hFk i v' h; omega
    have invK : HeadInv .any ops.toArray ops.toArray.size listed := ⟨inv.size, inv.closed, fun t h1 h2 => by omega⟩
    have hlfK : leftOf ops.toArray.size listed = f + (ops.toArray.size - k) := by rw [leftOf_more hks hgetK, hlf]
    have hbe : ∀ m, m ≤ k → blks kd c listed m = blE E c m := by
      intro m
      induction m with
      | zero => intro _; rfl
      | succ m ih =>
        intro hm
        simp only [blks, blE, blkAt]
        rw [ih (by omega), hisE m (by omega)]
        cases hme : mem E m with
        | false => rfl
        | true =>
          have h1 := hallE m (by omega) (by rw [hisE m (by omega)]; exact hme)
          have h2 : listed.getD m false = true := by
            cases hcc : listed.getD m false with
            | true => rfl
            | false => rw [getD_in (by rw [inv.size]; omega) hcc] at h1; cases h1
          rw [h2]; rfl
    have hgood : Good w0 mu (blE E c k ++ rest) w := by rw [← hbe k (Nat.le_refl _)]; exact hmid.good
    have hmidC : MidC n w0 mu ops.toArray l iv2 [] (blE E c k ++ rest) listed a w := by
      refine ⟨hmid.size, hmid.defers, hmid.has, hgood, fun i v hv hl d hdd => ?_, fun i v hv => by cases hv⟩
      have hik : i < k := by
        rcases Nat.lt_or_ge i k with h | h
        · exact h
        · have h1 := hgetK i h (hiv2 i v hv)
          rw [getD_both h1] at hl; cases hl
      obtain ⟨v', hv'⟩ := hFall c hmid.valid i hik
      have h1 := hmo2 i v' hv'
      rw [hv] at h1; cases h1
      rw [hmid.done i hik hl c hmid.valid (fun _ _ _ _ => rfl) d hdd]
      exact hvalF c hmid.valid i v hv'
    have key2 := chain_run2 hdsl (P := P) (n := n) (w0 := w0) (mu := mu) (l := l) (hp := rest) (h0 := []) (all := ops.toArray) (ivS := iv2) (k := ops.toArray.size) (t0 := t0) (g := 0) (Q' := QQ n w0 mu Q) (X := fun ivE hc => Ops P n w0 mu ops.toArray [] (headFm ds (ivE ++ iv2) ++ l) hc Q) (dn := fun i => mem E i || mem S i) (Nat.le_refl _) hdK hf hback (hpLe_cnt fun b => by simp [cntB])
      (fun i hi hdn => by
        have := List.all_eq_true.1 hstb i (List.mem_range.2 hi)
        rw [hdn] at this
        simp only [Option.isSome_none, Bool.false_or, Bool.or_eq_true] at this
        rcases this with h | h
        · exact .inl (Nat.eq_of_beq_eq_true h)
        · exact .inr h)
      (fun i v hv => ⟨hiv2 i v hv, fun hne => ?_⟩)
      (fun ivE h listed inv hall hX a w hmid hEk => ?_)
      (fun listed inv i hi hun t ht hr => by
        obtain ⟨_, o, ho, _⟩ := mem_ready.1 hr
        have := (Array.getElem?_eq_some_iff.1 ho).1
        omega)
      (f + (ops.toArray.size - k)) (t0 :: C') [] (blE E c k ++ rest) listed a w hlfK invK (fun i hi => by
        simp only [Bool.or_eq_true] at hi
        rcases hi with hi | hi
        · exact hallE i (hlt' i (List.mem_append_left _ (List.mem_append_right _ (mem_mem hi)))) (by rw [hisE i (hlt' i (List.mem_append_left _ (List.mem_append_right _ (mem_mem hi))))]; exact hi)
        · have hl0 := hallE i0 hi0k (by rw [hisE i0 hi0k]; exact hi0m)
          have hl1 : listed.getD i0 false = true := by
            cases hcc : listed.getD i0 false with
            | true => rfl
            | false => rw [getD_in (by rw [inv.size]; omega) hcc] at hl0; cases hl0
          have h7 := hSl listed inv hl1 i (mem_mem hi)
          cases hcc : listed.getD i true with
          | true => rfl
          | false => rw [getD_both hcc] at h7; cases h7) hmidC (fun i v hv => by cases hv)
      (fun i hi => ⟨hltK' i (List.mem_append_right _ hi), hgetK i (hgeK i (List.mem_append_right _ hi)) (hltK' i (List.mem_append_right _ hi)), ?_⟩) hndC hlink (fun i hi hl => ?_) (hpLe_cnt fun b => by simp [cntB]) (fun _ => HpLe.right _ _) hY
    · exact key2
    · rcases hsp2 i v hv with h0 | ⟨o, iv', h1, h2, h3⟩
      · rcases hsp1 i v h0 with h0 | ⟨o, iv', h1, h2, h3⟩
        · rw [chs_lk] at h0
          cases hR : lk Rs i with
          | some R =>
            simp only [mem_of ((hkE i).1 ⟨R, hR⟩), Bool.true_or] at hne; cases hne
          | none =>
            rw [hR] at h0
            obtain ⟨o, iv', h1, h2, h3⟩ := hsS i v h0
            refine ⟨o, iv', h1, fun j u hu => ?_, fun hx => ?_⟩
            · refine hmo2 j u (hmo j u ?_)
              have h4 := h2 j u hu
              rw [chs_lk]
              cases hR2 : lk Rs j with
              | some R2 => rw [hES j R2 hR2] at h4; cases h4
              | none => exact h4
            · simp only [mem_of ((hkS i).1 ⟨v, h0⟩), Bool.or_true] at hne; cases hne
        · exact ⟨o, iv', h1, fun j u hu => hmo2 j u (h2 j u hu), fun hx => hyr_g h3⟩
      · exact ⟨o, iv', h1, h2, fun hx => hyr_g h3⟩
    · have hknows : Knows n (headFm ds (ivE ++ iv2) ++ l) a := by
        refine ⟨hmid.size, hmid.defers, fun t v ht => ?_⟩
        rcases look_append ht with ht | ⟨_, ht⟩
        · obtain ⟨j, h1, h2⟩ := headFm_mem (look_mem ht)
          rcases List.mem_append.1 h1 with h1 | h1
          · exact (hmid.doneE j v h1).2 t (hdsl _ _ h2)
          · have hj := hu2 j v h1
            have hjk := hiv2 j v hj
            refine hmid.doneS j v hj ?_ t (hdsl _ _ h2)
            have h5 := hall j hjk
            cases hcc : listed.getD j false with
            | true => rfl
            | false => rw [getD_in (by rw [inv.size]; omega) hcc] at h5; cases h5
        · exact hmid.has t v ht
      refine ⟨?_, hX a w hknows hmid.good⟩
      rw [List.eq_nil_iff_forall_not_mem]
      intro i hi
      obtain ⟨hun, o, ho, _⟩ := mem_ready.1 hi
      rw [hall i (Array.getElem?_eq_some_iff.1 ho).1] at hun; cases hun
    · cases hv : lk iv2 i with
      | none => rfl
      | some v =>
        exfalso
        have h2 := hgeK i (List.mem_append_right _ hi)
        rcases (hkk2 i).1 ⟨v, hv⟩ with h | ⟨v', h⟩
        · exact hCx i (List.mem_append_right _ h) i hi rfl
        · have := hFk i v' h; omega
    · have h1 := mem_mem (List.all_eq_true.1 hcovK i (List.mem_range.2 hi))
      rcases List.mem_append.1 h1 with h1 | h1
      · left
        rcases List.mem_append.1 h1 with h1 | h1
        · obtain ⟨v, hv⟩ := hFall c hmid.valid i (hlt' i h1)
          exact ⟨v, hmo2 i v hv⟩
        · exact (hkk2 i).2 (.inl h1)
      · exact .inr h1
  · intro hr
    obtain ⟨_, o, ho, hall⟩ := mem_ready.1 hr
    have hts : t < ops.toArray.size := (Array.getElem?_eq_some_iff.1 ho).1
    have hwl : ∀ j, Region.waitsFor .any ops.toArray t j = true → listed.getD j false = true := fun j hj => by
      obtain ⟨oj, h6, e, he, hb, heq⟩ := Region.waitsFor_spec hj
      rw [ho] at h6; cases h6
      rw [← heq]; exact hall e he hb
    have h1 := List.all_eq_true.1 hwt t (List.mem_range.2 hts)
    simp only [Bool.or_eq_true] at h1
    rcases h1 with (h1 | h1) | h1
    · have : t < k := by simpa using h1
      omega
    · have h2 := hwl i (List.all_eq_true.1 h1 i (mem_mem (by rw [← hisE i hi]; exact hie)))
      rw [getD_both hun] at h2; cases h2
    · obtain ⟨j, hj, h2⟩ := List.any_eq_true.1 h1
      rw [Bool.and_eq_true] at h2
      have h3 := hwl j h2.2
      rw [getD_both (inv.tail j (by simpa using h2.1) (List.mem_range.1 hj))] at h3; cases h3
theorem st_drawEW {ops : List Oper} (k i0 : Nat) (hi rest : Hp) (S E D D2 C : List Nat) (hB : drawEWB ops.toArray n k i0 S E D D2 C = true) (hperm : (hi ++ rest).Perm hp) (hf : freshB l (dstsOf ops.toArray ops.toArray.size) = true) (hf1 : freshB l (dstsOf ops.toArray k) = true) (hsp : splitB k S E D = true) (hds : dstTab ops 0 = ds)
    (h : DE1 P n w0 mu ops.toArray ds l hp (fun ivS => DE2W P n w0 mu ops.toArray ds l i0 hi rest ivS (fun Rs => DN (fun iv bl => DE3 P n w0 mu ops.toArray ds l [] (fun iv1 => DE3 P n w0 mu ops.toArray ds l [] (fun iv2 => DCh P n w0 mu ops.toArray ds l [] iv2 (fun ivE hc => Ops P n w0 mu ops.toArray [] (headFm ds (ivE ++ iv2) ++ l) hc Q) C [] (bl ++ rest)) D2 iv1) D (iv ++ ivS)) Rs) E []) S []) : StAny P n w0 mu ops.toArray l hp Q := by
  refine st_drawEW0 k i0 hi rest S E D D2 C hB hperm hf hf1 hsp hds (de1_mono (fun ivS h2 => de2w_mono E [] (fun Rs e h3 c hc => ?_) h2) S [] h)
  have := dn_c Rs _ c h3 hc
  have he : blE E c k = hpK c (Rs.map (·.1)) := by
    simp only [splitB, Bool.and_eq_true, decide_eq_true_eq] at hsp
    rw [blE_hpK, ← hsp.1.1.1, e]; simp
  rw [he]
  exact this
end
set_option maxRecDepth 20000
section
variable {n : Nat} {w0 : World} {mu : List Nat} {l : Fm} {hp : Hp} {Q : Exit → Fm → Hp → Prop} {ds : List (Nat × Nat)}
theorem drawEW {id : Nat} {ops : List Oper} (k i0 : Nat) (hi rest : Hp) (S E D D2 C : List Nat) (h : DE1 Tryz.prog n w0 mu ops.toArray ds l hp (fun ivS => DE2W Tryz.prog n w0 mu ops.toArray ds l i0 hi rest ivS (fun Rs => DN (fun iv bl => DE3 Tryz.prog n w0 mu ops.toArray ds l [] (fun iv1 => DE3 Tryz.prog n w0 mu ops.toArray ds l [] (fun iv2 => DCh Tryz.prog n w0 mu ops.toArray ds l [] iv2 (fun ivE hc => Ops Tryz.prog n w0 mu ops.toArray [] (headFm ds (ivE ++ iv2) ++ l) hc Q) C [] (bl ++ rest)) D2 iv1) D (iv ++ ivS)) Rs) E []) S [])
    (hds : dstTab ops 0 = ds := by (simp only [dstTab, Nat.reduceAdd, Nat.zero_add]; rfl)) (hm : Tryz.prog.follows .mixedOrders = true := by kernel_rfl) (hperm : (hi ++ rest).Perm hp := by (refine perm_cnt fun a => ?_; simp only [cntB_app, cntB_cons, cntB_nil] <;> omega)) (hB : drawEWB ops.toArray n k i0 S E D D2 C = true := by decide +kernel) (hf : freshB l (dstsOf ops.toArray ops.toArray.size) = true := by rfl) (hf1 : freshB l (dstsOf ops.toArray k) = true := by rfl) (hsp : splitB k S E D = true := by decide +kernel) : St Tryz.prog n w0 mu (.region id ops.toArray true) l hp Q :=
  st_any hm (st_drawEW k i0 hi rest S E D D2 C hB hperm hf hf1 hsp hds h)
theorem wOther {all : Array Oper} {i0 i : Nat} {hi rest : Hp} {iv : Fm} {X : List (Nat × RT) → Prop} {E : List Nat} {Rs : List (Nat × RT)} (h : DE2 Tryz.prog n w0 mu all ds l rest iv (fun Rs' => DE2W Tryz.prog n w0 mu all ds l i0 hi rest iv X E Rs') [i] Rs) (hne : Nat.beq i i0 = false := by rfl) : DE2W Tryz.prog n w0 mu all ds l i0 hi rest iv X (i :: E) Rs := by
  obtain ⟨o, R, ho, hy, hn, h⟩ := h
  have hne' : i ≠ i0 := fun e => by rw [e, beq_iff.2 rfl] at hne; cases hne
  exact ⟨o, R, ho, ⟨fun _ => hy, fun e => absurd e hne'⟩, hn, h⟩
theorem wAlloc {all : Array Oper} {i0 i d : Nat} {ty : TypeId} {pos : String} {af : Array Edge} {hi rest : Hp} {iv : Fm} {X : List (Nat × RT) → Prop} {E : List Nat} {Rs : List (Nat × RT)} {t : TypeId} {z : Value} {cs : List Value} (h : DE2W Tryz.prog n w0 mu all ds l i0 hi rest iv X E ((i, fun v hn => ∃ b, v = .pointer (some ⟨b, 0, none⟩) ∧ hn = [⟨b, cs.toArray, t⟩]) :: Rs)) (hne : Nat.beq i i0 = false := by rfl) (ho : all[i]? = some ⟨some d, .alloc t, ty, pos, af, none⟩ := by rfl) (hz : lk Tb.zs t = some z := by rfl) (hc : z.cells = cs.toArray := by (first | ((simp only [Value.cells]) <;> rfl) | rfl)) : DE2W Tryz.prog n w0 mu all ds l i0 hi rest iv X (i :: E) Rs :=
  wOther (eAlloc (eNil h) ho hz hc) hne
theorem wNil {all : Array Oper} {i0 : Nat} {hi rest : Hp} {iv : Fm} {X : List (Nat × RT) → Prop} {Rs : List (Nat × RT)} (h : X Rs) : DE2W Tryz.prog n w0 mu all ds l i0 hi rest iv X [] Rs := h
theorem wCall {all : Array Oper} {i d : Nat} {ty : TypeId} {pos : String} {af : Array Edge} {hi rest : Hp} {iv : Fm} {X : List (Nat × RT) → Prop} {E : List Nat} {Rs : List (Nat × RT)} {f : FuncId} {xs : List Operand} {vs : List Value} {tys : Array TypeId} {R : RT} (hc : ∀ w, Good w0 mu (hi ++ rest) w → Fn Tryz.prog f vs.toArray w (hi.map (·.b)) R) (hn : ∃ v hn, R v hn) (h : DE2W Tryz.prog n w0 mu all ds l i hi rest iv X E ((i, R) :: Rs))
    (ho : all[i]? = some ⟨some d, .call { callee := .value (.func f), args := xs.toArray, argTypes := tys }, ty, pos, af, none⟩ := by rfl) (hcal : mem calN f = true := by rfl) (hv : evs (depFm ds iv af.toList ++ l) xs = some vs := by rfl) : DE2W Tryz.prog n w0 mu all ds l i hi rest iv X (i :: E) Rs := by
  refine ⟨_, R, ho, ⟨fun e => absurd rfl e, fun _ => ⟨fun a _ => by simp [Region.wanted], fun a w hx hk hG K Q hK => ?_⟩⟩, hn, h⟩
  obtain ⟨fn, c, hf, hname, hb⟩ := calOk f hcal
  unfold Oper.wp
  rw [run_call rfl hf hname hb hk hv w]
  refine Calls.mono (hc w (hG.sub (List.sublist_append_right _ _))) ?_
  rintro e w' ⟨u, hn, rfl, hg', hR⟩
  have hG2 : Good w0 mu (hi ++ (hx ++ rest)) w := hG.perm (by rw [← List.append_assoc, ← List.append_assoc]; exact List.Perm.append_right _ List.perm_append_comm)
  exact hK u hn w' hR (hG2.transM hg')
end
end Go.Proofs.YtdaenalnmdmflaaGreat
namespace Go.Proofs.YtdaenalnmdmflaaGreat
open Go.RowKit
set_option linter.unusedVariables false
set_option linter.unusedSimpArgs false
set_option maxRecDepth 20000
attribute [local irreducible] Hy St Ops DH DHF DE1 DE2 DE3 DS DCh DWF
theorem wyLeaf_e (c : AcC) (hk : AcOk c) (cap : Nat) (hcc : c.ws.length ≤ cap) {p : Option Addr} {w : World} {Wb : Nat} {ev dv rv : Value} {he hd hr : Hp} (s : AcS) (ds : List IvD) (hE : EsOk c.ws.length s.es ds)  (ha : PtD.btw c.acc 0 2 = true) (level : Nat) (hl : level < 4) (d : DsD) (hmay : d.may 1 level = true) (hk2 : d.kind = 2) (hrl : s.rd.length < 90000)
    (hm : Sees w (Wb :: (he ++ hd ++ hr).map (·.b)) (.slice p c.ws.length cap) 1 (c.ws.map uV)) (h1 : Own 88 14 ev he (s.es.map enV)) (h2 : Own 94 4 dv hd (ds.map ivV)) (h3 : Own 3 1 rv hr (s.rd.map inV)) (hN : HereN (⟨Wb, wyC c (.slice p c.ws.length cap) ev dv rv, 73⟩ :: (he ++ hd ++ hr)) w) :
    Fn Tryz.prog 90 [.pointer (some ⟨Wb, 0, none⟩), dsV d, .int .i64 (level : Int)].toArray w (Wb :: (he ++ hd ++ hr).map (·.b)) (fun u hn => ∃ (H : HtD) (X : MdR) (ev' dv' rv' : Value) (he' hd' hr' : Hp), X = (bif !decide ((flagL d.r d.w d.x d.af c.acc 1 level c.page).kind = 0) then ⟨s, 0, noAt, flagL d.r d.w d.x d.af c.acc 1 level c.page⟩ else midA c s (leafM c level d) c.acc) ∧ u = .tuple #[htV H, ftV X.f] ∧ H.frame = X.n ∧ (X.f.kind = 0 → H.mid = (leafM c level d : Int) ∧ H.soft = 0 ∧ (⟨H.r, H.w, H.x, H.af, H.ng⟩ : AtD) = bothA ⟨d.r, d.w, d.x, d.af, d.ng⟩ X.a) ∧ Own 88 14 ev' he' (X.s.es.map enV) ∧ Own 94 4 dv' hd' (ds.map ivV) ∧ Own 3 1 rv' hr' (X.s.rd.map inV) ∧ HpLe (⟨Wb, wyC c (.slice p c.ws.length cap) ev' dv' rv', 73⟩ :: (he' ++ hd' ++ hr')) hn) := by
  simp only [wyC] at hN ⊢
  have hmi := memOk_iff hk.mem
  have hem := hE.may
  obtain ⟨hlf, hlf2⟩ := leaf_mid hmay hk2 hl c.page
  have hcv := dbits_lt hl
  have hmod := Nat.mod_lt c.page (show 0 < coversN level by omega)
  refine enterM _ hN Tryz.func90 ?_
  refine run ?_
  intro D R1 R2
  refine run ?_
  refine drawEC 17 16 [0, 1, 2, 3, 4, 5, 6, 7, 8, 9, 10, 11, 12, 13, 14] [15] [16] (⟨R2, #[.int .i64 0, .int .i64 0, .int .i64 0, .bool false, .int .i64 0], 44⟩ :: ⟨R1, #[.int .i64 0, .int .i64 0, .bool false, .bool false, .bool false, .bool false, .bool false, .int .i64 0, .int .i64 0], 62⟩ :: ⟨D, #[.int .i64 d.kind, .int .i64 d.frame, .bool d.r, .bool d.w, .bool d.x, .bool d.af, .bool d.ng, .int .i64 d.soft, .int .i64 d.note], 100⟩ :: ⟨Wb, #[.slice p c.ws.length cap, ev, dv, .int .i64 c.pk.cpu, .bool c.pk.fill, .bool c.pk.mids, .bool c.pk.walk, .int .i64 c.pk.drop, .bool c.pk.use, .bool c.one.on, .int .i64 c.one.frame, .int .i64 c.one.tag, .bool c.two.on, .int .i64 c.two.frame, .int .i64 c.two.tag, .int .i64 (c.page : Int), .int .i64 c.acc, rv], 73⟩ :: (he ++ hd ++ hr)) ?_
  refine runZ ?_
  refine sCallA (fun wc hx hG => pFlag_e d.r d.w d.x d.af d.ng d.soft c.acc 1 level c.page ha wc) ?_
  refine runZ ?_
  generalize flagL d.r d.w d.x d.af c.acc 1 level c.page = G
  refine eAlloc ?_
  refine eNil ?_
  rintro _ _ ⟨F, rfl, rfl⟩
  simp only [DN, List.cons_append, List.nil_append, List.append_nil]
  refine cStore (b := F) (tb := 44) (cs := #[.int .i64 0, .int .i64 0, .int .i64 0, .bool false, .int .i64 0]) (cs' := #[.int .i64 G.kind, .int .i64 G.stage, .int .i64 G.level, .bool G.walk, .int .i64 G.page]) (hp' := ⟨R2, #[.int .i64 0, .int .i64 0, .int .i64 0, .bool false, .int .i64 0], 44⟩ :: ⟨R1, #[.int .i64 0, .int .i64 0, .bool false, .bool false, .bool false, .bool false, .bool false, .int .i64 0, .int .i64 0], 62⟩ :: ⟨D, #[.int .i64 d.kind, .int .i64 d.frame, .bool d.r, .bool d.w, .bool d.x, .bool d.af, .bool d.ng, .int .i64 d.soft, .int .i64 d.note], 100⟩ :: ⟨Wb, #[.slice p c.ws.length cap, ev, dv, .int .i64 c.pk.cpu, .bool c.pk.fill, .bool c.pk.mids, .bool c.pk.walk, .int .i64 c.pk.drop, .bool c.pk.use, .bool c.one.on, .int .i64 c.one.frame, .int .i64 c.one.tag, .bool c.two.on, .int .i64 c.two.frame, .int .i64 c.two.tag, .int .i64 (c.page : Int), .int .i64 c.acc, rv], 73⟩ :: (he ++ hd ++ hr)) ?_ (by (refine perm_cnt fun a => ?_; simp only [cntB_app, cntB_cons, cntB_nil] <;> omega))
  refine dc_nil ?_
  refine opsC ?_
  refine run ?_
  refine st_cond _ rfl (fun hc => ?_) (fun hc => ?_)
  · rw [hc, cond_true]
    refine run ?_
    refine drawC 4 2 [0, 1] [2, 3] (⟨F, #[.int .i64 G.kind, .int .i64 G.stage, .int .i64 G.level, .bool G.walk, .int .i64 G.page], 44⟩ :: ⟨D, #[.int .i64 d.kind, .int .i64 d.frame, .bool d.r, .bool d.w, .bool d.x, .bool d.af, .bool d.ng, .int .i64 d.soft, .int .i64 d.note], 100⟩ :: ⟨Wb, #[.slice p c.ws.length cap, ev, dv, .int .i64 c.pk.cpu, .bool c.pk.fill, .bool c.pk.mids, .bool c.pk.walk, .int .i64 c.pk.drop, .bool c.pk.use, .bool c.one.on, .int .i64 c.one.frame, .int .i64 c.one.tag, .bool c.two.on, .int .i64 c.two.frame, .int .i64 c.two.tag, .int .i64 (c.page : Int), .int .i64 c.acc, rv], 73⟩ :: (he ++ hd ++ hr)) ?_
    refine runZ ?_
    refine cStore (b := R1) (tb := 62) (cs := #[.int .i64 0, .int .i64 0, .bool false, .bool false, .bool false, .bool false, .bool false, .int .i64 0, .int .i64 0]) (cs' := #[.int .i64 0, .int .i64 0, .bool false, .bool false, .bool false, .bool false, .bool false, .int .i64 0, .int .i64 0]) (hp' := ⟨F, #[.int .i64 G.kind, .int .i64 G.stage, .int .i64 G.level, .bool G.walk, .int .i64 G.page], 44⟩ :: ⟨R2, #[.int .i64 0, .int .i64 0, .int .i64 0, .bool false, .int .i64 0], 44⟩ :: ⟨D, #[.int .i64 d.kind, .int .i64 d.frame, .bool d.r, .bool d.w, .bool d.x, .bool d.af, .bool d.ng, .int .i64 d.soft, .int .i64 d.note], 100⟩ :: ⟨Wb, #[.slice p c.ws.length cap, ev, dv, .int .i64 c.pk.cpu, .bool c.pk.fill, .bool c.pk.mids, .bool c.pk.walk, .int .i64 c.pk.drop, .bool c.pk.use, .bool c.one.on, .int .i64 c.one.frame, .int .i64 c.one.tag, .bool c.two.on, .int .i64 c.two.frame, .int .i64 c.two.tag, .int .i64 (c.page : Int), .int .i64 c.acc, rv], 73⟩ :: (he ++ hd ++ hr)) ?_ (by (refine perm_cnt fun a => ?_; simp only [cntB_app, cntB_cons, cntB_nil] <;> omega))
    refine cStore (b := R2) (tb := 44) (cs := #[.int .i64 0, .int .i64 0, .int .i64 0, .bool false, .int .i64 0]) (cs' := #[.int .i64 G.kind, .int .i64 G.stage, .int .i64 G.level, .bool G.walk, .int .i64 G.page]) (hp' := ⟨R1, #[.int .i64 0, .int .i64 0, .bool false, .bool false, .bool false, .bool false, .bool false, .int .i64 0, .int .i64 0], 62⟩ :: ⟨F, #[.int .i64 G.kind, .int .i64 G.stage, .int .i64 G.level, .bool G.walk, .int .i64 G.page], 44⟩ :: ⟨D, #[.int .i64 d.kind, .int .i64 d.frame, .bool d.r, .bool d.w, .bool d.x, .bool d.af, .bool d.ng, .int .i64 d.soft, .int .i64 d.note], 100⟩ :: ⟨Wb, #[.slice p c.ws.length cap, ev, dv, .int .i64 c.pk.cpu, .bool c.pk.fill, .bool c.pk.mids, .bool c.pk.walk, .int .i64 c.pk.drop, .bool c.pk.use, .bool c.one.on, .int .i64 c.one.frame, .int .i64 c.one.tag, .bool c.two.on, .int .i64 c.two.frame, .int .i64 c.two.tag, .int .i64 (c.page : Int), .int .i64 c.acc, rv], 73⟩ :: (he ++ hd ++ hr)) ?_ (by (refine perm_cnt fun a => ?_; simp only [cntB_app, cntB_cons, cntB_nil] <;> omega))
    refine dc_nil ?_
    refine opsC ?_
    refine run ?_
    exact finAA2 (cs := #[.int .i64 0, .int .i64 0, .bool false, .bool false, .bool false, .bool false, .bool false, .int .i64 0, .int .i64 0]) (cs2 := #[.int .i64 G.kind, .int .i64 G.stage, .int .i64 G.level, .bool G.walk, .int .i64 G.page]) ⟨⟨0, 0, false, false, false, false, false, 0, 0⟩, _, ev, dv, rv, he, hd, hr, rfl, rfl, rfl, fun h0 => absurd h0 (by simpa using hc), h1, h2, h3, by (refine hpLe_cnt fun a => ?_; simp only [cntB_app, cntB_cons, cntB_nil] <;> omega)⟩
  · rw [hc, cond_false]
    refine run ?_
    refine callE (fun wc hG => dCovers_e level hl wc) ?_
    refine run ?_
    have hcall := fun (wc : World) (hG : HereN (⟨Wb, #[.slice p c.ws.length cap, ev, dv, .int .i64 c.pk.cpu, .bool c.pk.fill, .bool c.pk.mids, .bool c.pk.walk, .int .i64 c.pk.drop, .bool c.pk.use, .bool c.one.on, .int .i64 c.one.frame, .int .i64 c.one.tag, .bool c.two.on, .int .i64 c.two.frame, .int .i64 c.two.tag, .int .i64 (c.page : Int), .int .i64 c.acc, rv], 73⟩ :: (he ++ hd ++ hr)) wc) (hm : Sees wc (Wb :: (he ++ hd ++ hr).map (·.b)) (.slice p c.ws.length cap) 1 (c.ws.map uV)) => wyMid_e c hk cap hcc s ds (leafM c level d) hlf c.acc ha hE (by omega) hm h1 h2 h3 hG
    refine drawEW 20 14 (⟨Wb, #[.slice p c.ws.length cap, ev, dv, .int .i64 c.pk.cpu, .bool c.pk.fill, .bool c.pk.mids, .bool c.pk.walk, .int .i64 c.pk.drop, .bool c.pk.use, .bool c.one.on, .int .i64 c.one.frame, .int .i64 c.one.tag, .bool c.two.on, .int .i64 c.two.frame, .int .i64 c.two.tag, .int .i64 (c.page : Int), .int .i64 c.acc, rv], 73⟩ :: (he ++ hd ++ hr)) (⟨F, #[.int .i64 G.kind, .int .i64 G.stage, .int .i64 G.level, .bool G.walk, .int .i64 G.page], 44⟩ :: ⟨R2, #[.int .i64 0, .int .i64 0, .int .i64 0, .bool false, .int .i64 0], 44⟩ :: ⟨R1, #[.int .i64 0, .int .i64 0, .bool false, .bool false, .bool false, .bool false, .bool false, .int .i64 0, .int .i64 0], 62⟩ :: ⟨D, #[.int .i64 d.kind, .int .i64 d.frame, .bool d.r, .bool d.w, .bool d.x, .bool d.af, .bool d.ng, .int .i64 d.soft, .int .i64 d.note], 100⟩ :: []) [0, 1, 2, 3, 4, 5, 6, 7, 8, 9, 10, 11, 12, 13] [14, 18, 19] [15, 16, 17] [] [20, 21] ?_
    refine runS ?_
    refine de1_s rfl (fun hxS => x_remN rfl rfl c.page (coversN level) rfl rfl (by omega)) ?_
    refine runS ?_
    rw [show d.frame + ((c.page % coversN level : Nat) : Int) = ((leafM c level d : Nat) : Int) by unfold leafM; omega]
    refine wCall (fun wc hG => hcall wc hG.hereN (hm.into hG)) (hcall w hN hm).some ?_
    refine wAlloc ?_
    refine wAlloc ?_
    refine wNil ?_
    rintro _ _ ⟨A2, rfl, rfl⟩ _ _ ⟨A1, rfl, rfl⟩ u1 hn1 ⟨H, ev1, dv1, rv1, he1, hd1, hr1, rfl, ⟨hH1, hH2⟩, h11, h21, h31, hle1⟩
    simp only [wyC] at hle1
    generalize midA c s (leafM c level d) c.acc = Y at hH1 hH2 h11 h31 ⊢
    refine dMove ?_
    refine dExtract ?_
    refine dExtract ?_
    refine dNil ?_
    refine dNil ?_
    simp only [DN, List.cons_append, List.nil_append, List.append_nil]
    refine cStore (b := A1) (tb := 62) (cs := #[.int .i64 0, .int .i64 0, .bool false, .bool false, .bool false, .bool false, .bool false, .int .i64 0, .int .i64 0]) (cs' := #[.int .i64 H.frame, .int .i64 H.mid, .bool H.r, .bool H.w, .bool H.x, .bool H.af, .bool H.ng, .int .i64 H.soft, .int .i64 H.level]) (hp' := ⟨A2, #[.int .i64 0, .int .i64 0, .int .i64 0, .bool false, .int .i64 0], 44⟩ :: (hn1 ++ [⟨F, #[.int .i64 G.kind, .int .i64 G.stage, .int .i64 G.level, .bool G.walk, .int .i64 G.page], 44⟩, ⟨R2, #[.int .i64 0, .int .i64 0, .int .i64 0, .bool false, .int .i64 0], 44⟩, ⟨R1, #[.int .i64 0, .int .i64 0, .bool false, .bool false, .bool false, .bool false, .bool false, .int .i64 0, .int .i64 0], 62⟩, ⟨D, #[.int .i64 d.kind, .int .i64 d.frame, .bool d.r, .bool d.w, .bool d.x, .bool d.af, .bool d.ng, .int .i64 d.soft, .int .i64 d.note], 100⟩])) ?_ (by (refine perm_cnt fun a => ?_; simp only [cntB_app, cntB_cons, cntB_nil] <;> omega))
    refine cStore (b := A2) (tb := 44) (cs := #[.int .i64 0, .int .i64 0, .int .i64 0, .bool false, .int .i64 0]) (cs' := #[.int .i64 Y.f.kind, .int .i64 Y.f.stage, .int .i64 Y.f.level, .bool Y.f.walk, .int .i64 Y.f.page]) (hp' := ⟨A1, #[.int .i64 H.frame, .int .i64 H.mid, .bool H.r, .bool H.w, .bool H.x, .bool H.af, .bool H.ng, .int .i64 H.soft, .int .i64 H.level], 62⟩ :: (hn1 ++ [⟨F, #[.int .i64 G.kind, .int .i64 G.stage, .int .i64 G.level, .bool G.walk, .int .i64 G.page], 44⟩, ⟨R2, #[.int .i64 0, .int .i64 0, .int .i64 0, .bool false, .int .i64 0], 44⟩, ⟨R1, #[.int .i64 0, .int .i64 0, .bool false, .bool false, .bool false, .bool false, .bool false, .int .i64 0, .int .i64 0], 62⟩, ⟨D, #[.int .i64 d.kind, .int .i64 d.frame, .bool d.r, .bool d.w, .bool d.x, .bool d.af, .bool d.ng, .int .i64 d.soft, .int .i64 d.note], 100⟩])) ?_ (by (refine perm_cnt fun a => ?_; simp only [cntB_app, cntB_cons, cntB_nil] <;> omega))
    refine dc_nil ?_
    refine opsC ?_
    refine ops_le (⟨A2, #[.int .i64 Y.f.kind, .int .i64 Y.f.stage, .int .i64 Y.f.level, .bool Y.f.walk, .int .i64 Y.f.page], 44⟩ :: ⟨A1, #[.int .i64 H.frame, .int .i64 H.mid, .bool H.r, .bool H.w, .bool H.x, .bool H.af, .bool H.ng, .int .i64 H.soft, .int .i64 H.level], 62⟩ :: ⟨R2, #[.int .i64 0, .int .i64 0, .int .i64 0, .bool false, .int .i64 0], 44⟩ :: ⟨R1, #[.int .i64 0, .int .i64 0, .bool false, .bool false, .bool false, .bool false, .bool false, .int .i64 0, .int .i64 0], 62⟩ :: ⟨D, #[.int .i64 d.kind, .int .i64 d.frame, .bool d.r, .bool d.w, .bool d.x, .bool d.af, .bool d.ng, .int .i64 d.soft, .int .i64 d.note], 100⟩ :: ⟨Wb, #[.slice p c.ws.length cap, ev1, dv1, .int .i64 c.pk.cpu, .bool c.pk.fill, .bool c.pk.mids, .bool c.pk.walk, .int .i64 c.pk.drop, .bool c.pk.use, .bool c.one.on, .int .i64 c.one.frame, .int .i64 c.one.tag, .bool c.two.on, .int .i64 c.two.frame, .int .i64 c.two.tag, .int .i64 (c.page : Int), .int .i64 c.acc, rv1], 73⟩ :: (he1 ++ hd1 ++ hr1)) (by (refine hpLe_cnt fun a => ?_; have := HpLe.cnt hle1 a; simp only [cntB_app, cntB_cons, cntB_nil] at *; omega)) ?_
    refine run ?_
    intro Z
    refine callE (fun wc hG => pBoth_e ⟨d.r, d.w, d.x, d.af, d.ng⟩ ⟨H.r, H.w, H.x, H.af, H.ng⟩ d.soft H.soft (lie_rows (xs := ([((⟨d.r, d.w, d.x, d.af, d.ng⟩ : AtD), d.soft), ((⟨H.r, H.w, H.x, H.af, H.ng⟩ : AtD), H.soft)].map atS)) (hG.here ⟨Z, #[.bool d.r, .bool d.w, .bool d.x, .bool d.af, .bool d.ng, .int .i64 d.soft, .bool H.r, .bool H.w, .bool H.x, .bool H.af, .bool H.ng, .int .i64 H.soft], 60⟩ mh) (by simp [atS]) (by simp))) ?_
    generalize hB : bothA ⟨d.r, d.w, d.x, d.af, d.ng⟩ ⟨H.r, H.w, H.x, H.af, H.ng⟩ = B
    refine run ?_
    refine drawC 4 2 [0, 1] [2, 3] (⟨A1, #[.int .i64 (⟨H.frame, H.mid, B.r, B.w, B.x, B.af, B.ng, 0, H.level⟩ : HtD).frame, .int .i64 (⟨H.frame, H.mid, B.r, B.w, B.x, B.af, B.ng, 0, H.level⟩ : HtD).mid, .bool (⟨H.frame, H.mid, B.r, B.w, B.x, B.af, B.ng, 0, H.level⟩ : HtD).r, .bool (⟨H.frame, H.mid, B.r, B.w, B.x, B.af, B.ng, 0, H.level⟩ : HtD).w, .bool (⟨H.frame, H.mid, B.r, B.w, B.x, B.af, B.ng, 0, H.level⟩ : HtD).x, .bool (⟨H.frame, H.mid, B.r, B.w, B.x, B.af, B.ng, 0, H.level⟩ : HtD).af, .bool (⟨H.frame, H.mid, B.r, B.w, B.x, B.af, B.ng, 0, H.level⟩ : HtD).ng, .int .i64 (⟨H.frame, H.mid, B.r, B.w, B.x, B.af, B.ng, 0, H.level⟩ : HtD).soft, .int .i64 (⟨H.frame, H.mid, B.r, B.w, B.x, B.af, B.ng, 0, H.level⟩ : HtD).level], 62⟩ :: ⟨A2, #[.int .i64 Y.f.kind, .int .i64 Y.f.stage, .int .i64 Y.f.level, .bool Y.f.walk, .int .i64 Y.f.page], 44⟩ :: ⟨Wb, #[.slice p c.ws.length cap, ev1, dv1, .int .i64 c.pk.cpu, .bool c.pk.fill, .bool c.pk.mids, .bool c.pk.walk, .int .i64 c.pk.drop, .bool c.pk.use, .bool c.one.on, .int .i64 c.one.frame, .int .i64 c.one.tag, .bool c.two.on, .int .i64 c.two.frame, .int .i64 c.two.tag, .int .i64 (c.page : Int), .int .i64 c.acc, rv1], 73⟩ :: (he1 ++ hd1 ++ hr1)) ?_
    refine runZ ?_
    refine cStore (b := R1) (tb := 62) (cs := #[.int .i64 0, .int .i64 0, .bool false, .bool false, .bool false, .bool false, .bool false, .int .i64 0, .int .i64 0]) (cs' := #[.int .i64 (⟨H.frame, H.mid, B.r, B.w, B.x, B.af, B.ng, 0, H.level⟩ : HtD).frame, .int .i64 (⟨H.frame, H.mid, B.r, B.w, B.x, B.af, B.ng, 0, H.level⟩ : HtD).mid, .bool (⟨H.frame, H.mid, B.r, B.w, B.x, B.af, B.ng, 0, H.level⟩ : HtD).r, .bool (⟨H.frame, H.mid, B.r, B.w, B.x, B.af, B.ng, 0, H.level⟩ : HtD).w, .bool (⟨H.frame, H.mid, B.r, B.w, B.x, B.af, B.ng, 0, H.level⟩ : HtD).x, .bool (⟨H.frame, H.mid, B.r, B.w, B.x, B.af, B.ng, 0, H.level⟩ : HtD).af, .bool (⟨H.frame, H.mid, B.r, B.w, B.x, B.af, B.ng, 0, H.level⟩ : HtD).ng, .int .i64 (⟨H.frame, H.mid, B.r, B.w, B.x, B.af, B.ng, 0, H.level⟩ : HtD).soft, .int .i64 (⟨H.frame, H.mid, B.r, B.w, B.x, B.af, B.ng, 0, H.level⟩ : HtD).level]) (hp' := ⟨A1, #[.int .i64 (⟨H.frame, H.mid, B.r, B.w, B.x, B.af, B.ng, 0, H.level⟩ : HtD).frame, .int .i64 (⟨H.frame, H.mid, B.r, B.w, B.x, B.af, B.ng, 0, H.level⟩ : HtD).mid, .bool (⟨H.frame, H.mid, B.r, B.w, B.x, B.af, B.ng, 0, H.level⟩ : HtD).r, .bool (⟨H.frame, H.mid, B.r, B.w, B.x, B.af, B.ng, 0, H.level⟩ : HtD).w, .bool (⟨H.frame, H.mid, B.r, B.w, B.x, B.af, B.ng, 0, H.level⟩ : HtD).x, .bool (⟨H.frame, H.mid, B.r, B.w, B.x, B.af, B.ng, 0, H.level⟩ : HtD).af, .bool (⟨H.frame, H.mid, B.r, B.w, B.x, B.af, B.ng, 0, H.level⟩ : HtD).ng, .int .i64 (⟨H.frame, H.mid, B.r, B.w, B.x, B.af, B.ng, 0, H.level⟩ : HtD).soft, .int .i64 (⟨H.frame, H.mid, B.r, B.w, B.x, B.af, B.ng, 0, H.level⟩ : HtD).level], 62⟩ :: ⟨Z, #[.bool d.r, .bool d.w, .bool d.x, .bool d.af, .bool d.ng, .int .i64 d.soft, .bool H.r, .bool H.w, .bool H.x, .bool H.af, .bool H.ng, .int .i64 H.soft], 60⟩ :: ⟨A2, #[.int .i64 Y.f.kind, .int .i64 Y.f.stage, .int .i64 Y.f.level, .bool Y.f.walk, .int .i64 Y.f.page], 44⟩ :: ⟨R2, #[.int .i64 0, .int .i64 0, .int .i64 0, .bool false, .int .i64 0], 44⟩ :: ⟨D, #[.int .i64 d.kind, .int .i64 d.frame, .bool d.r, .bool d.w, .bool d.x, .bool d.af, .bool d.ng, .int .i64 d.soft, .int .i64 d.note], 100⟩ :: ⟨Wb, #[.slice p c.ws.length cap, ev1, dv1, .int .i64 c.pk.cpu, .bool c.pk.fill, .bool c.pk.mids, .bool c.pk.walk, .int .i64 c.pk.drop, .bool c.pk.use, .bool c.one.on, .int .i64 c.one.frame, .int .i64 c.one.tag, .bool c.two.on, .int .i64 c.two.frame, .int .i64 c.two.tag, .int .i64 (c.page : Int), .int .i64 c.acc, rv1], 73⟩ :: (he1 ++ hd1 ++ hr1)) ?_ (by (refine perm_cnt fun a => ?_; simp only [cntB_app, cntB_cons, cntB_nil] <;> omega))
    refine cStore (b := R2) (tb := 44) (cs := #[.int .i64 0, .int .i64 0, .int .i64 0, .bool false, .int .i64 0]) (cs' := #[.int .i64 Y.f.kind, .int .i64 Y.f.stage, .int .i64 Y.f.level, .bool Y.f.walk, .int .i64 Y.f.page]) (hp' := ⟨R1, #[.int .i64 (⟨H.frame, H.mid, B.r, B.w, B.x, B.af, B.ng, 0, H.level⟩ : HtD).frame, .int .i64 (⟨H.frame, H.mid, B.r, B.w, B.x, B.af, B.ng, 0, H.level⟩ : HtD).mid, .bool (⟨H.frame, H.mid, B.r, B.w, B.x, B.af, B.ng, 0, H.level⟩ : HtD).r, .bool (⟨H.frame, H.mid, B.r, B.w, B.x, B.af, B.ng, 0, H.level⟩ : HtD).w, .bool (⟨H.frame, H.mid, B.r, B.w, B.x, B.af, B.ng, 0, H.level⟩ : HtD).x, .bool (⟨H.frame, H.mid, B.r, B.w, B.x, B.af, B.ng, 0, H.level⟩ : HtD).af, .bool (⟨H.frame, H.mid, B.r, B.w, B.x, B.af, B.ng, 0, H.level⟩ : HtD).ng, .int .i64 (⟨H.frame, H.mid, B.r, B.w, B.x, B.af, B.ng, 0, H.level⟩ : HtD).soft, .int .i64 (⟨H.frame, H.mid, B.r, B.w, B.x, B.af, B.ng, 0, H.level⟩ : HtD).level], 62⟩ :: ⟨A1, #[.int .i64 (⟨H.frame, H.mid, B.r, B.w, B.x, B.af, B.ng, 0, H.level⟩ : HtD).frame, .int .i64 (⟨H.frame, H.mid, B.r, B.w, B.x, B.af, B.ng, 0, H.level⟩ : HtD).mid, .bool (⟨H.frame, H.mid, B.r, B.w, B.x, B.af, B.ng, 0, H.level⟩ : HtD).r, .bool (⟨H.frame, H.mid, B.r, B.w, B.x, B.af, B.ng, 0, H.level⟩ : HtD).w, .bool (⟨H.frame, H.mid, B.r, B.w, B.x, B.af, B.ng, 0, H.level⟩ : HtD).x, .bool (⟨H.frame, H.mid, B.r, B.w, B.x, B.af, B.ng, 0, H.level⟩ : HtD).af, .bool (⟨H.frame, H.mid, B.r, B.w, B.x, B.af, B.ng, 0, H.level⟩ : HtD).ng, .int .i64 (⟨H.frame, H.mid, B.r, B.w, B.x, B.af, B.ng, 0, H.level⟩ : HtD).soft, .int .i64 (⟨H.frame, H.mid, B.r, B.w, B.x, B.af, B.ng, 0, H.level⟩ : HtD).level], 62⟩ :: ⟨Z, #[.bool d.r, .bool d.w, .bool d.x, .bool d.af, .bool d.ng, .int .i64 d.soft, .bool H.r, .bool H.w, .bool H.x, .bool H.af, .bool H.ng, .int .i64 H.soft], 60⟩ :: ⟨A2, #[.int .i64 Y.f.kind, .int .i64 Y.f.stage, .int .i64 Y.f.level, .bool Y.f.walk, .int .i64 Y.f.page], 44⟩ :: ⟨D, #[.int .i64 d.kind, .int .i64 d.frame, .bool d.r, .bool d.w, .bool d.x, .bool d.af, .bool d.ng, .int .i64 d.soft, .int .i64 d.note], 100⟩ :: ⟨Wb, #[.slice p c.ws.length cap, ev1, dv1, .int .i64 c.pk.cpu, .bool c.pk.fill, .bool c.pk.mids, .bool c.pk.walk, .int .i64 c.pk.drop, .bool c.pk.use, .bool c.one.on, .int .i64 c.one.frame, .int .i64 c.one.tag, .bool c.two.on, .int .i64 c.two.frame, .int .i64 c.two.tag, .int .i64 (c.page : Int), .int .i64 c.acc, rv1], 73⟩ :: (he1 ++ hd1 ++ hr1)) ?_ (by (refine perm_cnt fun a => ?_; simp only [cntB_app, cntB_cons, cntB_nil] <;> omega))
    refine dc_nil ?_
    refine opsC ?_
    refine run ?_
    exact finAA2 (cs := #[.int .i64 (⟨H.frame, H.mid, B.r, B.w, B.x, B.af, B.ng, 0, H.level⟩ : HtD).frame, .int .i64 (⟨H.frame, H.mid, B.r, B.w, B.x, B.af, B.ng, 0, H.level⟩ : HtD).mid, .bool (⟨H.frame, H.mid, B.r, B.w, B.x, B.af, B.ng, 0, H.level⟩ : HtD).r, .bool (⟨H.frame, H.mid, B.r, B.w, B.x, B.af, B.ng, 0, H.level⟩ : HtD).w, .bool (⟨H.frame, H.mid, B.r, B.w, B.x, B.af, B.ng, 0, H.level⟩ : HtD).x, .bool (⟨H.frame, H.mid, B.r, B.w, B.x, B.af, B.ng, 0, H.level⟩ : HtD).af, .bool (⟨H.frame, H.mid, B.r, B.w, B.x, B.af, B.ng, 0, H.level⟩ : HtD).ng, .int .i64 (⟨H.frame, H.mid, B.r, B.w, B.x, B.af, B.ng, 0, H.level⟩ : HtD).soft, .int .i64 (⟨H.frame, H.mid, B.r, B.w, B.x, B.af, B.ng, 0, H.level⟩ : HtD).level]) (cs2 := #[.int .i64 Y.f.kind, .int .i64 Y.f.stage, .int .i64 Y.f.level, .bool Y.f.walk, .int .i64 Y.f.page]) ⟨⟨H.frame, H.mid, B.r, B.w, B.x, B.af, B.ng, 0, H.level⟩, Y, _, _, _, he1, hd1, hr1, rfl, rfl, hH1, fun h0 => ⟨(hH2 h0).1, rfl, by rw [← hB, (hH2 h0).2]⟩, h11, h21, h31, by (refine hpLe_cnt fun a => ?_; simp only [cntB_app, cntB_cons, cntB_nil] <;> omega)⟩
end Go.Proofs.YtdaenalnmdmflaaGreat
namespace Go.Proofs.YtdaenalnmdmflaaGreat
open Go.RowKit
set_option linter.unusedVariables false
set_option linter.unusedSimpArgs false
set_option maxRecDepth 20000
attribute [local irreducible] Hy St Ops DH DHF DE1 DE2 DE3 DS DCh DWF
def firstA (c : AcC) (s : AcS) : StR := bif c.pk.use && decide (0 ≤ walkI c s.es) then ⟨s, (s.es.getD (walkI c s.es).toNat default).frame, noFt⟩ else tblA c s c.one.frame.toNat 0
def firstL (c : AcC) (s : AcS) : Nat := bif c.pk.use && decide (0 ≤ walkI c s.es) then (s.es.getD (walkI c s.es).toNat default).level.toNat else 0
theorem wyFirst_e (c : AcC) (hk : AcOk c) (cap : Nat) (hcc : c.ws.length ≤ cap) {p : Option Addr} {w : World} {Wb : Nat} {ev dv rv : Value} {he hd hr : Hp} (s : AcS) (ds : List IvD) (hE : EsOk c.ws.length s.es ds)  (hrl : s.rd.length < 80000)
    (hm : Sees w (Wb :: (he ++ hd ++ hr).map (·.b)) (.slice p c.ws.length cap) 1 (c.ws.map uV)) (h1 : Own 88 14 ev he (s.es.map enV)) (h2 : Own 94 4 dv hd (ds.map ivV)) (h3 : Own 3 1 rv hr (s.rd.map inV)) (hN : HereN (⟨Wb, wyC c (.slice p c.ws.length cap) ev dv rv, 73⟩ :: (he ++ hd ++ hr)) w) :
    Fn Tryz.prog 88 [.pointer (some ⟨Wb, 0, none⟩)].toArray w (Wb :: (he ++ hd ++ hr).map (·.b)) (fun u hn => ∃ (lv : Int) (ev' dv' rv' : Value) (he' hd' hr' : Hp), u = .tuple #[.int .i64 (firstA c s).n, .int .i64 lv, ftV (firstA c s).f] ∧ ((firstA c s).f.kind = 0 → lv = (firstL c s : Int)) ∧ Own 88 14 ev' he' ((firstA c s).s.es.map enV) ∧ Own 94 4 dv' hd' (ds.map ivV) ∧ Own 3 1 rv' hr' ((firstA c s).s.rd.map inV) ∧ HpLe (⟨Wb, wyC c (.slice p c.ws.length cap) ev' dv' rv', 73⟩ :: (he' ++ hd' ++ hr')) hn) := by
  have hcap := h1.cap
  obtain ⟨qe, ce, ee⟩ := h1.opened
  obtain ⟨qd, cd, ed⟩ := h2.opened
  obtain ⟨qr, cr, er⟩ := h3.opened
  rw [List.length_map] at ee ed er
  subst ee ed er
  simp only [wyC] at hN ⊢
  have hmi := memOk_iff hk.mem
  have hem := hE.may
  have ho := RtD.may_iff hk.one
  have htw := RtD.may_iff hk.two
  refine enterM _ hN Tryz.func88 ?_
  refine run ?_
  intro F
  refine st_cutD (σ := Unit) (fun _ => []) (fun _ => ⟨F, #[.int .i64 0, .int .i64 0, .int .i64 0, .bool false, .int .i64 0], 44⟩ :: ⟨Wb, #[.slice p c.ws.length cap, .slice qe s.es.length ce, .slice qd ds.length cd, .int .i64 c.pk.cpu, .bool c.pk.fill, .bool c.pk.mids, .bool c.pk.walk, .int .i64 c.pk.drop, .bool c.pk.use, .bool c.one.on, .int .i64 c.one.frame, .int .i64 c.one.tag, .bool c.two.on, .int .i64 c.two.frame, .int .i64 c.two.tag, .int .i64 (c.page : Int), .int .i64 c.acc, .slice qr s.rd.length cr], 73⟩ :: (he ++ hd ++ hr)) (fun _ => (c.pk.use && decide (0 ≤ walkI c s.es)) = false) ?_ ?_
  · refine st_cond _ rfl (fun hc => ?_) (fun hc => ?_)
    · refine run ?_
      have hmm := fun {wc : World} (ha1 : SlAt wc (.slice qe s.es.length ce) 14 (s.es.map enV)) (hb1 : SlAt wc (.slice qd ds.length cd) 4 (ds.map ivV)) => tWalk_e ha1 hb1 hcap hE.tlb c.two.tag c.one.tag c.page (btwT htw.2.1 htw.2.2) (btwT ho.2.1 ho.2.2) hk.page
      rw [fndV_eq, show bestI s.es (pWlk c.two.tag c.one.tag c.page) s.es.length = walkI c s.es from rfl] at hmm
      obtain ⟨E, hEE⟩ : ∃ E, E = (bif decide (0 ≤ walkI c s.es) then s.es.getD (walkI c s.es).toNat default else default) := ⟨_, rfl⟩
      rw [← hEE] at hmm
      refine drawEC 24 23 [0, 1, 2, 3, 4, 5, 6, 7, 8, 9, 10, 11, 12, 13, 14, 15, 16, 17, 18, 19, 20, 21] [22] [23] (⟨F, #[.int .i64 0, .int .i64 0, .int .i64 0, .bool false, .int .i64 0], 44⟩ :: ⟨Wb, #[.slice p c.ws.length cap, .slice qe s.es.length ce, .slice qd ds.length cd, .int .i64 c.pk.cpu, .bool c.pk.fill, .bool c.pk.mids, .bool c.pk.walk, .int .i64 c.pk.drop, .bool c.pk.use, .bool c.one.on, .int .i64 c.one.frame, .int .i64 c.one.tag, .bool c.two.on, .int .i64 c.two.frame, .int .i64 c.two.tag, .int .i64 (c.page : Int), .int .i64 c.acc, .slice qr s.rd.length cr], 73⟩ :: (he ++ hd ++ hr)) ?_
      refine runZ ?_
      refine sCallA (fun wc hx hG => hmm (h1.lie (fun b hb => hG.here b (by simp [hb])) (by rw [List.length_map]; omega)) (h2.lie (fun b hb => hG.here b (by simp [hb])) (by rw [List.length_map]; omega))) ?_
      refine runZ ?_
      refine eAlloc ?_
      refine eNil ?_
      rintro _ _ ⟨X, rfl, rfl⟩
      simp only [DN, List.cons_append, List.nil_append, List.append_nil]
      refine cStore (b := X) (tb := 88) (cs := #[.int .i64 0, .int .i64 0, .int .i64 0, .bool false, .int .i64 0, .int .i64 0, .int .i64 0, .int .i64 0, .bool false, .bool false, .bool false, .bool false, .bool false, .int .i64 0]) (cs' := #[.int .i64 E.kind, .int .i64 E.vmid, .int .i64 E.asid, .bool E.all, .int .i64 E.page, .int .i64 E.level, .int .i64 E.frame, .int .i64 E.mid, .bool E.r, .bool E.w, .bool E.x, .bool E.af, .bool E.ng, .int .i64 E.soft]) (hp' := ⟨F, #[.int .i64 0, .int .i64 0, .int .i64 0, .bool false, .int .i64 0], 44⟩ :: ⟨Wb, #[.slice p c.ws.length cap, .slice qe s.es.length ce, .slice qd ds.length cd, .int .i64 c.pk.cpu, .bool c.pk.fill, .bool c.pk.mids, .bool c.pk.walk, .int .i64 c.pk.drop, .bool c.pk.use, .bool c.one.on, .int .i64 c.one.frame, .int .i64 c.one.tag, .bool c.two.on, .int .i64 c.two.frame, .int .i64 c.two.tag, .int .i64 (c.page : Int), .int .i64 c.acc, .slice qr s.rd.length cr], 73⟩ :: (he ++ hd ++ hr)) ?_ (by (refine perm_cnt fun a => ?_; simp only [cntB_app, cntB_cons, cntB_nil] <;> omega))
      refine dc_nil ?_
      refine opsC ?_
      refine run ?_
      refine st_cond _ rfl (fun hc2 => ?_) (fun hc2 => ?_)
      · have h0 : 0 ≤ walkI c s.es := by
          cases hq : decide (0 ≤ walkI c s.es) with
          | true => exact of_decide_eq_true hq
          | false => rw [hq] at hc2; simp at hc2
        have hA : firstA c s = ⟨s, E.frame, noFt⟩ := by rw [hEE]; simp only [firstA, hc, h0, decide_true, Bool.and_self, cond_true]
        have hL : firstL c s = E.level.toNat := by rw [hEE]; simp only [firstL, hc, h0, decide_true, Bool.and_self, cond_true]
        obtain ⟨_, hw2, hw3, _⟩ := walk_at hE h0
        simp only [h0, decide_true, cond_true] at hEE
        rw [← hEE] at hw2 hw3
        rw [hA, hL]
        refine run ?_
        refine dropS 2 ?_
        refine dropS 3 ?_
        refine drawC 8 7 [0, 1, 2, 3, 4, 5, 6] [7] (⟨X, #[.int .i64 E.kind, .int .i64 E.vmid, .int .i64 E.asid, .bool E.all, .int .i64 E.page, .int .i64 E.level, .int .i64 E.frame, .int .i64 E.mid, .bool E.r, .bool E.w, .bool E.x, .bool E.af, .bool E.ng, .int .i64 E.soft], 88⟩ :: ⟨Wb, #[.slice p c.ws.length cap, .slice qe s.es.length ce, .slice qd ds.length cd, .int .i64 c.pk.cpu, .bool c.pk.fill, .bool c.pk.mids, .bool c.pk.walk, .int .i64 c.pk.drop, .bool c.pk.use, .bool c.one.on, .int .i64 c.one.frame, .int .i64 c.one.tag, .bool c.two.on, .int .i64 c.two.frame, .int .i64 c.two.tag, .int .i64 (c.page : Int), .int .i64 c.acc, .slice qr s.rd.length cr], 73⟩ :: (he ++ hd ++ hr)) ?_
        refine runZ ?_
        refine cStore (b := F) (tb := 44) (cs := #[.int .i64 0, .int .i64 0, .int .i64 0, .bool false, .int .i64 0]) (cs' := #[.int .i64 0, .int .i64 0, .int .i64 0, .bool false, .int .i64 0]) (hp' := ⟨X, #[.int .i64 E.kind, .int .i64 E.vmid, .int .i64 E.asid, .bool E.all, .int .i64 E.page, .int .i64 E.level, .int .i64 E.frame, .int .i64 E.mid, .bool E.r, .bool E.w, .bool E.x, .bool E.af, .bool E.ng, .int .i64 E.soft], 88⟩ :: ⟨Wb, #[.slice p c.ws.length cap, .slice qe s.es.length ce, .slice qd ds.length cd, .int .i64 c.pk.cpu, .bool c.pk.fill, .bool c.pk.mids, .bool c.pk.walk, .int .i64 c.pk.drop, .bool c.pk.use, .bool c.one.on, .int .i64 c.one.frame, .int .i64 c.one.tag, .bool c.two.on, .int .i64 c.two.frame, .int .i64 c.two.tag, .int .i64 (c.page : Int), .int .i64 c.acc, .slice qr s.rd.length cr], 73⟩ :: (he ++ hd ++ hr)) ?_ (by (refine perm_cnt fun a => ?_; simp only [cntB_app, cntB_cons, cntB_nil] <;> omega))
        refine dc_nil ?_
        refine opsC ?_
        refine run ?_
        exact finTTA (v := .int .i64 E.frame) (v1 := .int .i64 E.level) (cs := #[.int .i64 0, .int .i64 0, .int .i64 0, .bool false, .int .i64 0]) ⟨E.level, _, _, _, he, hd, hr, rfl, fun _ => by omega, h1, h2, h3, by (refine hpLe_cnt fun a => ?_; simp only [cntB_app, cntB_cons, cntB_nil] <;> omega)⟩
      · refine run ?_
        exact meetS () (by
          rw [hc, Bool.true_and]
          cases hq : decide (0 ≤ walkI c s.es) with
          | false => rfl
          | true => rw [hq] at hc2; simp at hc2)
    · refine run ?_
      exact meetS () (by rw [hc]; rfl)
  rintro ⟨⟩ hcut
  have hA : firstA c s = tblA c s c.one.frame.toNat 0 := by simp only [firstA, hcut, cond_false]
  have hL : firstL c s = 0 := by simp only [firstL, hcut, cond_false]
  rw [hA, hL]
  have hT := fun (wc : World) (hG : HereN (⟨Wb, #[.slice p c.ws.length cap, .slice qe s.es.length ce, .slice qd ds.length cd, .int .i64 c.pk.cpu, .bool c.pk.fill, .bool c.pk.mids, .bool c.pk.walk, .int .i64 c.pk.drop, .bool c.pk.use, .bool c.one.on, .int .i64 c.one.frame, .int .i64 c.one.tag, .bool c.two.on, .int .i64 c.two.frame, .int .i64 c.two.tag, .int .i64 (c.page : Int), .int .i64 c.acc, .slice qr s.rd.length cr], 73⟩ :: (he ++ hd ++ hr)) wc) (hm : Sees wc (Wb :: (he ++ hd ++ hr).map (·.b)) (.slice p c.ws.length cap) 1 (c.ws.map uV)) => wyTable_e c hk cap hcc s ds c.one.frame.toNat 0 (by omega) (by omega) hE (by omega) hm h1 h2 h3 hG
  rw [show ((c.one.frame.toNat : Nat) : Int) = c.one.frame by omega] at hT
  refine run ?_
  refine callM (⟨Wb, #[.slice p c.ws.length cap, .slice qe s.es.length ce, .slice qd ds.length cd, .int .i64 c.pk.cpu, .bool c.pk.fill, .bool c.pk.mids, .bool c.pk.walk, .int .i64 c.pk.drop, .bool c.pk.use, .bool c.one.on, .int .i64 c.one.frame, .int .i64 c.one.tag, .bool c.two.on, .int .i64 c.two.frame, .int .i64 c.two.tag, .int .i64 (c.page : Int), .int .i64 c.acc, .slice qr s.rd.length cr], 73⟩ :: (he ++ hd ++ hr)) [⟨F, #[.int .i64 0, .int .i64 0, .int .i64 0, .bool false, .int .i64 0], 44⟩] (fun wc hG => hT wc hG.hereN (hm.into hG)) ?_ (by (refine perm_cnt fun a => ?_; simp only [cntB_app, cntB_cons, cntB_nil] <;> omega))
  rintro u1 hn1 ⟨lv, ev1, dv1, rv1, he1, hd1, hr1, rfl, hlv, h11, h21, h31, hle1⟩
  simp only [wyC] at hle1
  generalize tblA c s c.one.frame.toNat 0 = Y at hlv h11 h31 ⊢
  refine ops_le (⟨F, #[.int .i64 0, .int .i64 0, .int .i64 0, .bool false, .int .i64 0], 44⟩ :: ⟨Wb, #[.slice p c.ws.length cap, ev1, dv1, .int .i64 c.pk.cpu, .bool c.pk.fill, .bool c.pk.mids, .bool c.pk.walk, .int .i64 c.pk.drop, .bool c.pk.use, .bool c.one.on, .int .i64 c.one.frame, .int .i64 c.one.tag, .bool c.two.on, .int .i64 c.two.frame, .int .i64 c.two.tag, .int .i64 (c.page : Int), .int .i64 c.acc, rv1], 73⟩ :: (he1 ++ hd1 ++ hr1)) (by (refine hpLe_cnt fun a => ?_; have := HpLe.cnt hle1 a; simp only [cntB_app, cntB_cons, cntB_nil] at *; omega)) ?_
  refine run ?_
  exact finTTA (v := .int .i64 Y.n) (v1 := .int .i64 lv) (cs := #[.int .i64 Y.f.kind, .int .i64 Y.f.stage, .int .i64 Y.f.level, .bool Y.f.walk, .int .i64 Y.f.page]) ⟨lv, _, _, _, he1, hd1, hr1, rfl, fun h0 => hlv h0, h11, h21, h31, by (refine hpLe_cnt fun a => ?_; simp only [cntB_app, cntB_cons, cntB_nil] <;> omega)⟩
end Go.Proofs.YtdaenalnmdmflaaGreat
namespace Go.Proofs.YtdaenalnmdmflaaGreat
open Go.RowKit
set_option linter.unusedVariables false
set_option linter.unusedSimpArgs false
set_option maxRecDepth 20000
attribute [local irreducible] Hy St Ops DH DHF DE1 DE2 DE3 DS DCh DWF
def finM (c : AcC) (X : MdR) (M : Nat) (d : DsD) : StR := bif !decide (X.f.kind = 0) then ⟨X.s, 0, X.f⟩ else ⟨⟨bif c.pk.fill then fillL X.s.es (entH c X.n M d X.a) else X.s.es, X.s.rd⟩, X.n, noFt⟩
def stwA (c : AcC) (s : AcS) : StR := bif !decide ((firstA c s).f.kind = 0) then ⟨(firstA c s).s, 0, (firstA c s).f⟩ else stgA c (4 - firstL c s) (firstL c s) (firstA c s).n (firstA c s).s
theorem firstA_ok {c : AcC} (hk : AcOk c) {ds : List IvD} {s : AcS} (hE : EsOk c.ws.length s.es ds) : StOk c.ws.length ds 4 s (firstA c s).s ∧ ((firstA c s).f.kind = 0 → firstL c s < 4 ∧ hasF c.ws.length (firstA c s).n = true) := by
  unfold firstA firstL
  cases hc : (c.pk.use && decide (0 ≤ walkI c s.es)) with
  | true =>
    rw [Bool.and_eq_true] at hc
    obtain ⟨h1, h2, h3, h4⟩ := walk_at hE (of_decide_eq_true hc.2)
    simp only [cond_true]
    exact ⟨⟨hE, by simp⟩, fun _ => ⟨by omega, h4⟩⟩
  | false =>
    simp only [cond_false]
    have ho := RtD.may_iff hk.one
    obtain ⟨h1, h2⟩ := tblA_ok hk hE (mid := c.one.frame.toNat) (level := 0) (by omega) (by omega)
    exact ⟨h1, fun h0 => ⟨by omega, h2 h0⟩⟩
theorem leafA_fin (c : AcC) (s : AcS) (l : Nat) (d : DsD) : leafA c s l d = finM c (bif !decide ((flagL d.r d.w d.x d.af c.acc 1 l c.page).kind = 0) then ⟨s, 0, noAt, flagL d.r d.w d.x d.af c.acc 1 l c.page⟩ else midA c s (leafM c l d) c.acc) (leafM c l d) d := by
  unfold leafA finM
  cases hc : (!decide ((flagL d.r d.w d.x d.af c.acc 1 l c.page).kind = 0)) with
  | true => simp only [cond_true]; rw [hc]; rfl
  | false => rfl
theorem leafX_ok {c : AcC} (hk : AcOk c) {ds : List IvD} {s : AcS} (hE : EsOk c.ws.length s.es ds) {l : Nat} {d : DsD} (hM : leafM c l d ≤ 4095) {X : MdR} (hX : X = (bif !decide ((flagL d.r d.w d.x d.af c.acc 1 l c.page).kind = 0) then ⟨s, 0, noAt, flagL d.r d.w d.x d.af c.acc 1 l c.page⟩ else midA c s (leafM c l d) c.acc)) : EsOk c.ws.length X.s.es ds ∧ X.s.rd.length ≤ s.rd.length + 4 ∧ (X.f.kind = 0 → hasF c.ws.length X.n = true ∧ X.f = noFt) := by
  cases hc : (!decide ((flagL d.r d.w d.x d.af c.acc 1 l c.page).kind = 0)) with
  | true =>
    rw [hc] at hX
    subst hX
    exact ⟨hE, by simp, fun h0 => by simp at hc; exact absurd h0 hc⟩
  | false =>
    rw [hc] at hX
    subst hX
    obtain ⟨h1, h2⟩ := midA_ok hk hE hM c.acc
    exact ⟨h1.es, h1.rd, fun h0 => ⟨(h2 h0).1, (h2 h0).2.1⟩⟩
structure StgZ where
  fr : Int
  lv : Int
  f : FtD
  s : AcS
  ev : Value
  dv : Value
  rv : Value
  he : Hp
  hd : Hp
  hr : Hp
structure StgI (c : AcC) (ds : List IvD) (R : StR) (z : StgZ) : Prop where
  es : EsOk c.ws.length z.s.es ds
  rd : z.s.rd.length < 40000
  on : z.f.kind = 0 → ∃ L : Nat, z.lv = L ∧ L < 4 ∧ hasF c.ws.length z.fr = true ∧ z.s.rd.length + 6 * (4 - L) ≤ 2000 ∧ stgA c (4 - L) L z.fr z.s = R
  off : z.f.kind ≠ 0 → (⟨z.s, 0, z.f⟩ : StR) = R
  h1 : Own 88 14 z.ev z.he (z.s.es.map enV)
  h2 : Own 94 4 z.dv z.hd (ds.map ivV)
  h3 : Own 3 1 z.rv z.hr (z.s.rd.map inV)
theorem wyStage_e (c : AcC) (hk : AcOk c) (cap : Nat) (hcc : c.ws.length ≤ cap) {p : Option Addr} {w : World} {Wb : Nat} {ev dv rv : Value} {he hd hr : Hp} (s : AcS) (ds : List IvD) (hE : EsOk c.ws.length s.es ds)  (ha : PtD.btw c.acc 0 2 = true) (hrl : s.rd.length < 1000)
    (hm : Sees w (Wb :: (he ++ hd ++ hr).map (·.b)) (.slice p c.ws.length cap) 1 (c.ws.map uV)) (h1 : Own 88 14 ev he (s.es.map enV)) (h2 : Own 94 4 dv hd (ds.map ivV)) (h3 : Own 3 1 rv hr (s.rd.map inV)) (hN : HereN (⟨Wb, wyC c (.slice p c.ws.length cap) ev dv rv, 73⟩ :: (he ++ hd ++ hr)) w) :
    Fn Tryz.prog 62 [.pointer (some ⟨Wb, 0, none⟩)].toArray w (Wb :: (he ++ hd ++ hr).map (·.b)) (fun u hn => ∃ (H : HtD) (X : MdR) (M : Nat) (d : DsD) (ev' dv' rv' : Value) (he' hd' hr' : Hp), finM c X M d = stwA c s ∧ EsOk c.ws.length X.s.es ds ∧ X.s.rd.length < 50000 ∧ u = .tuple #[htV H, ftV X.f] ∧ H.frame = X.n ∧ (X.f.kind = 0 → M ≤ 4095 ∧ hasF c.ws.length X.n = true ∧ X.f = noFt ∧ H.mid = (M : Int) ∧ H.soft = 0 ∧ (⟨H.r, H.w, H.x, H.af, H.ng⟩ : AtD) = bothA ⟨d.r, d.w, d.x, d.af, d.ng⟩ X.a) ∧ Own 88 14 ev' he' (X.s.es.map enV) ∧ Own 94 4 dv' hd' (ds.map ivV) ∧ Own 3 1 rv' hr' (X.s.rd.map inV) ∧ HpLe (⟨Wb, wyC c (.slice p c.ws.length cap) ev' dv' rv', 73⟩ :: (he' ++ hd' ++ hr')) hn) := by
  simp only [wyC] at hN ⊢
  have hmi := memOk_iff hk.mem
  have hem := hE.may
  refine enterM _ hN Tryz.func62 ?_
  refine run ?_
  intro R1 R2
  refine callM (⟨Wb, #[.slice p c.ws.length cap, ev, dv, .int .i64 c.pk.cpu, .bool c.pk.fill, .bool c.pk.mids, .bool c.pk.walk, .int .i64 c.pk.drop, .bool c.pk.use, .bool c.one.on, .int .i64 c.one.frame, .int .i64 c.one.tag, .bool c.two.on, .int .i64 c.two.frame, .int .i64 c.two.tag, .int .i64 (c.page : Int), .int .i64 c.acc, rv], 73⟩ :: (he ++ hd ++ hr)) (⟨R2, #[.int .i64 0, .int .i64 0, .int .i64 0, .bool false, .int .i64 0], 44⟩ :: ⟨R1, #[.int .i64 0, .int .i64 0, .bool false, .bool false, .bool false, .bool false, .bool false, .int .i64 0, .int .i64 0], 62⟩ :: []) (fun wc hG => wyFirst_e c hk cap hcc s ds hE (by omega) (hm.into hG) h1 h2 h3 hG.hereN) ?_ (by (refine perm_cnt fun a => ?_; simp only [cntB_app, cntB_cons, cntB_nil] <;> omega))
  rintro u1 hn1 ⟨lv, ev1, dv1, rv1, he1, hd1, hr1, rfl, hlv, h11, h21, h31, hle1⟩
  simp only [wyC] at hle1
  refine ops_le (⟨R2, #[.int .i64 0, .int .i64 0, .int .i64 0, .bool false, .int .i64 0], 44⟩ :: ⟨R1, #[.int .i64 0, .int .i64 0, .bool false, .bool false, .bool false, .bool false, .bool false, .int .i64 0, .int .i64 0], 62⟩ :: ⟨Wb, #[.slice p c.ws.length cap, ev1, dv1, .int .i64 c.pk.cpu, .bool c.pk.fill, .bool c.pk.mids, .bool c.pk.walk, .int .i64 c.pk.drop, .bool c.pk.use, .bool c.one.on, .int .i64 c.one.frame, .int .i64 c.one.tag, .bool c.two.on, .int .i64 c.two.frame, .int .i64 c.two.tag, .int .i64 (c.page : Int), .int .i64 c.acc, rv1], 73⟩ :: (he1 ++ hd1 ++ hr1)) (by (refine hpLe_cnt fun a => ?_; have := HpLe.cnt hle1 a; simp only [cntB_app, cntB_cons, cntB_nil] at *; omega)) ?_
  obtain ⟨hFs, hFl⟩ := firstA_ok hk hE
  have hFr := hFs.rd
  refine run ?_
  intro F
  have hm' := hm
  refine loopS (σ := StgZ) (fun z => [(4, .int .i64 z.fr), (5, .int .i64 z.lv)]) (fun z => ⟨F, #[.int .i64 z.f.kind, .int .i64 z.f.stage, .int .i64 z.f.level, .bool z.f.walk, .int .i64 z.f.page], 44⟩ :: ⟨R2, #[.int .i64 0, .int .i64 0, .int .i64 0, .bool false, .int .i64 0], 44⟩ :: ⟨R1, #[.int .i64 0, .int .i64 0, .bool false, .bool false, .bool false, .bool false, .bool false, .int .i64 0, .int .i64 0], 62⟩ :: ⟨Wb, #[.slice p c.ws.length cap, z.ev, z.dv, .int .i64 c.pk.cpu, .bool c.pk.fill, .bool c.pk.mids, .bool c.pk.walk, .int .i64 c.pk.drop, .bool c.pk.use, .bool c.one.on, .int .i64 c.one.frame, .int .i64 c.one.tag, .bool c.two.on, .int .i64 c.two.frame, .int .i64 c.two.tag, .int .i64 (c.page : Int), .int .i64 c.acc, z.rv], 73⟩ :: (z.he ++ z.hd ++ z.hr)) (StgI c ds (stwA c s)) (fun z => bif decide (z.f.kind = 0) then 6 - z.lv.toNat else 0) ⟨(firstA c s).n, lv, (firstA c s).f, (firstA c s).s, ev1, dv1, rv1, he1, hd1, hr1⟩ ⟨hFs.es, by dsimp only; omega, fun h0 => ?_, fun h0 => ?_, h11, h21, h31⟩ ?_
  · obtain ⟨g1, g2⟩ := hFl h0
    exact ⟨firstL c s, hlv h0, g1, g2, by dsimp only; omega, by dsimp only; rw [stwA, show decide ((firstA c s).f.kind = 0) = true from decide_eq_true h0]; rfl⟩
  · dsimp only at h0 ⊢
    rw [stwA, show decide ((firstA c s).f.kind = 0) = false from decide_eq_false h0]; rfl
  rintro ⟨fr, lv, f, S, ev, dv, rv, he, hd, hr⟩ m hm ⟨hES, hrd, hon, hoff, h1, h2, h3⟩
  dsimp only at hm hES hrd hon hoff h1 h2 h3 ⊢
  refine run ?_
  refine st_cond _ rfl (fun hc => ?_) (fun hc => ?_)
  · have hf0 : f.kind = 0 := by simpa using hc
    obtain ⟨L, rfl, hl, hff, hrd1, hwk⟩ := hon hf0
    clear hon hoff
    generalize stwA c s = R at hwk ⊢
    refine run ?_
    intro T
    refine appendW (c := inV fr) (⟨T, #[.int .i64 fr], 3⟩ :: ⟨F, #[.int .i64 f.kind, .int .i64 f.stage, .int .i64 f.level, .bool f.walk, .int .i64 f.page], 44⟩ :: ⟨R2, #[.int .i64 0, .int .i64 0, .int .i64 0, .bool false, .int .i64 0], 44⟩ :: ⟨R1, #[.int .i64 0, .int .i64 0, .bool false, .bool false, .bool false, .bool false, .bool false, .int .i64 0, .int .i64 0], 62⟩ :: ⟨Wb, #[.slice p c.ws.length cap, ev, dv, .int .i64 c.pk.cpu, .bool c.pk.fill, .bool c.pk.mids, .bool c.pk.walk, .int .i64 c.pk.drop, .bool c.pk.use, .bool c.one.on, .int .i64 c.one.frame, .int .i64 c.one.tag, .bool c.two.on, .int .i64 c.two.frame, .int .i64 c.two.tag, .int .i64 (c.page : Int), .int .i64 c.acc, rv], 73⟩ :: (he ++ hd)) h3 (fun v' ha' hA' => ?_) (by simp; omega) (news_own (m := 1) mh rfl) (hperm := by (refine perm_cnt fun a => ?_; simp only [cntB_app, cntB_cons, cntB_nil] <;> omega))
    rw [show S.rd.map inV ++ [inV fr] = (S.rd ++ [fr]).map inV by simp] at hA'
    obtain ⟨q4, c4, e4⟩ := hA'.opened
    rw [List.length_map] at e4
    subst e4
    refine ops_le (⟨F, #[.int .i64 f.kind, .int .i64 f.stage, .int .i64 f.level, .bool f.walk, .int .i64 f.page], 44⟩ :: ⟨R2, #[.int .i64 0, .int .i64 0, .int .i64 0, .bool false, .int .i64 0], 44⟩ :: ⟨R1, #[.int .i64 0, .int .i64 0, .bool false, .bool false, .bool false, .bool false, .bool false, .int .i64 0, .int .i64 0], 62⟩ :: ⟨Wb, #[.slice p c.ws.length cap, ev, dv, .int .i64 c.pk.cpu, .bool c.pk.fill, .bool c.pk.mids, .bool c.pk.walk, .int .i64 c.pk.drop, .bool c.pk.use, .bool c.one.on, .int .i64 c.one.frame, .int .i64 c.one.tag, .bool c.two.on, .int .i64 c.two.frame, .int .i64 c.two.tag, .int .i64 (c.page : Int), .int .i64 c.acc, rv], 73⟩ :: (he ++ hd ++ ha')) (by (refine hpLe_cnt fun a => ?_; simp only [cntB_app, cntB_cons, cntB_nil] <;> omega)) ?_
    refine run ?_
    have hT := fun {wc : World} (h : SlAt wc (.slice p c.ws.length cap) 1 (c.ws.map uV)) => wTable_e c.ws hk.w64 cap hk.mem hcc h 1 (.inl rfl) L hl fr hff c.page hk.page
    have hmay := dSt_may c.ws 1 (atN fr L c.page) L
    rw [show 4 - L = (3 - L) + 1 by omega, stgA] at hwk
    generalize dSt c.ws 1 (atN fr L c.page) L = d at hwk hmay hT
    obtain ⟨hkk, hk0, hk1, hk2⟩ := may_kinds hmay
    refine drawEC 16 15 [0, 1, 2, 3, 4, 5, 6, 7, 8, 9, 10, 11, 12, 13] [14] [15] (⟨F, #[.int .i64 f.kind, .int .i64 f.stage, .int .i64 f.level, .bool f.walk, .int .i64 f.page], 44⟩ :: ⟨R2, #[.int .i64 0, .int .i64 0, .int .i64 0, .bool false, .int .i64 0], 44⟩ :: ⟨R1, #[.int .i64 0, .int .i64 0, .bool false, .bool false, .bool false, .bool false, .bool false, .int .i64 0, .int .i64 0], 62⟩ :: ⟨Wb, #[.slice p c.ws.length cap, ev, dv, .int .i64 c.pk.cpu, .bool c.pk.fill, .bool c.pk.mids, .bool c.pk.walk, .int .i64 c.pk.drop, .bool c.pk.use, .bool c.one.on, .int .i64 c.one.frame, .int .i64 c.one.tag, .bool c.two.on, .int .i64 c.two.frame, .int .i64 c.two.tag, .int .i64 (c.page : Int), .int .i64 c.acc, .slice q4 (S.rd ++ [fr]).length c4], 73⟩ :: (he ++ hd ++ ha')) ?_
    refine runZ ?_
    refine sCallA (fun wc hx hG => hT (hm'.good hG)) ?_
    refine runZ ?_
    refine eAlloc ?_
    refine eNil ?_
    rintro _ _ ⟨D, rfl, rfl⟩
    simp only [DN, List.cons_append, List.nil_append, List.append_nil]
    refine cStore (b := D) (tb := 100) (cs := #[.int .i64 0, .int .i64 0, .bool false, .bool false, .bool false, .bool false, .bool false, .int .i64 0, .int .i64 0]) (cs' := #[.int .i64 d.kind, .int .i64 d.frame, .bool d.r, .bool d.w, .bool d.x, .bool d.af, .bool d.ng, .int .i64 d.soft, .int .i64 d.note]) (hp' := ⟨F, #[.int .i64 f.kind, .int .i64 f.stage, .int .i64 f.level, .bool f.walk, .int .i64 f.page], 44⟩ :: ⟨R2, #[.int .i64 0, .int .i64 0, .int .i64 0, .bool false, .int .i64 0], 44⟩ :: ⟨R1, #[.int .i64 0, .int .i64 0, .bool false, .bool false, .bool false, .bool false, .bool false, .int .i64 0, .int .i64 0], 62⟩ :: ⟨Wb, #[.slice p c.ws.length cap, ev, dv, .int .i64 c.pk.cpu, .bool c.pk.fill, .bool c.pk.mids, .bool c.pk.walk, .int .i64 c.pk.drop, .bool c.pk.use, .bool c.one.on, .int .i64 c.one.frame, .int .i64 c.one.tag, .bool c.two.on, .int .i64 c.two.frame, .int .i64 c.two.tag, .int .i64 (c.page : Int), .int .i64 c.acc, .slice q4 (S.rd ++ [fr]).length c4], 73⟩ :: (he ++ hd ++ ha')) ?_ (by (refine perm_cnt fun a => ?_; simp only [cntB_app, cntB_cons, cntB_nil] <;> omega))
    refine dc_nil ?_
    refine opsC ?_
    refine run ?_
    refine st_cond _ rfl (fun hc2 => ?_) (fun hc2 => ?_)
    · have hdk2 : d.kind = 2 := by simpa using hc2
      obtain ⟨hlf, hlf2⟩ := leaf_mid hmay hdk2 hl c.page
      simp only [hdk2, show decide ((2 : Int) = 1) = false from rfl, show decide ((2 : Int) = 0) = false from rfl, cond_false] at hwk
      refine run ?_
      refine callM (⟨Wb, #[.slice p c.ws.length cap, ev, dv, .int .i64 c.pk.cpu, .bool c.pk.fill, .bool c.pk.mids, .bool c.pk.walk, .int .i64 c.pk.drop, .bool c.pk.use, .bool c.one.on, .int .i64 c.one.frame, .int .i64 c.one.tag, .bool c.two.on, .int .i64 c.two.frame, .int .i64 c.two.tag, .int .i64 (c.page : Int), .int .i64 c.acc, .slice q4 (S.rd ++ [fr]).length c4], 73⟩ :: (he ++ hd ++ ha')) (⟨D, #[.int .i64 d.kind, .int .i64 d.frame, .bool d.r, .bool d.w, .bool d.x, .bool d.af, .bool d.ng, .int .i64 d.soft, .int .i64 d.note], 100⟩ :: ⟨F, #[.int .i64 f.kind, .int .i64 f.stage, .int .i64 f.level, .bool f.walk, .int .i64 f.page], 44⟩ :: ⟨R2, #[.int .i64 0, .int .i64 0, .int .i64 0, .bool false, .int .i64 0], 44⟩ :: ⟨R1, #[.int .i64 0, .int .i64 0, .bool false, .bool false, .bool false, .bool false, .bool false, .int .i64 0, .int .i64 0], 62⟩ :: []) (fun wc hG => wyLeaf_e c hk cap hcc ⟨S.es, S.rd ++ [fr]⟩ ds hES ha L hl d hmay hdk2 (by dsimp only; simp only [List.length_append, List.length_singleton]; omega) (hm'.into hG) h1 h2 hA' hG.hereN) ?_ (by (refine perm_cnt fun a => ?_; simp only [cntB_app, cntB_cons, cntB_nil] <;> omega))
      rintro u1 hn1 ⟨H, X, ev2, dv2, rv2, he2, hd2, hr2, hX, rfl, hH1, hH2, h12, h22, h32, hle2⟩
      simp only [wyC] at hle2
      rw [leafA_fin, ← hX] at hwk
      obtain ⟨hX1, hX2, hX3⟩ := leafX_ok hk (s := ⟨S.es, S.rd ++ [fr]⟩) hES hlf hX
      simp only [List.length_append, List.length_singleton] at hX2
      refine ops_le (⟨R2, #[.int .i64 0, .int .i64 0, .int .i64 0, .bool false, .int .i64 0], 44⟩ :: ⟨R1, #[.int .i64 0, .int .i64 0, .bool false, .bool false, .bool false, .bool false, .bool false, .int .i64 0, .int .i64 0], 62⟩ :: ⟨Wb, #[.slice p c.ws.length cap, ev2, dv2, .int .i64 c.pk.cpu, .bool c.pk.fill, .bool c.pk.mids, .bool c.pk.walk, .int .i64 c.pk.drop, .bool c.pk.use, .bool c.one.on, .int .i64 c.one.frame, .int .i64 c.one.tag, .bool c.two.on, .int .i64 c.two.frame, .int .i64 c.two.tag, .int .i64 (c.page : Int), .int .i64 c.acc, rv2], 73⟩ :: (he2 ++ hd2 ++ hr2)) (by (refine hpLe_cnt fun a => ?_; have := HpLe.cnt hle2 a; simp only [cntB_app, cntB_cons, cntB_nil] at *; omega)) ?_
      refine run ?_
      exact finAA2 (cs := #[.int .i64 H.frame, .int .i64 H.mid, .bool H.r, .bool H.w, .bool H.x, .bool H.af, .bool H.ng, .int .i64 H.soft, .int .i64 H.level]) (cs2 := #[.int .i64 X.f.kind, .int .i64 X.f.stage, .int .i64 X.f.level, .bool X.f.walk, .int .i64 X.f.page]) ⟨H, X, leafM c L d, d, ev2, dv2, rv2, he2, hd2, hr2, hwk, hX1, by omega, rfl, hH1, fun h0 => ⟨hlf, (hX3 h0).1, (hX3 h0).2, hH2 h0⟩, h12, h22, h32, by (refine hpLe_cnt fun a => ?_; simp only [cntB_app, cntB_cons, cntB_nil] <;> omega)⟩
    refine run ?_
    refine st_cond _ rfl (fun hc3 => ?_) (fun hc3 => ?_)
    · have hdk0 : d.kind = 0 := by simpa using hc3
      simp only [hdk0, show decide ((0 : Int) = 1) = false from rfl, show decide ((0 : Int) = 0) = true from rfl, cond_false, cond_true] at hwk
      refine run ?_
      refine drawC 9 7 [0, 1, 2, 3, 4, 5, 6] [7, 8] (⟨D, #[.int .i64 d.kind, .int .i64 d.frame, .bool d.r, .bool d.w, .bool d.x, .bool d.af, .bool d.ng, .int .i64 d.soft, .int .i64 d.note], 100⟩ :: ⟨F, #[.int .i64 f.kind, .int .i64 f.stage, .int .i64 f.level, .bool f.walk, .int .i64 f.page], 44⟩ :: ⟨Wb, #[.slice p c.ws.length cap, ev, dv, .int .i64 c.pk.cpu, .bool c.pk.fill, .bool c.pk.mids, .bool c.pk.walk, .int .i64 c.pk.drop, .bool c.pk.use, .bool c.one.on, .int .i64 c.one.frame, .int .i64 c.one.tag, .bool c.two.on, .int .i64 c.two.frame, .int .i64 c.two.tag, .int .i64 (c.page : Int), .int .i64 c.acc, .slice q4 (S.rd ++ [fr]).length c4], 73⟩ :: (he ++ hd ++ ha')) ?_
      refine runZ ?_
      refine cStore (b := R1) (tb := 62) (cs := #[.int .i64 0, .int .i64 0, .bool false, .bool false, .bool false, .bool false, .bool false, .int .i64 0, .int .i64 0]) (cs' := #[.int .i64 0, .int .i64 0, .bool false, .bool false, .bool false, .bool false, .bool false, .int .i64 0, .int .i64 0]) (hp' := ⟨D, #[.int .i64 d.kind, .int .i64 d.frame, .bool d.r, .bool d.w, .bool d.x, .bool d.af, .bool d.ng, .int .i64 d.soft, .int .i64 d.note], 100⟩ :: ⟨F, #[.int .i64 f.kind, .int .i64 f.stage, .int .i64 f.level, .bool f.walk, .int .i64 f.page], 44⟩ :: ⟨R2, #[.int .i64 0, .int .i64 0, .int .i64 0, .bool false, .int .i64 0], 44⟩ :: ⟨Wb, #[.slice p c.ws.length cap, ev, dv, .int .i64 c.pk.cpu, .bool c.pk.fill, .bool c.pk.mids, .bool c.pk.walk, .int .i64 c.pk.drop, .bool c.pk.use, .bool c.one.on, .int .i64 c.one.frame, .int .i64 c.one.tag, .bool c.two.on, .int .i64 c.two.frame, .int .i64 c.two.tag, .int .i64 (c.page : Int), .int .i64 c.acc, .slice q4 (S.rd ++ [fr]).length c4], 73⟩ :: (he ++ hd ++ ha')) ?_ (by (refine perm_cnt fun a => ?_; simp only [cntB_app, cntB_cons, cntB_nil] <;> omega))
      refine cStore (b := R2) (tb := 44) (cs := #[.int .i64 0, .int .i64 0, .int .i64 0, .bool false, .int .i64 0]) (cs' := #[.int .i64 2, .int .i64 1, .int .i64 (L : Int), .bool false, .int .i64 (c.page : Int)]) (hp' := ⟨R1, #[.int .i64 0, .int .i64 0, .bool false, .bool false, .bool false, .bool false, .bool false, .int .i64 0, .int .i64 0], 62⟩ :: ⟨D, #[.int .i64 d.kind, .int .i64 d.frame, .bool d.r, .bool d.w, .bool d.x, .bool d.af, .bool d.ng, .int .i64 d.soft, .int .i64 d.note], 100⟩ :: ⟨F, #[.int .i64 f.kind, .int .i64 f.stage, .int .i64 f.level, .bool f.walk, .int .i64 f.page], 44⟩ :: ⟨Wb, #[.slice p c.ws.length cap, ev, dv, .int .i64 c.pk.cpu, .bool c.pk.fill, .bool c.pk.mids, .bool c.pk.walk, .int .i64 c.pk.drop, .bool c.pk.use, .bool c.one.on, .int .i64 c.one.frame, .int .i64 c.one.tag, .bool c.two.on, .int .i64 c.two.frame, .int .i64 c.two.tag, .int .i64 (c.page : Int), .int .i64 c.acc, .slice q4 (S.rd ++ [fr]).length c4], 73⟩ :: (he ++ hd ++ ha')) ?_ (by (refine perm_cnt fun a => ?_; simp only [cntB_app, cntB_cons, cntB_nil] <;> omega))
      refine dc_nil ?_
      refine opsC ?_
      refine run ?_
      exact finAA2 (cs := #[.int .i64 0, .int .i64 0, .bool false, .bool false, .bool false, .bool false, .bool false, .int .i64 0, .int .i64 0]) (cs2 := #[.int .i64 2, .int .i64 1, .int .i64 (L : Int), .bool false, .int .i64 (c.page : Int)]) ⟨⟨0, 0, false, false, false, false, false, 0, 0⟩, ⟨⟨S.es, S.rd ++ [fr]⟩, 0, noAt, ⟨2, 1, L, false, c.page⟩⟩, 0, default, _, _, _, he, hd, ha', hwk, hES, by dsimp only; simp only [List.length_append, List.length_singleton]; omega, rfl, rfl, fun h0 => by simp at h0, h1, h2, hA', by (refine hpLe_cnt fun a => ?_; simp only [cntB_app, cntB_cons, cntB_nil] <;> omega)⟩
    have hdk1 : d.kind = 1 := by simp at hc2 hc3; omega
    obtain ⟨k1, k2, k3, k4⟩ := hk1 hdk1
    simp only [hdk1, show decide ((1 : Int) = 1) = true from rfl, cond_true] at hwk
    have hcl := fun (wc : World) (hG : HereN (⟨Wb, #[.slice p c.ws.length cap, ev, dv, .int .i64 c.pk.cpu, .bool c.pk.fill, .bool c.pk.mids, .bool c.pk.walk, .int .i64 c.pk.drop, .bool c.pk.use, .bool c.one.on, .int .i64 c.one.frame, .int .i64 c.one.tag, .bool c.two.on, .int .i64 c.two.frame, .int .i64 c.two.tag, .int .i64 (c.page : Int), .int .i64 c.acc, .slice q4 (S.rd ++ [fr]).length c4], 73⟩ :: (he ++ hd ++ ha')) wc) (hm : Sees wc (Wb :: (he ++ hd ++ ha').map (·.b)) (.slice p c.ws.length cap) 1 (c.ws.map uV)) => wyTable_e c hk cap hcc ⟨S.es, S.rd ++ [fr]⟩ ds d.frame.toNat (L + 1) (by omega) (by omega) hES (by dsimp only; simp only [List.length_append, List.length_singleton]; omega) hm h1 h2 hA' hG
    rw [show ((d.frame.toNat : Nat) : Int) = d.frame by omega] at hcl
    refine run ?_
    refine callM (⟨Wb, #[.slice p c.ws.length cap, ev, dv, .int .i64 c.pk.cpu, .bool c.pk.fill, .bool c.pk.mids, .bool c.pk.walk, .int .i64 c.pk.drop, .bool c.pk.use, .bool c.one.on, .int .i64 c.one.frame, .int .i64 c.one.tag, .bool c.two.on, .int .i64 c.two.frame, .int .i64 c.two.tag, .int .i64 (c.page : Int), .int .i64 c.acc, .slice q4 (S.rd ++ [fr]).length c4], 73⟩ :: (he ++ hd ++ ha')) (⟨D, #[.int .i64 d.kind, .int .i64 d.frame, .bool d.r, .bool d.w, .bool d.x, .bool d.af, .bool d.ng, .int .i64 d.soft, .int .i64 d.note], 100⟩ :: ⟨F, #[.int .i64 f.kind, .int .i64 f.stage, .int .i64 f.level, .bool f.walk, .int .i64 f.page], 44⟩ :: ⟨R2, #[.int .i64 0, .int .i64 0, .int .i64 0, .bool false, .int .i64 0], 44⟩ :: ⟨R1, #[.int .i64 0, .int .i64 0, .bool false, .bool false, .bool false, .bool false, .bool false, .int .i64 0, .int .i64 0], 62⟩ :: []) (fun wc hG => hcl wc hG.hereN (hm'.into hG)) ?_ (by (refine perm_cnt fun a => ?_; simp only [cntB_app, cntB_cons, cntB_nil] <;> omega))
    rintro u1 hn1 ⟨lv2, ev2, dv2, rv2, he2, hd2, hr2, rfl, hlv2, h12, h22, h32, hle2⟩
    simp only [wyC] at hle2
    obtain ⟨hYs, hYf⟩ := tblA_ok hk (s := ⟨S.es, S.rd ++ [fr]⟩) hES (mid := d.frame.toNat) (level := L + 1) (by omega) (by omega)
    have hYr := hYs.rd
    simp only [List.length_append, List.length_singleton] at hYr
    generalize tblA c ⟨S.es, S.rd ++ [fr]⟩ d.frame.toNat (L + 1) = Y at hlv2 h12 h32 hYs hYf hYr hwk ⊢
    refine ops_le (⟨F, #[.int .i64 f.kind, .int .i64 f.stage, .int .i64 f.level, .bool f.walk, .int .i64 f.page], 44⟩ :: ⟨R2, #[.int .i64 0, .int .i64 0, .int .i64 0, .bool false, .int .i64 0], 44⟩ :: ⟨R1, #[.int .i64 0, .int .i64 0, .bool false, .bool false, .bool false, .bool false, .bool false, .int .i64 0, .int .i64 0], 62⟩ :: ⟨Wb, #[.slice p c.ws.length cap, ev2, dv2, .int .i64 c.pk.cpu, .bool c.pk.fill, .bool c.pk.mids, .bool c.pk.walk, .int .i64 c.pk.drop, .bool c.pk.use, .bool c.one.on, .int .i64 c.one.frame, .int .i64 c.one.tag, .bool c.two.on, .int .i64 c.two.frame, .int .i64 c.two.tag, .int .i64 (c.page : Int), .int .i64 c.acc, rv2], 73⟩ :: (he2 ++ hd2 ++ hr2)) (by (refine hpLe_cnt fun a => ?_; have := HpLe.cnt hle2 a; simp only [cntB_app, cntB_cons, cntB_nil] at *; omega)) ?_
    refine run ?_
    refine nextS (⟨Y.n, lv2, Y.f, Y.s, ev2, dv2, rv2, he2, hd2, hr2⟩ : StgZ) ⟨hYs.es, by dsimp only; omega, fun h0 => ?_, fun h0 => ?_, h12, h22, h32⟩ (hm := ?_) (h2 := by (refine hpLe_cnt fun a => ?_; simp only [cntB_app, cntB_cons, cntB_nil] <;> omega))
    · dsimp only at h0 ⊢
      rw [show decide (Y.f.kind = 0) = true from decide_eq_true h0] at hwk
      exact ⟨L + 1, hlv2 h0, by omega, hYf h0, by omega, by rw [show 4 - (L + 1) = 3 - L by omega]; exact hwk⟩
    · dsimp only at h0 ⊢
      rw [show decide (Y.f.kind = 0) = false from decide_eq_false h0] at hwk
      exact hwk
    · dsimp only
      rw [show decide (f.kind = 0) = true from decide_eq_true hf0, cond_true] at hm
      cases h0 : decide (Y.f.kind = 0) with
      | true => rw [cond_true, hlv2 (of_decide_eq_true h0)]; omega
      | false => rw [cond_false]; omega
  · have hf0 : f.kind ≠ 0 := by simpa using hc
    have hwk := hoff hf0
    refine run ?_
    refine drawC 4 2 [0, 1] [2, 3] (⟨F, #[.int .i64 f.kind, .int .i64 f.stage, .int .i64 f.level, .bool f.walk, .int .i64 f.page], 44⟩ :: ⟨Wb, #[.slice p c.ws.length cap, ev, dv, .int .i64 c.pk.cpu, .bool c.pk.fill, .bool c.pk.mids, .bool c.pk.walk, .int .i64 c.pk.drop, .bool c.pk.use, .bool c.one.on, .int .i64 c.one.frame, .int .i64 c.one.tag, .bool c.two.on, .int .i64 c.two.frame, .int .i64 c.two.tag, .int .i64 (c.page : Int), .int .i64 c.acc, rv], 73⟩ :: (he ++ hd ++ hr)) ?_
    refine runZ ?_
    refine cStore (b := R1) (tb := 62) (cs := #[.int .i64 0, .int .i64 0, .bool false, .bool false, .bool false, .bool false, .bool false, .int .i64 0, .int .i64 0]) (cs' := #[.int .i64 0, .int .i64 0, .bool false, .bool false, .bool false, .bool false, .bool false, .int .i64 0, .int .i64 0]) (hp' := ⟨F, #[.int .i64 f.kind, .int .i64 f.stage, .int .i64 f.level, .bool f.walk, .int .i64 f.page], 44⟩ :: ⟨R2, #[.int .i64 0, .int .i64 0, .int .i64 0, .bool false, .int .i64 0], 44⟩ :: ⟨Wb, #[.slice p c.ws.length cap, ev, dv, .int .i64 c.pk.cpu, .bool c.pk.fill, .bool c.pk.mids, .bool c.pk.walk, .int .i64 c.pk.drop, .bool c.pk.use, .bool c.one.on, .int .i64 c.one.frame, .int .i64 c.one.tag, .bool c.two.on, .int .i64 c.two.frame, .int .i64 c.two.tag, .int .i64 (c.page : Int), .int .i64 c.acc, rv], 73⟩ :: (he ++ hd ++ hr)) ?_ (by (refine perm_cnt fun a => ?_; simp only [cntB_app, cntB_cons, cntB_nil] <;> omega))
    refine cStore (b := R2) (tb := 44) (cs := #[.int .i64 0, .int .i64 0, .int .i64 0, .bool false, .int .i64 0]) (cs' := #[.int .i64 f.kind, .int .i64 f.stage, .int .i64 f.level, .bool f.walk, .int .i64 f.page]) (hp' := ⟨R1, #[.int .i64 0, .int .i64 0, .bool false, .bool false, .bool false, .bool false, .bool false, .int .i64 0, .int .i64 0], 62⟩ :: ⟨F, #[.int .i64 f.kind, .int .i64 f.stage, .int .i64 f.level, .bool f.walk, .int .i64 f.page], 44⟩ :: ⟨Wb, #[.slice p c.ws.length cap, ev, dv, .int .i64 c.pk.cpu, .bool c.pk.fill, .bool c.pk.mids, .bool c.pk.walk, .int .i64 c.pk.drop, .bool c.pk.use, .bool c.one.on, .int .i64 c.one.frame, .int .i64 c.one.tag, .bool c.two.on, .int .i64 c.two.frame, .int .i64 c.two.tag, .int .i64 (c.page : Int), .int .i64 c.acc, rv], 73⟩ :: (he ++ hd ++ hr)) ?_ (by (refine perm_cnt fun a => ?_; simp only [cntB_app, cntB_cons, cntB_nil] <;> omega))
    refine dc_nil ?_
    refine opsC ?_
    refine run ?_
    exact finAA2 (cs := #[.int .i64 0, .int .i64 0, .bool false, .bool false, .bool false, .bool false, .bool false, .int .i64 0, .int .i64 0]) (cs2 := #[.int .i64 f.kind, .int .i64 f.stage, .int .i64 f.level, .bool f.walk, .int .i64 f.page]) ⟨⟨0, 0, false, false, false, false, false, 0, 0⟩, ⟨S, 0, noAt, f⟩, 0, default, _, _, _, he, hd, hr, by rw [finM, show decide (f.kind = 0) = false from decide_eq_false hf0]; exact hwk, hES, by dsimp only; omega, rfl, rfl, fun h0 => absurd h0 hf0, h1, h2, h3, by (refine hpLe_cnt fun a => ?_; simp only [cntB_app, cntB_cons, cntB_nil] <;> omega)⟩
end Go.Proofs.YtdaenalnmdmflaaGreat
namespace Go.Proofs.YtdaenalnmdmflaaGreat
open Go.RowKit
set_option linter.unusedVariables false
set_option linter.unusedSimpArgs false
set_option maxRecDepth 20000
attribute [local irreducible] Hy St Ops DH DHF DE1 DE2 DE3 DS DCh DWF
theorem pageB_stw (c : AcC) (es : List EnD) : pageB c es = bif !c.one.on then ⟨(midA c ⟨es, []⟩ c.page c.acc).s, (midA c ⟨es, []⟩ c.page c.acc).n, (midA c ⟨es, []⟩ c.page c.acc).f⟩ else bif c.pk.use && decide (0 ≤ wholeI c es) then ⟨⟨es, []⟩, (es.getD (wholeI c es).toNat default).frame, noFt⟩ else stwA c ⟨es, []⟩ := by
  unfold pageB pageW stwA firstA firstL
  cases hc : (c.pk.use && decide (0 ≤ walkI c es)) with
  | true => simp only [hc, cond_true, noFt, decide_true, Bool.not_true, cond_false]
  | false =>
    simp only [hc, cond_false]
    rw [rootA]
theorem wyFrame_e (c : AcC) (hk : AcOk c) (cap : Nat) (hcc : c.ws.length ≤ cap) {p : Option Addr} {w : World} {Wb : Nat} {ev dv rv : Value} {he hd hr : Hp} (es : List EnD) (ds : List IvD) (hE : EsOk c.ws.length es ds) (ha : PtD.btw c.acc 0 2 = true)
    (hm : Sees w (Wb :: (he ++ hd ++ hr).map (·.b)) (.slice p c.ws.length cap) 1 (c.ws.map uV)) (h1 : Own 88 14 ev he ((⟨es, []⟩ : AcS).es.map enV)) (h2 : Own 94 4 dv hd (ds.map ivV)) (h3 : Own 3 1 rv hr ((⟨es, []⟩ : AcS).rd.map inV)) (hN : HereN (⟨Wb, wyC c (.slice p c.ws.length cap) ev dv rv, 73⟩ :: (he ++ hd ++ hr)) w) :
    Fn Tryz.prog 32 [.pointer (some ⟨Wb, 0, none⟩)].toArray w (Wb :: (he ++ hd ++ hr).map (·.b)) (fun u hn => ∃ (ev' dv' rv' : Value) (he' hd' hr' : Hp), u = .tuple #[.int .i64 (pageB c es).n, ftV (pageB c es).f] ∧ Own 88 14 ev' he' ((pageB c es).s.es.map enV) ∧ Own 94 4 dv' hd' (ds.map ivV) ∧ Own 3 1 rv' hr' ((pageB c es).s.rd.map inV) ∧ HpLe (⟨Wb, wyC c (.slice p c.ws.length cap) ev' dv' rv', 73⟩ :: (he' ++ hd' ++ hr')) hn) := by
  have hcap := h1.cap
  obtain ⟨qe, ce, ee⟩ := h1.opened
  obtain ⟨qd, cd, ed⟩ := h2.opened
  obtain ⟨qr, cr, er⟩ := h3.opened
  rw [List.length_map] at ee ed er
  subst ee ed er
  simp only [wyC] at hN ⊢
  have hmi := memOk_iff hk.mem
  have hem := hE.may
  have ho := RtD.may_iff hk.one
  have htw := RtD.may_iff hk.two
  have hm' := hm
  rw [pageB_stw]
  refine enterM _ hN Tryz.func32 ?_
  refine run ?_
  intro R
  refine run ?_
  refine st_cond _ rfl (fun hc => ?_) (fun hc => ?_)
  · rw [hc, cond_true]
    refine run ?_
    have hcall := fun (wc : World) (hG : HereN (⟨Wb, #[.slice p c.ws.length cap, .slice qe es.length ce, .slice qd ds.length cd, .int .i64 c.pk.cpu, .bool c.pk.fill, .bool c.pk.mids, .bool c.pk.walk, .int .i64 c.pk.drop, .bool c.pk.use, .bool c.one.on, .int .i64 c.one.frame, .int .i64 c.one.tag, .bool c.two.on, .int .i64 c.two.frame, .int .i64 c.two.tag, .int .i64 (c.page : Int), .int .i64 c.acc, .slice qr ([] : List Int).length cr], 73⟩ :: (he ++ hd ++ hr)) wc) (hm : Sees wc (Wb :: (he ++ hd ++ hr).map (·.b)) (.slice p c.ws.length cap) 1 (c.ws.map uV)) => wyMid_e c hk cap hcc ⟨es, []⟩ ds c.page hk.page c.acc ha hE (by simp) hm h1 h2 h3 hG
    refine drawEW 15 9 (⟨Wb, #[.slice p c.ws.length cap, .slice qe es.length ce, .slice qd ds.length cd, .int .i64 c.pk.cpu, .bool c.pk.fill, .bool c.pk.mids, .bool c.pk.walk, .int .i64 c.pk.drop, .bool c.pk.use, .bool c.one.on, .int .i64 c.one.frame, .int .i64 c.one.tag, .bool c.two.on, .int .i64 c.two.frame, .int .i64 c.two.tag, .int .i64 (c.page : Int), .int .i64 c.acc, .slice qr ([] : List Int).length cr], 73⟩ :: (he ++ hd ++ hr)) (⟨R, #[.int .i64 0, .int .i64 0, .int .i64 0, .bool false, .int .i64 0], 44⟩ :: []) [0, 1, 2, 3, 4, 5, 6, 7, 8] [9, 13, 14] [10, 11, 12] [] [15, 16] ?_
    refine runS ?_
    refine wCall (fun wc hG => hcall wc hG.hereN (hm.into hG)) (hcall w hN hm).some ?_
    refine wAlloc ?_
    refine wAlloc ?_
    refine wNil ?_
    rintro _ _ ⟨A2, rfl, rfl⟩ _ _ ⟨A1, rfl, rfl⟩ u1 hn1 ⟨H, ev1, dv1, rv1, he1, hd1, hr1, rfl, ⟨hH1, hH2⟩, h11, h21, h31, hle1⟩
    simp only [wyC] at hle1
    generalize midA c ⟨es, []⟩ c.page c.acc = Y at hH1 hH2 h11 h31 ⊢
    refine dMove ?_
    refine dExtract ?_
    refine dExtract ?_
    refine dNil ?_
    refine dNil ?_
    simp only [DN, List.cons_append, List.nil_append, List.append_nil]
    refine cStore (b := A1) (tb := 62) (cs := #[.int .i64 0, .int .i64 0, .bool false, .bool false, .bool false, .bool false, .bool false, .int .i64 0, .int .i64 0]) (cs' := #[.int .i64 H.frame, .int .i64 H.mid, .bool H.r, .bool H.w, .bool H.x, .bool H.af, .bool H.ng, .int .i64 H.soft, .int .i64 H.level]) (hp' := ⟨A2, #[.int .i64 0, .int .i64 0, .int .i64 0, .bool false, .int .i64 0], 44⟩ :: (hn1 ++ [⟨R, #[.int .i64 0, .int .i64 0, .int .i64 0, .bool false, .int .i64 0], 44⟩])) ?_ (by (refine perm_cnt fun a => ?_; simp only [cntB_app, cntB_cons, cntB_nil] <;> omega))
    refine cStore (b := A2) (tb := 44) (cs := #[.int .i64 0, .int .i64 0, .int .i64 0, .bool false, .int .i64 0]) (cs' := #[.int .i64 Y.f.kind, .int .i64 Y.f.stage, .int .i64 Y.f.level, .bool Y.f.walk, .int .i64 Y.f.page]) (hp' := ⟨A1, #[.int .i64 H.frame, .int .i64 H.mid, .bool H.r, .bool H.w, .bool H.x, .bool H.af, .bool H.ng, .int .i64 H.soft, .int .i64 H.level], 62⟩ :: (hn1 ++ [⟨R, #[.int .i64 0, .int .i64 0, .int .i64 0, .bool false, .int .i64 0], 44⟩])) ?_ (by (refine perm_cnt fun a => ?_; simp only [cntB_app, cntB_cons, cntB_nil] <;> omega))
    refine dc_nil ?_
    refine opsC ?_
    refine ops_le (⟨A2, #[.int .i64 Y.f.kind, .int .i64 Y.f.stage, .int .i64 Y.f.level, .bool Y.f.walk, .int .i64 Y.f.page], 44⟩ :: ⟨A1, #[.int .i64 H.frame, .int .i64 H.mid, .bool H.r, .bool H.w, .bool H.x, .bool H.af, .bool H.ng, .int .i64 H.soft, .int .i64 H.level], 62⟩ :: ⟨R, #[.int .i64 0, .int .i64 0, .int .i64 0, .bool false, .int .i64 0], 44⟩ :: ⟨Wb, #[.slice p c.ws.length cap, ev1, dv1, .int .i64 c.pk.cpu, .bool c.pk.fill, .bool c.pk.mids, .bool c.pk.walk, .int .i64 c.pk.drop, .bool c.pk.use, .bool c.one.on, .int .i64 c.one.frame, .int .i64 c.one.tag, .bool c.two.on, .int .i64 c.two.frame, .int .i64 c.two.tag, .int .i64 (c.page : Int), .int .i64 c.acc, rv1], 73⟩ :: (he1 ++ hd1 ++ hr1)) (by (refine hpLe_cnt fun a => ?_; have := HpLe.cnt hle1 a; simp only [cntB_app, cntB_cons, cntB_nil] at *; omega)) ?_
    refine run ?_
    refine dropS 2 ?_
    refine drawC 5 4 [0, 1, 2, 3] [4] (⟨A2, #[.int .i64 Y.f.kind, .int .i64 Y.f.stage, .int .i64 Y.f.level, .bool Y.f.walk, .int .i64 Y.f.page], 44⟩ :: ⟨A1, #[.int .i64 H.frame, .int .i64 H.mid, .bool H.r, .bool H.w, .bool H.x, .bool H.af, .bool H.ng, .int .i64 H.soft, .int .i64 H.level], 62⟩ :: ⟨Wb, #[.slice p c.ws.length cap, ev1, dv1, .int .i64 c.pk.cpu, .bool c.pk.fill, .bool c.pk.mids, .bool c.pk.walk, .int .i64 c.pk.drop, .bool c.pk.use, .bool c.one.on, .int .i64 c.one.frame, .int .i64 c.one.tag, .bool c.two.on, .int .i64 c.two.frame, .int .i64 c.two.tag, .int .i64 (c.page : Int), .int .i64 c.acc, rv1], 73⟩ :: (he1 ++ hd1 ++ hr1)) ?_
    refine runZ ?_
    refine cStore (b := R) (tb := 44) (cs := #[.int .i64 0, .int .i64 0, .int .i64 0, .bool false, .int .i64 0]) (cs' := #[.int .i64 Y.f.kind, .int .i64 Y.f.stage, .int .i64 Y.f.level, .bool Y.f.walk, .int .i64 Y.f.page]) (hp' := ⟨A2, #[.int .i64 Y.f.kind, .int .i64 Y.f.stage, .int .i64 Y.f.level, .bool Y.f.walk, .int .i64 Y.f.page], 44⟩ :: ⟨A1, #[.int .i64 H.frame, .int .i64 H.mid, .bool H.r, .bool H.w, .bool H.x, .bool H.af, .bool H.ng, .int .i64 H.soft, .int .i64 H.level], 62⟩ :: ⟨Wb, #[.slice p c.ws.length cap, ev1, dv1, .int .i64 c.pk.cpu, .bool c.pk.fill, .bool c.pk.mids, .bool c.pk.walk, .int .i64 c.pk.drop, .bool c.pk.use, .bool c.one.on, .int .i64 c.one.frame, .int .i64 c.one.tag, .bool c.two.on, .int .i64 c.two.frame, .int .i64 c.two.tag, .int .i64 (c.page : Int), .int .i64 c.acc, rv1], 73⟩ :: (he1 ++ hd1 ++ hr1)) ?_ (by (refine perm_cnt fun a => ?_; simp only [cntB_app, cntB_cons, cntB_nil] <;> omega))
    refine dc_nil ?_
    refine opsC ?_
    refine run ?_
    exact finTA (v := .int .i64 H.frame) (cs := #[.int .i64 Y.f.kind, .int .i64 Y.f.stage, .int .i64 Y.f.level, .bool Y.f.walk, .int .i64 Y.f.page]) ⟨_, _, _, he1, hd1, hr1, by rw [hH1], h11, h21, h31, by (refine hpLe_cnt fun a => ?_; simp only [cntB_app, cntB_cons, cntB_nil] <;> omega)⟩
  rw [hc, cond_false]
  refine run ?_
  refine st_cutD (σ := Unit) (fun _ => []) (fun _ => ⟨R, #[.int .i64 0, .int .i64 0, .int .i64 0, .bool false, .int .i64 0], 44⟩ :: ⟨Wb, #[.slice p c.ws.length cap, .slice qe es.length ce, .slice qd ds.length cd, .int .i64 c.pk.cpu, .bool c.pk.fill, .bool c.pk.mids, .bool c.pk.walk, .int .i64 c.pk.drop, .bool c.pk.use, .bool c.one.on, .int .i64 c.one.frame, .int .i64 c.one.tag, .bool c.two.on, .int .i64 c.two.frame, .int .i64 c.two.tag, .int .i64 (c.page : Int), .int .i64 c.acc, .slice qr ([] : List Int).length cr], 73⟩ :: (he ++ hd ++ hr)) (fun _ => (c.pk.use && decide (0 ≤ wholeI c es)) = false) ?_ ?_
  · refine st_cond _ rfl (fun hc1 => ?_) (fun hc1 => ?_)
    · refine run ?_
      have hmm := fun {wc : World} (ha1 : SlAt wc (.slice qe es.length ce) 14 (es.map enV)) (hb1 : SlAt wc (.slice qd ds.length cd) 4 (ds.map ivV)) => tWhole_e ha1 hb1 hcap hE.tlb c.two.tag c.one.tag c.page c.acc (btwT htw.2.1 htw.2.2) (btwT ho.2.1 ho.2.2) hk.page ha
      rw [fndV_eq, show idxI (pWhole c.two.tag c.one.tag c.page c.acc) es = wholeI c es from rfl] at hmm
      obtain ⟨E, hEE⟩ : ∃ E, E = (bif decide (0 ≤ wholeI c es) then es.getD (wholeI c es).toNat default else default) := ⟨_, rfl⟩
      rw [← hEE] at hmm
      refine drawEC 28 27 [0, 1, 2, 3, 4, 5, 6, 7, 8, 9, 10, 11, 12, 13, 14, 15, 16, 17, 18, 19, 20, 21, 22, 23, 24, 25] [26] [27] (⟨R, #[.int .i64 0, .int .i64 0, .int .i64 0, .bool false, .int .i64 0], 44⟩ :: ⟨Wb, #[.slice p c.ws.length cap, .slice qe es.length ce, .slice qd ds.length cd, .int .i64 c.pk.cpu, .bool c.pk.fill, .bool c.pk.mids, .bool c.pk.walk, .int .i64 c.pk.drop, .bool c.pk.use, .bool c.one.on, .int .i64 c.one.frame, .int .i64 c.one.tag, .bool c.two.on, .int .i64 c.two.frame, .int .i64 c.two.tag, .int .i64 (c.page : Int), .int .i64 c.acc, .slice qr ([] : List Int).length cr], 73⟩ :: (he ++ hd ++ hr)) ?_
      refine runZ ?_
      refine sCallA (fun wc hx hG => hmm (h1.lie (fun b hb => hG.here b (by simp [hb])) (by rw [List.length_map]; dsimp only; omega)) (h2.lie (fun b hb => hG.here b (by simp [hb])) (by rw [List.length_map]; omega))) ?_
      refine runZ ?_
      refine eAlloc ?_
      refine eNil ?_
      rintro _ _ ⟨X, rfl, rfl⟩
      simp only [DN, List.cons_append, List.nil_append, List.append_nil]
      refine cStore (b := X) (tb := 88) (cs := #[.int .i64 0, .int .i64 0, .int .i64 0, .bool false, .int .i64 0, .int .i64 0, .int .i64 0, .int .i64 0, .bool false, .bool false, .bool false, .bool false, .bool false, .int .i64 0]) (cs' := #[.int .i64 E.kind, .int .i64 E.vmid, .int .i64 E.asid, .bool E.all, .int .i64 E.page, .int .i64 E.level, .int .i64 E.frame, .int .i64 E.mid, .bool E.r, .bool E.w, .bool E.x, .bool E.af, .bool E.ng, .int .i64 E.soft]) (hp' := ⟨R, #[.int .i64 0, .int .i64 0, .int .i64 0, .bool false, .int .i64 0], 44⟩ :: ⟨Wb, #[.slice p c.ws.length cap, .slice qe es.length ce, .slice qd ds.length cd, .int .i64 c.pk.cpu, .bool c.pk.fill, .bool c.pk.mids, .bool c.pk.walk, .int .i64 c.pk.drop, .bool c.pk.use, .bool c.one.on, .int .i64 c.one.frame, .int .i64 c.one.tag, .bool c.two.on, .int .i64 c.two.frame, .int .i64 c.two.tag, .int .i64 (c.page : Int), .int .i64 c.acc, .slice qr ([] : List Int).length cr], 73⟩ :: (he ++ hd ++ hr)) ?_ (by (refine perm_cnt fun a => ?_; simp only [cntB_app, cntB_cons, cntB_nil] <;> omega))
      refine dc_nil ?_
      refine opsC ?_
      refine run ?_
      refine st_cond _ rfl (fun hc2 => ?_) (fun hc2 => ?_)
      · have h0 : 0 ≤ wholeI c es := by
          cases hq : decide (0 ≤ wholeI c es) with
          | true => exact of_decide_eq_true hq
          | false => rw [hq] at hc2; simp at hc2
        simp only [h0, decide_true, cond_true] at hEE
        rw [show (c.pk.use && decide (0 ≤ wholeI c es)) = true by rw [hc1, decide_eq_true h0]; rfl, cond_true, ← hEE]
        refine run ?_
        exact finTA (v := .int .i64 E.frame) (cs := #[.int .i64 0, .int .i64 0, .int .i64 0, .bool false, .int .i64 0]) ⟨_, _, _, he, hd, hr, rfl, h1, h2, h3, by (refine hpLe_cnt fun a => ?_; simp only [cntB_app, cntB_cons, cntB_nil] <;> omega)⟩
      · refine run ?_
        exact meetS () (by
          rw [hc1, Bool.true_and]
          cases hq : decide (0 ≤ wholeI c es) with
          | false => rfl
          | true => rw [hq] at hc2; simp at hc2)
    · refine run ?_
      exact meetS () (by rw [hc1]; rfl)
  rintro ⟨⟩ hcut
  rw [hcut, cond_false]
  refine run ?_
  refine callM (⟨Wb, #[.slice p c.ws.length cap, .slice qe es.length ce, .slice qd ds.length cd, .int .i64 c.pk.cpu, .bool c.pk.fill, .bool c.pk.mids, .bool c.pk.walk, .int .i64 c.pk.drop, .bool c.pk.use, .bool c.one.on, .int .i64 c.one.frame, .int .i64 c.one.tag, .bool c.two.on, .int .i64 c.two.frame, .int .i64 c.two.tag, .int .i64 (c.page : Int), .int .i64 c.acc, .slice qr ([] : List Int).length cr], 73⟩ :: (he ++ hd ++ hr)) [⟨R, #[.int .i64 0, .int .i64 0, .int .i64 0, .bool false, .int .i64 0], 44⟩] (fun wc hG => wyStage_e c hk cap hcc ⟨es, []⟩ ds hE ha (by simp) (hm.into hG) h1 h2 h3 hG.hereN) ?_ (by (refine perm_cnt fun a => ?_; simp only [cntB_app, cntB_cons, cntB_nil] <;> omega))
  rintro u1 hn1 ⟨H, X, M, d, ev1, dv1, rv1, he1, hd1, hr1, hX, hXE, hXr, rfl, hH1, hH2, h11, h21, h31, hle1⟩
  simp only [wyC] at hle1
  refine ops_le (⟨R, #[.int .i64 0, .int .i64 0, .int .i64 0, .bool false, .int .i64 0], 44⟩ :: ⟨Wb, #[.slice p c.ws.length cap, ev1, dv1, .int .i64 c.pk.cpu, .bool c.pk.fill, .bool c.pk.mids, .bool c.pk.walk, .int .i64 c.pk.drop, .bool c.pk.use, .bool c.one.on, .int .i64 c.one.frame, .int .i64 c.one.tag, .bool c.two.on, .int .i64 c.two.frame, .int .i64 c.two.tag, .int .i64 (c.page : Int), .int .i64 c.acc, rv1], 73⟩ :: (he1 ++ hd1 ++ hr1)) (by (refine hpLe_cnt fun a => ?_; have := HpLe.cnt hle1 a; simp only [cntB_app, cntB_cons, cntB_nil] at *; omega)) ?_
  refine run ?_
  intro HB F
  refine st_cond _ rfl (fun hc3 => ?_) (fun hc3 => ?_)
  · rw [← hX, finM, hc3, cond_true]
    refine run ?_
    refine dropS 2 ?_
    refine drawC 3 2 [0, 1] [2] (⟨F, #[.int .i64 X.f.kind, .int .i64 X.f.stage, .int .i64 X.f.level, .bool X.f.walk, .int .i64 X.f.page], 44⟩ :: ⟨HB, #[.int .i64 H.frame, .int .i64 H.mid, .bool H.r, .bool H.w, .bool H.x, .bool H.af, .bool H.ng, .int .i64 H.soft, .int .i64 H.level], 62⟩ :: ⟨Wb, #[.slice p c.ws.length cap, ev1, dv1, .int .i64 c.pk.cpu, .bool c.pk.fill, .bool c.pk.mids, .bool c.pk.walk, .int .i64 c.pk.drop, .bool c.pk.use, .bool c.one.on, .int .i64 c.one.frame, .int .i64 c.one.tag, .bool c.two.on, .int .i64 c.two.frame, .int .i64 c.two.tag, .int .i64 (c.page : Int), .int .i64 c.acc, rv1], 73⟩ :: (he1 ++ hd1 ++ hr1)) ?_
    refine runZ ?_
    refine cStore (b := R) (tb := 44) (cs := #[.int .i64 0, .int .i64 0, .int .i64 0, .bool false, .int .i64 0]) (cs' := #[.int .i64 X.f.kind, .int .i64 X.f.stage, .int .i64 X.f.level, .bool X.f.walk, .int .i64 X.f.page]) (hp' := ⟨F, #[.int .i64 X.f.kind, .int .i64 X.f.stage, .int .i64 X.f.level, .bool X.f.walk, .int .i64 X.f.page], 44⟩ :: ⟨HB, #[.int .i64 H.frame, .int .i64 H.mid, .bool H.r, .bool H.w, .bool H.x, .bool H.af, .bool H.ng, .int .i64 H.soft, .int .i64 H.level], 62⟩ :: ⟨Wb, #[.slice p c.ws.length cap, ev1, dv1, .int .i64 c.pk.cpu, .bool c.pk.fill, .bool c.pk.mids, .bool c.pk.walk, .int .i64 c.pk.drop, .bool c.pk.use, .bool c.one.on, .int .i64 c.one.frame, .int .i64 c.one.tag, .bool c.two.on, .int .i64 c.two.frame, .int .i64 c.two.tag, .int .i64 (c.page : Int), .int .i64 c.acc, rv1], 73⟩ :: (he1 ++ hd1 ++ hr1)) ?_ (by (refine perm_cnt fun a => ?_; simp only [cntB_app, cntB_cons, cntB_nil] <;> omega))
    refine dc_nil ?_
    refine opsC ?_
    refine run ?_
    exact finTA (v := .int .i64 0) (cs := #[.int .i64 X.f.kind, .int .i64 X.f.stage, .int .i64 X.f.level, .bool X.f.walk, .int .i64 X.f.page]) ⟨_, _, _, he1, hd1, hr1, rfl, h11, h21, h31, by (refine hpLe_cnt fun a => ?_; simp only [cntB_app, cntB_cons, cntB_nil] <;> omega)⟩
  have hf0 : X.f.kind = 0 := by simpa using hc3
  obtain ⟨hM, hXn, hXno, hHm, hHs, hHa⟩ := hH2 hf0
  have hEq : enV (entH c H.frame M d X.a) = [.int .i64 1, .int .i64 c.two.tag, .int .i64 c.one.tag, .bool !H.ng, .int .i64 (c.page : Int), .int .i64 0, .int .i64 H.frame, .int .i64 H.mid, .bool H.r, .bool H.w, .bool H.x, .bool H.af, .bool H.ng, .int .i64 H.soft] := by
    rw [AtD.mk.injEq] at hHa
    obtain ⟨e1, e2, e3, e4, e5⟩ := hHa
    rw [hHm, hHs, e1, e2, e3, e4, e5]
    rfl
  rw [← hX, finM, hc3, cond_false]
  refine run ?_
  obtain ⟨es', hes⟩ : ∃ es', es' = (bif c.pk.fill then fillL X.s.es (entH c X.n M d X.a) else X.s.es) := ⟨_, rfl⟩
  rw [← hes]
  have hXm := hXE.may
  refine st_cutD (σ := Value × Value × Hp × Hp) (fun _ => []) (fun z => ⟨F, #[.int .i64 X.f.kind, .int .i64 X.f.stage, .int .i64 X.f.level, .bool X.f.walk, .int .i64 X.f.page], 44⟩ :: ⟨HB, #[.int .i64 H.frame, .int .i64 H.mid, .bool H.r, .bool H.w, .bool H.x, .bool H.af, .bool H.ng, .int .i64 H.soft, .int .i64 H.level], 62⟩ :: ⟨R, #[.int .i64 0, .int .i64 0, .int .i64 0, .bool false, .int .i64 0], 44⟩ :: ⟨Wb, #[.slice p c.ws.length cap, z.1, z.2.1, .int .i64 c.pk.cpu, .bool c.pk.fill, .bool c.pk.mids, .bool c.pk.walk, .int .i64 c.pk.drop, .bool c.pk.use, .bool c.one.on, .int .i64 c.one.frame, .int .i64 c.one.tag, .bool c.two.on, .int .i64 c.two.frame, .int .i64 c.two.tag, .int .i64 (c.page : Int), .int .i64 c.acc, rv1], 73⟩ :: (z.2.2.1 ++ z.2.2.2 ++ hr1)) (fun z => Own 88 14 z.1 z.2.2.1 (es'.map enV) ∧ Own 94 4 z.2.1 z.2.2.2 (ds.map ivV)) ?_ ?_
  · refine st_cond _ rfl (fun hc4 => ?_) (fun hc4 => ?_)
    · rw [hc4, cond_true] at hes
      subst hes
      have hF := fun (wc : World) (hG : HereN (⟨Wb, #[.slice p c.ws.length cap, ev1, dv1, .int .i64 c.pk.cpu, .bool c.pk.fill, .bool c.pk.mids, .bool c.pk.walk, .int .i64 c.pk.drop, .bool c.pk.use, .bool c.one.on, .int .i64 c.one.frame, .int .i64 c.one.tag, .bool c.two.on, .int .i64 c.two.frame, .int .i64 c.two.tag, .int .i64 (c.page : Int), .int .i64 c.acc, rv1], 73⟩ :: (he1 ++ hd1 ++ hr1)) wc) => wyFill_e c X.s.es ds hXE.tlb (entH c H.frame M d X.a) (entH_may hk hM (by rw [hH1]; exact hXn)) ⟨_, _, _, rfl⟩ ⟨_, _, _, h31.opened.choose_spec.choose_spec⟩ h11 h21 hG
      rw [hEq] at hF
      refine run ?_
      refine drawN 26 ?_
      refine runD ?_
      refine callM (⟨Wb, #[.slice p c.ws.length cap, ev1, dv1, .int .i64 c.pk.cpu, .bool c.pk.fill, .bool c.pk.mids, .bool c.pk.walk, .int .i64 c.pk.drop, .bool c.pk.use, .bool c.one.on, .int .i64 c.one.frame, .int .i64 c.one.tag, .bool c.two.on, .int .i64 c.two.frame, .int .i64 c.two.tag, .int .i64 (c.page : Int), .int .i64 c.acc, rv1], 73⟩ :: (he1 ++ hd1 ++ hr1)) (⟨F, #[.int .i64 X.f.kind, .int .i64 X.f.stage, .int .i64 X.f.level, .bool X.f.walk, .int .i64 X.f.page], 44⟩ :: ⟨HB, #[.int .i64 H.frame, .int .i64 H.mid, .bool H.r, .bool H.w, .bool H.x, .bool H.af, .bool H.ng, .int .i64 H.soft, .int .i64 H.level], 62⟩ :: ⟨R, #[.int .i64 0, .int .i64 0, .int .i64 0, .bool false, .int .i64 0], 44⟩ :: []) (fun wc hG => hF wc hG.hereN) ?_ (by (refine perm_cnt fun a => ?_; simp only [cntB_app, cntB_cons, cntB_nil] <;> omega))
      rintro u7 hn7 ⟨ev7, dv7, he7, hd7, rfl, h17, h27, hle7⟩
      simp only [wyC] at hle7
      rw [hH1] at h17
      refine run ?_
      exact meetS (ev7, dv7, he7, hd7) ⟨h17, h27⟩ (h2 := by (refine hpLe_cnt fun a => ?_; have := HpLe.cnt hle7 a; simp only [cntB_app, cntB_cons, cntB_nil] at *; omega))
    · rw [hc4, cond_false] at hes
      subst hes
      refine run ?_
      exact meetS (ev1, dv1, he1, hd1) ⟨h11, h21⟩ (h2 := by (refine hpLe_cnt fun a => ?_; simp only [cntB_app, cntB_cons, cntB_nil] <;> omega))
  rintro ⟨ev2, dv2, he2, hd2⟩ ⟨h1', h2'⟩
  dsimp only at h1' h2' ⊢
  refine run ?_
  refine dropS 2 ?_
  refine drawC 5 4 [0, 1, 2, 3] [4] (⟨F, #[.int .i64 X.f.kind, .int .i64 X.f.stage, .int .i64 X.f.level, .bool X.f.walk, .int .i64 X.f.page], 44⟩ :: ⟨HB, #[.int .i64 H.frame, .int .i64 H.mid, .bool H.r, .bool H.w, .bool H.x, .bool H.af, .bool H.ng, .int .i64 H.soft, .int .i64 H.level], 62⟩ :: ⟨Wb, #[.slice p c.ws.length cap, ev2, dv2, .int .i64 c.pk.cpu, .bool c.pk.fill, .bool c.pk.mids, .bool c.pk.walk, .int .i64 c.pk.drop, .bool c.pk.use, .bool c.one.on, .int .i64 c.one.frame, .int .i64 c.one.tag, .bool c.two.on, .int .i64 c.two.frame, .int .i64 c.two.tag, .int .i64 (c.page : Int), .int .i64 c.acc, rv1], 73⟩ :: (he2 ++ hd2 ++ hr1)) ?_
  refine runZ ?_
  refine cStore (b := R) (tb := 44) (cs := #[.int .i64 0, .int .i64 0, .int .i64 0, .bool false, .int .i64 0]) (cs' := #[.int .i64 X.f.kind, .int .i64 X.f.stage, .int .i64 X.f.level, .bool X.f.walk, .int .i64 X.f.page]) (hp' := ⟨F, #[.int .i64 X.f.kind, .int .i64 X.f.stage, .int .i64 X.f.level, .bool X.f.walk, .int .i64 X.f.page], 44⟩ :: ⟨HB, #[.int .i64 H.frame, .int .i64 H.mid, .bool H.r, .bool H.w, .bool H.x, .bool H.af, .bool H.ng, .int .i64 H.soft, .int .i64 H.level], 62⟩ :: ⟨Wb, #[.slice p c.ws.length cap, ev2, dv2, .int .i64 c.pk.cpu, .bool c.pk.fill, .bool c.pk.mids, .bool c.pk.walk, .int .i64 c.pk.drop, .bool c.pk.use, .bool c.one.on, .int .i64 c.one.frame, .int .i64 c.one.tag, .bool c.two.on, .int .i64 c.two.frame, .int .i64 c.two.tag, .int .i64 (c.page : Int), .int .i64 c.acc, rv1], 73⟩ :: (he2 ++ hd2 ++ hr1)) ?_ (by (refine perm_cnt fun a => ?_; simp only [cntB_app, cntB_cons, cntB_nil] <;> omega))
  refine dc_nil ?_
  refine opsC ?_
  refine run ?_
  exact finTA (v := .int .i64 H.frame) (cs := #[.int .i64 X.f.kind, .int .i64 X.f.stage, .int .i64 X.f.level, .bool X.f.walk, .int .i64 X.f.page]) ⟨_, _, _, he2, hd2, hr1, by rw [hH1, hXno], h1', h2', h31, by (refine hpLe_cnt fun a => ?_; simp only [cntB_app, cntB_cons, cntB_nil] <;> omega)⟩
end Go.Proofs.YtdaenalnmdmflaaGreat
namespace Go.Proofs.YtdaenalnmdmflaaGreat
open Go.RowKit
set_option linter.unusedVariables false
set_option linter.unusedSimpArgs false
set_option maxRecDepth 20000
attribute [local irreducible] Hy St Ops DH DHF DE1 DE2 DE3 DS DCh DWF
theorem containsFEn_e {w : World} {F : Nat} {us : List Value} (p : EnD → Bool) (xs : List (EnD)) (v : Value) (h : SlAt w v 14 (xs.map enV)) (hF : ∀ x, x ∈ xs → ∀ w', AftB w w' → Fn Tryz.prog F ([] ++ [Value.agg (enV x).toArray] ++ us).toArray w' [] (fun u _ => u = .bool (p x))) (hcal : mem calN F = true := by rfl) :
    Fn Tryz.prog 55 [v, .func (.func F) [].toArray us.toArray].toArray w [] (fun u _ => u = .bool (xs.any p)) := by
  refine enter Tryz.func55 ?_
  refine run ?_
  refine callE (fun wc hG => indexFEn_e p xs v (h.good hG) (fun x hx w' ha => hF x hx w' ?_) hcal) ?_
  · obtain ⟨hp, hg⟩ := ha
    exact ⟨_, hG.trans hg⟩
  refine run ?_
  refine fin1 ?_
  rw [← idxI_ge]
theorem wyMay1_e (n : Int) (x : EnD) (B : Nat) (w : World) (hB : w.cell? ⟨B, 0, none⟩ = some (.int .i64 n)) : Fn Tryz.prog 56 ([] ++ [Value.agg (enV x).toArray] ++ [Value.pointer (some ⟨B, 0, none⟩)]).toArray w [] (fun u _ => u = .bool (decide (n ≤ x.frame))) := by
  refine enter Tryz.func56 ?_
  refine run ?_
  intro E
  refine run ?_
  exact fin1 rfl
theorem rootB (r : RtD) : (decide (r.frame < 0) || decide (4095 < r.frame) || decide (r.tag < 0) || decide (15 < r.tag)) = !r.may := by
  have e2 : ∀ a : Int, decide (a < 0) = !decide (0 ≤ a) := fun a => by rw [Bool.eq_iff_iff]; simp
  have e3 : ∀ a b : Int, decide (b < a) = !decide (a ≤ b) := fun a b => by rw [Bool.eq_iff_iff]; simp
  rw [RtD.may, PtD.btw, PtD.btw, e2, e2, e3, e3]
  simp only [Bool.not_and, Bool.or_assoc]
theorem wyMay_e (ws : List Nat) (hw : ws.length < 1000000) (cap : Nat) (hcc : ws.length ≤ cap) {p : Option Addr} {w : World} {Wb : Nat} (es : List EnD) (ds : List IvD) (pk : PkD) (one two : RtD) (page acc : Int) {ev dv rv : Value} (he : Sees w [Wb] ev 14 (es.map enV)) (hd : Sees w [Wb] dv 4 (ds.map ivV)) (hcap : ∃ q c, ev = .slice q es.length c ∧ es.length ≤ c) (hel : es.length < 1000000)
    (hN : HereN [⟨Wb, #[.slice p ws.length cap, ev, dv, .int .i64 pk.cpu, .bool pk.fill, .bool pk.mids, .bool pk.walk, .int .i64 pk.drop, .bool pk.use, .bool one.on, .int .i64 one.frame, .int .i64 one.tag, .bool two.on, .int .i64 two.frame, .int .i64 two.tag, .int .i64 page, .int .i64 acc, rv], 73⟩] w) :
    Fn Tryz.prog 29 [.pointer (some ⟨Wb, 0, none⟩)].toArray w [Wb] (fun u hn => u = .bool (mayL ws.length es ds one two page acc) ∧ HpLe [⟨Wb, #[.slice p ws.length cap, ev, dv, .int .i64 pk.cpu, .bool pk.fill, .bool pk.mids, .bool pk.walk, .int .i64 pk.drop, .bool pk.use, .bool one.on, .int .i64 one.frame, .int .i64 one.tag, .bool two.on, .int .i64 two.frame, .int .i64 two.tag, .int .i64 page, .int .i64 acc, rv], 73⟩] hn) := by
  refine enterM _ hN Tryz.func29 ?_
  obtain ⟨qe, ce, rfl, hlc⟩ := hcap
  obtain ⟨qd, cd, rfl, _⟩ := hd.at_.opened
  refine run ?_
  refine callE (fun wc hG => mFrames_e ws.length cap (by omega) p wc) ?_
  refine run ?_
  intro Nb
  refine callE (fun wc hG => pMay_e false false false false false 0 acc wc) ?_
  refine runG ?_
  refine callEG (fun hg wc hG => tCheck_e es ds _ _ (he.good hG) (hd.good hG) ⟨_, _, rfl, hlc⟩) ?_
  refine runG ?_
  have hg : (!decide ((bif memOk ws.length then (0 : Int) else 1) = 0) || !decide ((bif PtD.btw acc 0 2 then (0 : Int) else 1) = 0) || !decide ((bif tlbOk es ds then (0 : Int) else 1) = 0) || !two.on || decide (page < 0) || decide (4095 < page)) = !(memOk ws.length && PtD.btw acc 0 2 && tlbOk es ds && two.on && PtD.btw page 0 4095) := by
    have e1 : ∀ b, decide ((bif b then (0 : Int) else 1) = 0) = b := by decide
    rw [e1, e1, e1]
    have e2 : decide (page < 0) = !decide (0 ≤ page) := by rw [Bool.eq_iff_iff]; simp
    have e3 : decide (4095 < page) = !decide (page ≤ 4095) := by rw [Bool.eq_iff_iff]; simp
    rw [e2, e3, PtD.btw, PtD.btw]
    simp only [Bool.not_and, Bool.or_assoc]
  rw [hg]
  refine st_cond _ rfl (fun hc => ?_) (fun hc => ?_)
  · have hf : mayL ws.length es ds one two page acc = false := by
      rw [mayL, whoL]
      simp only [Bool.not_eq_true', Bool.and_eq_false_iff] at hc
      rcases hc with (((h | h) | h) | h) | h <;> simp [h]
    rw [hf]
    refine run ?_
    exact fin1 ⟨rfl, by (refine hpLe_cnt fun a => ?_; simp only [cntB_app, cntB_cons, cntB_nil] <;> omega)⟩
  have hcc : memOk ws.length = true ∧ PtD.btw acc 0 2 = true ∧ tlbOk es ds = true ∧ two.on = true ∧ PtD.btw page 0 4095 = true := by
    simp only [Bool.not_eq_false', Bool.and_eq_true] at hc
    exact ⟨hc.1.1.1.1, hc.1.1.1.2, hc.1.1.2, hc.1.2, hc.2⟩
  obtain ⟨g1, g2, g3, g4, g5⟩ := hcc
  have hmay : mayL ws.length es ds one two page acc = (one.may && two.may && heldL ws.length es) := by
    rw [mayL, whoL, g1, g2, g3, g4, g5]; simp
  rw [hmay]
  simp only [g1, cond_true]
  refine run ?_
  refine drawC 11 8 [0, 1, 2, 3, 4, 5, 6, 7, 10] [8, 9] [⟨Nb, #[.int .i64 ((ws.length / 8 : Nat) : Int)], 3⟩, ⟨Wb, #[.slice p ws.length cap, .slice qe es.length ce, .slice qd ds.length cd, .int .i64 pk.cpu, .bool pk.fill, .bool pk.mids, .bool pk.walk, .int .i64 pk.drop, .bool pk.use, .bool one.on, .int .i64 one.frame, .int .i64 one.tag, .bool two.on, .int .i64 two.frame, .int .i64 two.tag, .int .i64 page, .int .i64 acc, rv], 73⟩] ?_
  refine runZ ?_
  refine cSlice [.bool one.on, .int .i64 one.frame, .int .i64 one.tag, .bool two.on, .int .i64 two.frame, .int .i64 two.tag] (fun Z => ?_)
  refine cVal (fun hx => x_len tb_ok rfl rfl) ?_
  refine dc_nil ?_
  refine opsC ?_
  refine run ?_
  refine loopS (σ := Nat) (fun j => [(72, .int .i64 (j : Int))]) (fun j => [⟨Z, #[.bool one.on, .int .i64 one.frame, .int .i64 one.tag, .bool two.on, .int .i64 two.frame, .int .i64 two.tag], 29⟩, ⟨Nb, #[.int .i64 ((ws.length / 8 : Nat) : Int)], 3⟩, ⟨Wb, #[.slice p ws.length cap, .slice qe es.length ce, .slice qd ds.length cd, .int .i64 pk.cpu, .bool pk.fill, .bool pk.mids, .bool pk.walk, .int .i64 pk.drop, .bool pk.use, .bool one.on, .int .i64 one.frame, .int .i64 one.tag, .bool two.on, .int .i64 two.frame, .int .i64 two.tag, .int .i64 page, .int .i64 acc, rv], 73⟩]) (fun j => j ≤ 2 ∧ (1 ≤ j → one.may = true) ∧ (2 ≤ j → two.may = true)) (fun j => 2 - j) 0 ⟨by omega, fun h => by omega, fun h => by omega⟩ ?_
  rintro j m hmj ⟨hj2, hj0, hj1⟩
  obtain rfl | rfl | rfl : j = 0 ∨ j = 1 ∨ j = 2 := by omega
  · refine runC ?_
    intro B
    rw [rootB]
    refine st_cond _ rfl (fun hc2 => ?_) (fun hc2 => ?_)
    · refine run ?_
      rw [show one.may = false by simpa using hc2]
      exact fin1 ⟨rfl, by (refine hpLe_cnt fun a => ?_; simp only [cntB_app, cntB_cons, cntB_nil] <;> omega)⟩
    · refine run ?_
      exact nextS 1 ⟨by omega, fun _ => by simpa using hc2, fun h => by omega⟩ (h2 := by (refine hpLe_cnt fun a => ?_; simp only [cntB_app, cntB_cons, cntB_nil] <;> omega))
  · refine runC ?_
    intro B
    rw [rootB]
    refine st_cond _ rfl (fun hc2 => ?_) (fun hc2 => ?_)
    · refine run ?_
      rw [show two.may = false by simpa using hc2, Bool.and_false, Bool.false_and]
      exact fin1 ⟨rfl, by (refine hpLe_cnt fun a => ?_; simp only [cntB_app, cntB_cons, cntB_nil] <;> omega)⟩
    · refine run ?_
      exact nextS 2 ⟨by omega, fun _ => hj0 (by omega), fun _ => by simpa using hc2⟩ (h2 := by (refine hpLe_cnt fun a => ?_; simp only [cntB_app, cntB_cons, cntB_nil] <;> omega))
  refine runC ?_
  refine callE (fun wc hG => containsFEn_e (us := [.pointer (some ⟨Nb, 0, none⟩)]) (fun x => decide (((ws.length / 8 : Nat) : Int) ≤ x.frame)) es _ (he.good hG) (fun x _ w' ha => wyMay1_e _ x Nb w' ?_)) ?_
  · obtain ⟨hp, hg⟩ := ha
    exact hg.cell (by rw [cell_of_block (hG.here ⟨Nb, #[.int .i64 ((ws.length / 8 : Nat) : Int)], 3⟩ (by simp))]; rfl) (by simp)
  refine run ?_
  rw [hj0 (by omega), hj1 (by omega)]
  refine fin1 ⟨?_, by (refine hpLe_cnt fun a => ?_; simp only [cntB_app, cntB_cons, cntB_nil] <;> omega)⟩
  rw [Bool.true_and, Bool.true_and, heldL, List.not_any_eq_all_not]
  congr 2
  funext x
  rw [Bool.eq_iff_iff]; simp
end Go.Proofs.YtdaenalnmdmflaaGreat
namespace Go.Proofs.YtdaenalnmdmflaaGreat
open Go.RowKit
set_option linter.unusedVariables false
set_option linter.unusedSimpArgs false
set_option maxRecDepth 20000
attribute [local irreducible] Hy St Ops DH DHF DE1 DE2 DE3
theorem runNB {G R : Prop} (k : R) (h : RestP R → G := by (intro kLeft; (repeat (first | (with_reducible apply st_seq) | (with_reducible apply st_block) | (with_reducible apply st_region) | (with_reducible apply nx_normal) | (with_reducible apply nx_ret) | (with_reducible apply nx_exit) | (with_reducible apply np_normal) | (with_reducible apply inb_normal) | (with_reducible apply inb_ret) | (with_reducible apply inb_here) | (with_reducible apply ops_nil) | (with_reducible apply st_ret) | (with_reducible apply st_skip) | (with_reducible apply st_exit) | ((with_reducible apply inb_past); rfl) | ((with_reducible apply op1); rfl; (first | ((with_reducible apply x_move); rfl) | ((with_reducible apply x_assign); rfl) | ((with_reducible apply x_field tb_ok); rfl; rfl; rfl; (first | ((simp only [Nat.reduceAdd, Nat.reduceMul, Nat.zero_add, Nat.add_zero, Nat.mul_one, Nat.zero_mul, Int.toNat_zero, Int.toNat_one, Int.reduceToNat]) <;> rfl) | rfl)) | ((with_reducible apply x_load tb_ok); rfl; rfl; (first | (with_reducible apply mh) | (focus ((repeat (first | (with_reducible apply mh) | (with_reducible apply mt) | (with_reducible apply List.mem_append_right))); done))); (first | rfl | assumption)) | ((with_reducible apply x_load0 tb_ok); rfl; rfl; assumption; (first | exact List.not_mem_nil | assumption)) | ((with_reducible apply x_loadA tb_ok); rfl; rfl; rfl; (first | (with_reducible apply mh) | (focus ((repeat (first | (with_reducible apply mh) | (with_reducible apply mt) | (with_reducible apply List.mem_append_right))); done))); (first | assumption | (first | ((simp only [putAt, List.toList_toArray, List.setIfInBounds_toArray, List.set_cons_zero, List.set_cons_succ, List.drop_succ_cons, List.drop_zero, List.take_succ_cons, List.take_zero, List.cons_append, List.nil_append, List.append_nil]) <;> rfl) | rfl)); rfl) | ((with_reducible apply x_loadA0 tb_ok); rfl; rfl; rfl; assumption; rfl; (first | exact List.not_mem_nil | assumption)) | ((with_reducible apply x_indexN tb_ok); rfl; rfl; rfl; omega; (first | ((simp only [Nat.reduceAdd, Nat.reduceMul, Nat.zero_add, Nat.add_zero, Nat.mul_one, Nat.zero_mul, Int.toNat_zero, Int.toNat_one, Int.reduceToNat]) <;> rfl) | rfl)) | ((with_reducible apply x_indexRN tb_ok); rfl; rfl; rfl; omega; (first | ((simp only [Nat.reduceAdd, Nat.reduceMul, Nat.zero_add, Nat.add_zero, Nat.mul_one, Nat.zero_mul, Int.toNat_zero, Int.toNat_one, Int.reduceToNat]) <;> rfl) | rfl)) | ((with_reducible apply x_index tb_ok); rfl; rfl; rfl; omega; omega; (first | ((simp only [Nat.reduceAdd, Nat.reduceMul, Nat.zero_add, Nat.add_zero, Nat.mul_one, Nat.zero_mul, Int.toNat_zero, Int.toNat_one, Int.reduceToNat]) <;> rfl) | rfl)) | ((with_reducible apply x_indexR tb_ok); rfl; rfl; rfl; omega; omega; (first | ((simp only [Nat.reduceAdd, Nat.reduceMul, Nat.zero_add, Nat.add_zero, Nat.mul_one, Nat.zero_mul, Int.toNat_zero, Int.toNat_one, Int.reduceToNat]) <;> rfl) | rfl)) | ((with_reducible apply x_len tb_ok); rfl; rfl) | ((with_reducible apply x_orT); rfl; rfl) | ((with_reducible apply x_andF); rfl; rfl) | ((with_reducible apply x_or); rfl; rfl) | ((with_reducible apply x_and); rfl; rfl) | ((with_reducible apply x_pick); rfl; rfl; rfl) | ((with_reducible apply x_not); rfl) | ((with_reducible apply x_extract); rfl; rfl) | ((with_reducible apply x_nilCheck); rfl) | ((with_reducible apply x_lss); rfl; rfl) | ((with_reducible apply x_leq); rfl; rfl) | ((with_reducible apply x_gtr); rfl; rfl) | ((with_reducible apply x_geq); rfl; rfl) | ((with_reducible apply x_eql); rfl; rfl) | ((with_reducible apply x_neq); rfl; rfl) | ((with_reducible apply x_eqlb tb_ok); rfl; rfl; rfl) | ((with_reducible apply x_neqb tb_ok); rfl; rfl; rfl) | ((with_reducible apply x_eqlA lt_ok); rfl; rfl; rfl; rfl; rfl) | ((with_reducible apply x_neqA lt_ok); rfl; rfl; rfl; rfl; rfl) | ((with_reducible apply x_inc); rfl; rfl; omega) | ((with_reducible apply x_add); rfl; rfl; omega; omega) | ((with_reducible apply x_sub); rfl; rfl; omega; omega) | ((with_reducible apply x_mul); rfl; rfl; omega; omega) | ((with_reducible apply x_convI tb_ok); rfl; rfl; rfl; omega; omega) | ((with_reducible apply x_convU tb_ok); rfl; rfl; rfl; omega; omega) | ((with_reducible apply x_makeFunc); rfl; rfl) | ((with_reducible apply x_addW); rfl; rfl) | ((with_reducible apply x_subW); rfl; rfl))) | ((with_reducible apply z_box); rfl; rfl; (first | ((simp only [Value.cells]) <;> rfl) | rfl); intro blk) | ((with_reducible apply z_alloc tb_ok); rfl; rfl; (first | ((simp only [Value.cells]) <;> rfl) | rfl); intro blk) | ((with_reducible apply z_store tb_ok); rfl; rfl; (first | ((simp only [Value.cells]) <;> rfl) | rfl); rfl; rfl; (first | (with_reducible apply p0) | (with_reducible apply p1) | (with_reducible apply p2) | (with_reducible apply p3) | (with_reducible apply p4) | (with_reducible apply p5)); (first | rfl | (focus (simp; done))); (first | omega | (focus (simp; done)) | (focus (simp; omega))); (first | ((simp only [putAt, List.toList_toArray, List.setIfInBounds_toArray, List.set_cons_zero, List.set_cons_succ, List.drop_succ_cons, List.drop_zero, List.take_succ_cons, List.take_zero, List.cons_append, List.nil_append, List.append_nil]) <;> rfl) | rfl)) | ((with_reducible apply z_bslice tb_ok); rfl; rfl; rfl; (first | ((simp only [Value.cells]) <;> rfl) | rfl); rfl; rfl; rfl; rfl; (first | ((simp only [putAt, rep, Value.cells, Nat.reduceMul, Nat.zero_mul, Nat.one_mul, Nat.mul_one, List.toList_toArray, List.setIfInBounds_toArray, List.set_cons_zero, List.set_cons_succ, List.drop_succ_cons, List.drop_zero, List.take_succ_cons, List.take_zero, List.cons_append, List.nil_append, List.append_nil]) <;> rfl) | rfl); intro blk))); (repeat revert blk); exact kLeft.get)) : G := h ⟨k⟩
section
variable {n : Nat} {w0 : World} {mu : List Nat} {l : Fm} {hp : Hp} {Q : Exit → Fm → Hp → Prop} {all : Array Oper} {rest : List Oper} {ty : TypeId} {pos : String} {af : Array Edge}
theorem buildK {t d : Nat} {ps : List (Nat × Operand)} {vs : List (Nat × Value)} {z : Value} {pl : List (Nat × Nat)} {zc : Array Value} (out : Array Value) (h : Ops Tryz.prog n w0 mu all rest ((d, .agg out) :: l) hp Q) (hd : Nat.blt d n = true := by rfl) (hz : lk Tb.zs t = some z := by rfl) (hzc : z.cells = zc := by (first | ((simp only [Value.cells]) <;> rfl) | rfl)) (hpl : lk Tb.pl t = some pl := by rfl) (hv : evp l ps = some vs := by rfl) (hf : fl pl zc vs = some out := by kernel_rfl) : Ops Tryz.prog n w0 mu all (⟨some d, .build t ps.toArray, ty, pos, af, none⟩ :: rest) l hp Q :=
  op1 hd (x_build tb_ok hz hzc hpl hv hf rfl) h
end
end Go.Proofs.YtdaenalnmdmflaaGreat
namespace Go.Proofs.YtdaenalnmdmflaaGreat
open Go.RowKit
set_option linter.unusedVariables false
set_option linter.unusedSimpArgs false
section
variable {P : Program} {n : Nat} {w0 : World} {mu : List Nat} {l : Fm} {h0 hp : Hp} {Q : Exit → Fm → Hp → Prop} {all : Array Oper} {ivS : Fm} {k t0 : Nat} {ds : List (Nat × Nat)}
theorem midc_putS {ivE ivE' : Fm} {h h' : Hp} {listed : Array Bool} {a : Act} {w w' : World} {i : Nat} {o : Oper} {v : Value} (hm : MidC n w0 mu all l ivS ivE h listed a w) (ho : all[i]? = some o) (hi : i < k) (hun : listed.getD i true = false) (hs : i < listed.size)
    (hd : dstKB all k n = true) (hf : ∀ i d u, i < k → dstAt all i = some d → look l d = some u → lk ivS i = some u) (hG : Good w0 mu h' w') (hSk : ∀ j v, lk ivS j = some v → j < k) (hEk : ∀ j v, (j, v) ∈ ivE → j < k)
    (hv : (lk ivS i = some v ∧ ivE' = ivE) ∨ (lk ivS i = none ∧ ivE' = (i, v) :: ivE)) : MidC n w0 mu all l ivS ivE' h' (listed.setIfInBounds i true) (a.put o.dst v) w' := by
  have hod : dstAt all i = o.dst := by simp [dstAt, ho]
  have hput : ∀ t, (∀ d, o.dst = some d → t ≠ d) → (a.put o.dst v).tmps.getD t undef = a.tmps.getD t undef := by
    intro t ht
    cases hdd : o.dst with
    | none => rfl
    | some d => simp [Act.put, Array.getElem?_setIfInBounds_ne (Ne.symm (ht d hdd))]
  have hself : ∀ d, o.dst = some d → (a.put o.dst v).tmps.getD d undef = v := by
    intro d hdd
    have := dstK_lt hd hi (hod.trans hdd)
    rw [hdd]
    simp [Act.put, hm.size, this]
  have hother : ∀ j d, j < k → j ≠ i → dstAt all j = some d → (a.put o.dst v).tmps.getD d undef = a.tmps.getD d undef := fun j d hj hji hdj => hput d fun d' hd' => dstK_ne hd hj hi hji hdj (hod.trans hd')
  refine ⟨?_, ?_, fun t u hu => ?_, hG, fun j u hj hl d hdj => ?_, fun j u hj => ?_⟩
  · cases o.dst <;> simpa [Act.put] using hm.size
  · cases o.dst <;> exact hm.defers
  · by_cases hit : o.dst = some t
    · have h1 := hf i t u hi (hod.trans hit) hu
      rcases hv with ⟨h2, _⟩ | ⟨h2, _⟩
      · rw [h1] at h2; cases h2; exact hself t hit
      · rw [h1] at h2; cases h2
    · rw [hput t fun d hdd e => hit (by rw [e]; exact hdd)]
      exact hm.has t u hu
  · by_cases hji : j = i
    · subst hji
      rcases hv with ⟨h1, _⟩ | ⟨h1, _⟩
      · rw [h1] at hj; cases hj
        exact hself d (hod ▸ hdj)
      · rw [h1] at hj; cases hj
    · rw [hother j d (hSk j u hj) hji hdj]
      exact hm.doneS j u hj (by rwa [getD_set_ne false (Ne.symm hji)] at hl) d hdj
  · have hold : (j, u) ∈ ivE → (listed.setIfInBounds i true).getD j false = true ∧ ∀ d, dstAt all j = some d → (a.put o.dst v).tmps.getD d undef = u := fun hj => by
      have h1 := hm.doneE j u hj
      have hji : j ≠ i := fun e => by subst e; rw [getD_both hun] at h1; cases h1.1
      exact ⟨getD_set_true h1.1, fun d hdj => by rw [hother j d (hEk j u hj) hji hdj]; exact h1.2 d hdj⟩
    rcases hv with ⟨_, rfl⟩ | ⟨_, rfl⟩
    · exact hold hj
    · rcases List.mem_cons.1 hj with hj | hj
      · cases hj
        exact ⟨by simp [hs], fun d hdj => hself d (hod ▸ hdj)⟩
      · exact hold hj
theorem chain_runS (hds : ∀ k d, lk ds k = some d → dstAt all k = some d) {g : Nat} {Q' : Exit → Act → World → Prop} {X : Fm → Hp → Prop} (hk : k ≤ all.size) (hd : dstKB all k n = true) (hf : ∀ i d u, i < k → dstAt all i = some d → look l d = some u → lk ivS i = some u) (hback : backB all = true) (hle0 : HpLe h0 hp)
    (hstb : ∀ i, i < k → dstAt all i = none → i = t0 ∨ Region.waitsFor .any all i t0 = true)
    (hS : ∀ i v, lk ivS i = some v → i < k ∧ ∃ o iv', all[i]? = some o ∧ Mono iv' ivS ∧ ∀ hx, HyG P n w0 mu all (depFm ds iv' o.after.toList ++ l) (bif Region.waitsFor .any all t0 i then hx ++ hp else hx ++ h0) o v)
    (htail : ∀ ivE h listed, HeadInv .any all k listed → (∀ i, i < k → listed.getD i true = true) → X ivE h → ∀ a w, MidC n w0 mu all l ivS ivE h listed a w → (∀ i v, (i, v) ∈ ivE → i < k) → wpAny P .any all Q' g listed a w)
    (hwait : ∀ listed, HeadInv .any all k listed → ∀ i, i < k → listed.getD i true = false → ∀ t, k ≤ t → t ∉ Region.ready .any all listed) :
    ∀ f r ivE h listed a w, leftOf k listed = f → HeadInv .any all k listed → MidC n w0 mu all l ivS ivE h listed a w → (∀ i v, (i, v) ∈ ivE → i < k) → (∀ i ∈ r, i < k ∧ listed.getD i true = false ∧ lk ivS i = none) → r.Nodup → linkB all r = true → (∀ i, i < k → listed.getD i true = false → (∃ v, lk ivS i = some v) ∨ i ∈ r) →
      HpLe h0 h → (listed.getD t0 false = false → HpLe hp h) → DCh P n w0 mu all ds l h0 ivS X r ivE h → wpAny P .any all Q' (f + g) listed a w := by
  intro f
  induction f with
  | zero =>
    intro r ivE h listed a w hlf inv hm hEk hr hnd hlink hcov hle hlep hD
    have hall : ∀ i, i < k → listed.getD i true = true := by
      intro i hi
      cases hc : listed.getD i true with
      | true => rfl
      | false =>
        exfalso
        have : i ∈ (List.range k).filter fun i => !listed.getD i true := List.mem_filter.2 ⟨List.mem_range.2 hi, by simp only [hc, Bool.not_false]⟩
        have h2 := List.length_pos_of_mem this
        unfold leftOf at hlf
        omega
    cases r with
    | nil =>
      rw [Nat.zero_add]
      exact htail ivE h listed inv hall hD a w hm hEk
    | cons c r =>
      have h1 := hr c (List.mem_cons_self ..)
      rw [hall c h1.1] at h1
      exact absurd h1.2.1 (by decide)
  | succ f ih =>
    intro r ivE h listed a w hlf inv hm hEk hr hnd hlink hcov hle hlep hD
    rw [show f + 1 + g = (f + g) + 1 by omega]
    have hex : ∃ i, i < k ∧ listed.getD i true = false := by
      have h2 : 0 < leftOf k listed := by omega
      obtain ⟨i, hi⟩ := List.exists_mem_of_length_pos h2
      rw [List.mem_filter] at hi
      exact ⟨i, List.mem_range.1 hi.1, by simpa using hi.2⟩
    obtain ⟨i0, hi0k, hi0⟩ := hex
    refine ⟨fun hnil => ?_, fun i hi => ?_⟩
    · exfalso
      obtain ⟨i, ⟨hik, hil⟩, hmin⟩ := exists_least (p := fun i => i < k ∧ listed.getD i true = false) ⟨i0, hi0k, hi0⟩
      have hr : i ∈ Region.ready .any all listed := by
        rw [mem_ready]
        have hs : i < all.size := by omega
        refine ⟨hil, all[i], by simp [hs], fun e he hb => ?_⟩
        have hb2 := List.all_eq_true.1 hback i (List.mem_range.2 hs)
        simp only [Array.getElem?_eq_getElem hs] at hb2
        have hb3 := (Array.all_eq_true_iff_forall_mem.1 hb2) e he
        simp only [hb, Bool.not_true, Bool.false_or, Nat.blt_eq] at hb3
        cases hc : listed.getD e.on false with
        | true => rfl
        | false =>
          have h5 := hmin e.on ⟨by omega, getD_in (by rw [inv.size]; omega) hc⟩
          omega
      rw [hnil] at hr; cases hr
    · have hik : i < k := by
        rcases Nat.lt_or_ge i k with h | h
        · exact h
        · exact absurd hi (hwait listed inv i0 hi0k hi0 i h)
      obtain ⟨hun, o, ho, hall⟩ := mem_ready.1 hi
      have hsz : i < listed.size := by rw [inv.size]; omega
      have hunf : listed.getD i false = false := getD_both hun
      have hleft : leftOf k (listed.setIfInBounds i true) = f := by have := left_set hik (by rw [inv.size]; omega) hun; omega
      have hwl : ∀ t, Region.waitsFor .any all i t = true → listed.getD t false = true := fun t ht => by
        obtain ⟨oj, h6, e, he, hb, heq⟩ := Region.waitsFor_spec ht
        rw [ho] at h6; cases h6
        rw [← heq]; exact hall e he hb
      unfold wpOp
      simp only [ho]
      cases hSi : lk ivS i with
      | some v =>
        obtain ⟨_, o', iv', ho', hmo, hy⟩ := hS i v hSi
        rw [ho] at ho'; cases ho'
        have hkn := midc_knows (o := o) hds hm (iv' := iv') (fun j u hu => .inr (hmo j u (by rw [← look_lk]; exact hu))) hall
        have hir : i ∉ r := fun hm' => by rw [(hr i hm').2.2] at hSi; cases hSi
        have hnext : ∀ w', Good w0 mu h w' → wpAny P .any all Q' (f + g) (listed.setIfInBounds i true) (a.put o.dst v) w' := fun w' hG' => by
          refine ih r ivE h _ _ _ hleft (inv.set hi hik) (midc_putS hm ho hik hun hsz hd hf hG' (fun j u hu => (hS j u hu).1) hEk (.inl ⟨hSi, rfl⟩)) hEk (fun j hj => ?_) hnd hlink (fun j hj hl => ?_) hle (fun ht => ?_) hD
          · have hji : i ≠ j := fun e => hir (e ▸ hj)
            exact ⟨(hr j hj).1, by rw [getD_set_ne true hji]; exact (hr j hj).2.1, (hr j hj).2.2⟩
          · refine hcov j hj ?_
            by_cases hji : i = j
            · subst hji; simp [hsz] at hl
            · rwa [getD_set_ne true hji] at hl
          · refine hlep ?_
            by_cases hji : i = t0
            · subst hji; exact hunf
            · rwa [getD_set_ne false hji] at ht
        obtain ⟨hx, h3, hper⟩ : ∃ hx, HyG P n w0 mu all (depFm ds iv' o.after.toList ++ l) hx o v ∧ hx.Perm h := by
          cases hwt : Region.waitsFor .any all t0 i with
          | true =>
            have ht0 : listed.getD t0 false = false := by
              cases hc : listed.getD t0 false with
              | false => rfl
              | true =>
                obtain ⟨oj, h6, e, he, hb, heq⟩ := Region.waitsFor_spec hwt
                have := inv.closed t0 oj h6 hc e he hb
                rw [heq, hunf] at this; cases this
            obtain ⟨x, hxp⟩ := (hlep ht0).perm
            have h4 := hy x
            rw [hwt] at h4
            exact ⟨x ++ hp, h4, List.perm_append_comm.trans hxp⟩
          | false =>
            obtain ⟨x, hxp⟩ := hle.perm
            have h4 := hy x
            rw [hwt] at h4
            exact ⟨x ++ h0, h4, List.perm_append_comm.trans hxp⟩
        have hgd : Good w0 mu hx w := hm.good.perm hper
        replace hnext : ∀ w', Good w0 mu hx w' → wpAny P .any all Q' (f + g) (listed.setIfInBounds i true) (a.put o.dst v) w' := fun w' hG' => hnext w' (hG'.perm hper.symm)
        unfold HyG at h3
        cases hg : o.guard with
        | none =>
          rw [hg] at h3
          rw [if_pos (by simp [Region.wanted, hg])]
          exact .inl (h3 a w hkn hgd _ _ hnext)
        | some jw =>
          obtain ⟨j, want⟩ := jw
          rw [hg] at h3
          obtain ⟨dj, c0, b, u, hj, hb, hdj, hy, hvv⟩ := h3
          have hw := wanted_of hkn hg hj hb hdj
          cases hc : (c0 && wnt b want) with
          | true =>
            rw [hc] at hw hvv
            rw [if_pos hw]
            rw [Bool.and_eq_true] at hc
            rw [show v = u from hvv] at hnext
            exact .inl (hy hc.1 hc.2 a w hkn hgd _ _ hnext)
          | false =>
            rw [hc] at hw hvv
            rw [if_neg (by rw [hw]; decide)]
            rw [show v = undef from hvv] at hnext
            exact hnext w hgd
      | none =>
        have hir : i ∈ r := by
          rcases hcov i hik hun with ⟨v, hv⟩ | h
          · rw [hSi] at hv; cases hv
          · exact h
        cases r with
        | nil => cases hir
        | cons c r =>
          have hic : i = c := by
            rcases List.mem_cons.1 hir with h | h
            · exact h
            · exfalso
              obtain ⟨p, hp⟩ := linkB_head hlink h
              rcases hp with ⟨h1, _, h3⟩ | ⟨_, h3⟩ | ⟨p, h1, h3⟩
              · have := (hr p h1).2.1; have h5 := hwl p h3
                rw [getD_both this] at h5; cases h5
              · exact h3
              · have := (hr p h1).2.1; have h5 := hwl p h3
                rw [getD_both this] at h5; cases h5
          subst hic
          rw [List.nodup_cons] at hnd
          have hlink' : linkB all r = true := by
            cases r with
            | nil => rfl
            | cons j r => simp only [linkB, Bool.and_eq_true] at hlink; exact hlink.2
          have hr' : ∀ j ∈ r, j < k ∧ (listed.setIfInBounds i true).getD j true = false ∧ lk ivS j = none := fun j hj => by
            have h1 := hr j (List.mem_cons_of_mem _ hj)
            have hji : i ≠ j := fun e => hnd.1 (e ▸ hj)
            exact ⟨h1.1, by rw [getD_set_ne true hji]; exact h1.2.1, h1.2.2⟩
          have hcov' : ∀ j, j < k → (listed.setIfInBounds i true).getD j true = false → (∃ v, lk ivS j = some v) ∨ j ∈ r := fun j hj hl => by
            by_cases hji : i = j
            · subst hji; simp [hsz] at hl
            · rw [getD_set_ne true hji] at hl
              rcases hcov j hj hl with h | h
              · exact .inl h
              · exact .inr ((List.mem_cons.1 h).resolve_left (Ne.symm hji))
          have hkn := midc_knows (o := o) hds hm (iv' := ivE ++ ivS) (fun j u hu => by
            rw [look_lk, lk_app] at hu
            cases hE : lk ivE j with
            | some v => rw [hE] at hu; exact .inl hu
            | none => rw [hE] at hu; exact .inr hu) hall
          unfold DCh at hD
          obtain ⟨o', ho', hD⟩ := hD
          rw [ho] at ho'; cases ho'
          rcases hD with ⟨hds', R, ⟨hg, hE⟩, hD⟩ | ⟨hdn, h', ⟨hg, _, hSt⟩, hle', hD⟩
          · rw [if_pos (hg _ hkn)]
            refine .inl (hE a w [] hkn (by simpa using hm.good) _ _ fun v hn w' hR hG' => ?_)
            rw [List.nil_append] at hG'
            have hlen : ∀ x : Hp, HpLe x h → HpLe x (hn ++ h) := fun x hx => hpLe_cnt fun b => by have := hx.cnt b; rw [cntB_app]; omega
            refine ih r ((i, v) :: ivE) (hn ++ h) _ _ _ hleft (inv.set hi hik) (midc_putS hm ho hik hun hsz hd hf hG' (fun j u hu => (hS j u hu).1) hEk (.inr ⟨hSi, rfl⟩)) (fun j u hu => ?_) hr' hnd.2 hlink' hcov' (hlen _ hle) (fun ht => hlen _ (hlep ?_)) (hD v hn hR)
            · rcases List.mem_cons.1 hu with hu | hu
              · cases hu; exact hik
              · exact hEk j u hu
            · by_cases hji : i = t0
              · subst hji; exact hunf
              · rwa [getD_set_ne false hji] at ht
          · rw [if_pos (by simp [Region.wanted, hg])]
            refine .inl (hSt a w hkn hm.good _ _ fun w' hG' => ?_)
            have hmc : MidC n w0 mu all l ivS ivE h' (listed.setIfInBounds i true) a w' := by
              refine ⟨hm.size, hm.defers, hm.has, hG', fun j u hj hl d hdj => ?_, fun j u hj => ⟨getD_set_true (hm.doneE j u hj).1, (hm.doneE j u hj).2⟩⟩
              have hji : i ≠ j := fun e => by subst e; rw [hSi] at hj; cases hj
              exact hm.doneS j u hj (by rwa [getD_set_ne false hji] at hl) d hdj
            refine ih r ivE h' _ _ _ hleft (inv.set hi hik) hmc hEk hr' hnd.2 hlink' hcov' hle' (fun ht => ?_) hD
            exfalso
            rcases hstb i hik (by simp [dstAt, ho, hdn]) with e | e
            · subst e
              rw [show (listed.setIfInBounds i true).getD i false = true by simp [hsz]] at ht; cases ht
            · have := getD_set_true (i := i) (hwl t0 e)
              rw [this] at ht; cases ht
theorem st_drawCS {ops : List Oper} (k t0 m : Nat) (S C : List Nat) (h0 : Hp) (hB : drawCB ops.toArray n k t0 S C = true) (hf : freshB l ((List.range k).map fun i => bif Nat.beq i m then none else dstAt ops.toArray i) = true) (hle0 : HpLe h0 hp) (hds : dstTab ops 0 = ds)
    (h : DS P n w0 mu ops.toArray ds l h0 hp t0 (fun ivS => (((dstAt ops.toArray m).bind (look l)).isNone = true ∨ lk ivS m = (dstAt ops.toArray m).bind (look l)) ∧ DCh P n w0 mu ops.toArray ds l h0 ivS (fun ivE hc => Ops P n w0 mu ops.toArray (ops.drop k) (headFm ds (ivE ++ ivS) ++ l) hc Q) C [] hp) S []) : StAny P n w0 mu ops.toArray l hp Q := by
  intro a w hk hG
  simp only [drawCB, Bool.and_eq_true] at hB
  obtain ⟨⟨⟨⟨⟨hd, hback⟩, hcover⟩, hlink⟩, htailB⟩, hstb⟩ := hB
  simp only [coverB, Bool.and_eq_true, decide_eq_true_eq] at hcover
  obtain ⟨⟨hnd, hlt⟩, hcov⟩ := hcover
  have hlt' : ∀ i ∈ S ++ C, i < k := fun i hi => by have := List.all_eq_true.1 hlt i hi; simpa using this
  rw [List.nodup_append] at hnd
  obtain ⟨hndS, hndC, hSC⟩ := hnd
  obtain ⟨ivS, ⟨hfm, hX⟩, huS, hkS, hsS⟩ := ds_get S [] hndS (fun _ _ => rfl) (fun _ _ h => by cases h) h (fun i v hv => by cases hv)
  simp only [lk, reduceCtorEq, exists_false, or_false] at hkS
  have hks : k ≤ ops.toArray.size := by
    simp only [tailB, Bool.or_eq_true, Bool.and_eq_true, decide_eq_true_eq] at htailB
    rcases htailB with h | h <;> omega
  have hdsl : ∀ i d, lk ds i = some d → dstAt ops.toArray i = some d := fun i d h => by rw [← hds] at h; have := (dstTab_ok ops 0 i d h).2; simpa [dstAt] using this
  have inv0 : HeadInv .any ops.toArray k (Array.replicate ops.toArray.size false) :=
    ⟨by simp, fun j oj _ hl => (by rw [getD_replicate_false] at hl; cases hl), fun t _ ht => getD_in (by simpa using ht) (getD_replicate_false _ _)⟩
  have hun0 : ∀ i, i < k → (Array.replicate ops.toArray.size false).getD i true = false := fun i hi => getD_in (by simp at hks ⊢; omega) (getD_replicate_false _ _)
  have hleft : leftOf k (Array.replicate ops.toArray.size false) = k := by
    unfold leftOf
    rw [List.filter_eq_self.2]
    · simp
    · intro i hi
      simp only [hun0 i (by simpa using hi), Bool.not_false]
  have hff : ∀ i d u, i < k → dstAt ops.toArray i = some d → look l d = some u → lk ivS i = some u := fun i d u hi hdi hu => by
    by_cases him : i = m
    · subst him
      rw [hdi] at hfm
      rcases hfm with h1 | h1
      · simp only [Option.bind_some, hu, Option.isNone_some, Bool.false_eq_true] at h1
      · rw [h1]; exact hu
    · have h1 := fresh_none (d := d) _ hf (List.mem_map.2 ⟨i, List.mem_range.2 hi, by
        have : Nat.beq i m = false := by
          cases hb : Nat.beq i m with
          | false => rfl
          | true => exact absurd (Nat.eq_of_beq_eq_true hb) him
        rw [this]; exact hdi⟩)
      rw [h1] at hu; cases hu
  have key := chain_runS hdsl (P := P) (n := n) (w0 := w0) (mu := mu) (l := l) (hp := hp) (h0 := h0) (all := ops.toArray) (ivS := ivS) (k := k) (t0 := t0) (g := ops.toArray.size - k) (Q' := QQ n w0 mu Q) (X := fun ivE hc => Ops P n w0 mu ops.toArray (ops.drop k) (headFm ds (ivE ++ ivS) ++ l) hc Q) hks hd hff hback hle0
    (fun i hi hdn => by
      have := List.all_eq_true.1 hstb i (List.mem_range.2 hi)
      rw [hdn] at this
      simp only [Option.isSome_none, Bool.false_or, Bool.or_eq_true] at this
      rcases this with h | h
      · exact .inl (Nat.eq_of_beq_eq_true h)
      · exact .inr h)
    (fun i v hv => ⟨hlt' i (List.mem_append_left _ ((hkS i).1 ⟨v, hv⟩)), hsS i v hv⟩)
    (fun ivE h listed inv hall hX a w hmid hEk => by
      have hknows : Knows n (headFm ds (ivE ++ ivS) ++ l) a := by
        refine ⟨hmid.size, hmid.defers, fun t v ht => ?_⟩
        rcases look_append ht with ht | ⟨_, ht⟩
        · obtain ⟨j, h1, h2⟩ := headFm_mem (look_mem ht)
          rcases List.mem_append.1 h1 with h1 | h1
          · exact (hmid.doneE j v h1).2 t (hdsl _ _ h2)
          · have hj := huS j v h1
            have hjk := hlt' j (List.mem_append_left _ ((hkS j).1 ⟨v, hj⟩))
            refine hmid.doneS j v hj ?_ t (hdsl _ _ h2)
            have h5 := hall j hjk
            cases hcc : listed.getD j false with
            | true => rfl
            | false => rw [getD_in (by rw [inv.size]; omega) hcc] at h5; cases h5
        · exact hmid.has t v ht
      have hfin := hX a w hknows hmid.good
      simp only [tailB, Bool.or_eq_true, Bool.and_eq_true, decide_eq_true_eq] at htailB
      rcases htailB with hks2 | ⟨⟨⟨hltk, hs⟩, hc⟩, hseq⟩
      · have e0 : ops.drop k = [] := List.drop_eq_nil_of_le (by simp at hks2; omega)
        rw [e0] at hfin
        rw [show ops.toArray.size - k = 0 by omega]
        refine ⟨?_, hfin⟩
        rw [List.eq_nil_iff_forall_not_mem]
        intro i hi
        obtain ⟨hun, o, ho, _⟩ := mem_ready.1 hi
        have hi' : i < k := by rw [hks2]; exact (Array.getElem?_eq_some_iff.1 ho).1
        rw [hall i hi'] at hun; cases hun
      · have hl : listed = (Array.replicate k true) ++ (Array.replicate (ops.toArray.size - k) false) := by
          apply Array.ext
          · simp [inv.size]; simp at hltk; omega
          · intro i h1 h2
            by_cases hi : i < k
            · have := hall i hi
              simp [h1] at this
              rw [Array.getElem_append_left (by simpa using hi)]
              simpa using this
            · have h3 := inv.tail i (by omega) (by rw [inv.size] at h1; exact h1)
              simp [h1] at h3
              rw [Array.getElem_append_right (by simp; omega)]
              simpa using h3
        have hdl : (ops.drop k).length = ops.toArray.size - k := by simp
        rw [← hdl]
        exact wpAny_of_seq (ops.drop k) k listed a w (fun j => by simp) (by rw [hl, hdl]; exact hseq) hfin)
    (fun listed inv i hi hun t ht => by
      simp only [tailB, Bool.or_eq_true, Bool.and_eq_true, decide_eq_true_eq] at htailB
      rcases htailB with h | ⟨⟨⟨hltk, hs⟩, hc⟩, hseq⟩
      · intro hr
        obtain ⟨_, o, ho, _⟩ := mem_ready.1 hr
        have := (Array.getElem?_eq_some_iff.1 ho).1
        omega
      · exact tail_waits hs hc hltk inv _ i rfl hi hun t ht)
    k C [] hp _ a { w with drawn := w.drawn + 1 } hleft inv0 ⟨hk.size, hk.defers, hk.has, hG.drawn _, fun i v _ hl => (by rw [getD_replicate_false] at hl; cases hl), fun i v hv => by cases hv⟩ (fun i v hv => by cases hv)
    (fun i hi => ⟨hlt' i (List.mem_append_right _ hi), hun0 i (hlt' i (List.mem_append_right _ hi)), by
      cases hv : lk ivS i with
      | none => rfl
      | some v => exact absurd rfl (hSC i ((hkS i).1 ⟨v, hv⟩) i hi)⟩) hndC hlink
    (fun i hi _ => by
      have := mem_mem (List.all_eq_true.1 hcov i (List.mem_range.2 hi))
      rcases List.mem_append.1 this with h | h
      · exact .inl ((hkS i).2 h)
      · exact .inr h) hle0 (fun _ => HpLe.refl _) hX
  have e : k + (ops.toArray.size - k) = ops.toArray.size := by omega
  rw [e] at key
  exact key
end
set_option maxRecDepth 20000
section
variable {n : Nat} {w0 : World} {mu : List Nat} {l lf : Fm} {h0 hp hc : Hp} {Q : Exit → Fm → Hp → Prop} {all : Array Oper} {ivS iv ivE : Fm} {k t0 i d : Nat} {ds : List (Nat × Nat)} {S r : List Nat} {X : Fm → Prop} {Y : Fm → Hp → Prop} {op : Op} {ty : TypeId} {pos : String} {af : Array Edge} {v : Value}
theorem drawCS {id : Nat} {ops tl : List Oper} (k t0 m : Nat) (S C : List Nat) (h0 : Hp) (h : DS Tryz.prog n w0 mu ops.toArray ds l h0 hp t0 (fun ivS => (((dstAt ops.toArray m).bind (look l)).isNone = true ∨ lk ivS m = (dstAt ops.toArray m).bind (look l)) ∧ DCh Tryz.prog n w0 mu ops.toArray ds l h0 ivS (fun ivE hc => Ops Tryz.prog n w0 mu ops.toArray tl (headFm ds (ivE ++ ivS) ++ l) hc Q) C [] hp) S [])
    (hle0 : HpLe h0 hp := by (refine hpLe_cnt fun a => ?_; simp only [cntB_app, cntB_cons, cntB_nil] <;> omega)) (hds : dstTab ops 0 = ds := by (simp only [dstTab, Nat.reduceAdd, Nat.zero_add]; rfl)) (htl : ops.drop k = tl := by (simp only [List.drop_succ_cons, List.drop_zero, List.drop_nil]; rfl)) (hm : Tryz.prog.follows .mixedOrders = true := by kernel_rfl) (hB : drawCB ops.toArray n k t0 S C = true := by decide +kernel) (hf : freshB l ((List.range k).map fun i => bif Nat.beq i m then none else dstAt ops.toArray i) = true := by rfl) : St Tryz.prog n w0 mu (.region id ops.toArray true) l hp Q :=
  st_any hm (st_drawCS k t0 m S C h0 hB hf hle0 hds (by rw [htl]; exact h))
end
end Go.Proofs.YtdaenalnmdmflaaGreat
namespace Go.Proofs.YtdaenalnmdmflaaGreat
open Go.RowKit
set_option linter.unusedVariables false
set_option linter.unusedSimpArgs false
set_option maxRecDepth 20000
attribute [local irreducible] Hy St Ops DH DHF DE1 DE2 DE3 DS DCh DWF
theorem finTAATT {fn : Func} {R : Value → Hp → Prop} {l : Fm} {hp : Hp} {s0 s2 s3 a t b a2 t2 b2 : Nat} {cs cs2 : Array Value} {tb tb2 : TypeId} {v v2 v3 : Value} (h : R (.tuple #[v, .agg cs, .agg cs2, v2, v3]) hp) (hr : fn.results = #[.tmp s0, .cell a t, .cell a2 t2, .tmp s2, .tmp s3] := by rfl) (h0 : look l s0 = some v := by rfl) (hv : look l a = some (.pointer (some ⟨b, 0, none⟩)) := by rfl) (hw : look l a2 = some (.pointer (some ⟨b2, 0, none⟩)) := by rfl) (h3 : look l s2 = some v2 := by rfl) (h4 : look l s3 = some v3 := by rfl) (hag : mem Tb.ag t = true := by rfl) (hm : (⟨b, cs, tb⟩ : Blk) ∈ hp := by (first | (with_reducible apply mh) | (focus ((repeat (first | (with_reducible apply mh) | (with_reducible apply mt) | (with_reducible apply List.mem_append_right))); done)))) (hz : lk Tb.sz t = some cs.size := by rfl) (hag2 : mem Tb.ag t2 = true := by rfl) (hm2 : (⟨b2, cs2, tb2⟩ : Blk) ∈ hp := by (first | (with_reducible apply mh) | (focus ((repeat (first | (with_reducible apply mh) | (with_reducible apply mt) | (with_reducible apply List.mem_append_right))); done)))) (hz2 : lk Tb.sz t2 = some cs2.size := by rfl) : Fin Tryz.prog fn R .ret l hp :=
  ⟨.inl rfl, [v, .agg cs, .agg cs2, v2, v3], by rw [hr]; exact ⟨h0, ⟨⟨b, cs, tb⟩, hm, hv, .inr ⟨tb_ok.gag hag, tb_ok.gsz hz, rfl⟩⟩, ⟨⟨b2, cs2, tb2⟩, hm2, hw, .inr ⟨tb_ok.gag hag2, tb_ok.gsz hz2, rfl⟩⟩, h3, h4, trivial⟩, h⟩
theorem aPage_e (ws : List Nat) (hw : W64 ws) (hwl : ws.length < 1000000) (cap : Nat) (hcc : ws.length ≤ cap) {p : Option Addr} {w : World} (es : List EnD) (ds : List IvD) (pk : PkD) (one two : RtD) (page acc : Int) {ev dv : Value} (hm : SlAt w (.slice p ws.length cap) 1 (ws.map uV)) (he : SlAt w ev 14 (es.map enV)) (hd : SlAt w dv 4 (ds.map ivV)) (hcap : ∃ q c, ev = .slice q es.length c ∧ es.length ≤ c) (hel : es.length < 1000000) (hdl : ds.length < 1000000) :
    Fn Tryz.prog 11 [.agg #[.slice p ws.length cap], .agg #[ev, dv], .agg (rtV one).toArray, .agg (rtV two).toArray, .int .i64 page, .int .i64 acc, .agg (pkV pk).toArray].toArray w [] (fun u hn => (mayL ws.length es ds one two page acc = true → ∃ (ev' dv' rv' : Value) (he' hd' hr' : Hp), u = .tuple #[.int .i64 (pageA ⟨ws, one, two, pk, page.toNat, acc⟩ es).n, ftV (pageA ⟨ws, one, two, pk, page.toNat, acc⟩ es).f, .agg #[ev', dv'], rv', .int .i64 0] ∧ Own 88 14 ev' he' ((pageA ⟨ws, one, two, pk, page.toNat, acc⟩ es).s.es.map enV) ∧ Own 94 4 dv' hd' (ds.map ivV) ∧ Own 3 1 rv' hr' ((pageA ⟨ws, one, two, pk, page.toNat, acc⟩ es).s.rd.map inV) ∧ HpLe (he' ++ hd' ++ hr') hn) ∧ (mayL ws.length es ds one two page acc = false → u = .tuple #[.int .i64 0, ftV noFt, .agg #[.slice none 0 0, .slice none 0 0], .slice none 0 0, .int .i64 1])) := by
  obtain ⟨qe, ce, rfl, hlc⟩ := hcap
  obtain ⟨qd, cd, rfl, _⟩ := hd.opened
  refine enter Tryz.func11 ?_
  refine runNB ?_
  intro B1 B2 B3 B4 B5 B6 B7
  refine buildK #[.slice p ws.length cap, .slice qe es.length ce, .slice qd ds.length cd, .int .i64 pk.cpu, .bool pk.fill, .bool pk.mids, .bool pk.walk, .int .i64 pk.drop, .bool pk.use, .bool one.on, .int .i64 one.frame, .int .i64 one.tag, .bool two.on, .int .i64 two.frame, .int .i64 two.tag, .int .i64 page, .int .i64 acc, .slice none 0 0] ?_
  refine run ?_
  intro Wb
  refine callM [⟨Wb, #[.slice p ws.length cap, .slice qe es.length ce, .slice qd ds.length cd, .int .i64 pk.cpu, .bool pk.fill, .bool pk.mids, .bool pk.walk, .int .i64 pk.drop, .bool pk.use, .bool one.on, .int .i64 one.frame, .int .i64 one.tag, .bool two.on, .int .i64 two.frame, .int .i64 two.tag, .int .i64 page, .int .i64 acc, .slice none 0 0], 73⟩] (⟨B7, #[.slice none 0 0, .slice none 0 0], 35⟩ :: ⟨B6, #[.int .i64 0, .int .i64 0, .int .i64 0, .bool false, .int .i64 0], 44⟩ :: ⟨B5, (pkV pk).toArray, 42⟩ :: ⟨B4, (rtV two).toArray, 29⟩ :: ⟨B3, (rtV one).toArray, 29⟩ :: ⟨B2, #[.slice qe es.length ce, .slice qd ds.length cd], 35⟩ :: ⟨B1, #[.slice p ws.length cap], 24⟩ :: []) (fun wc hG => wyMay_e ws hwl cap hcc es ds pk one two page acc ((Sees.old he).into hG) ((Sees.old hd).into hG) ⟨_, _, rfl, hlc⟩ hel hG.hereN) ?_ (by (refine perm_cnt fun a => ?_; simp only [cntB_app, cntB_cons, cntB_nil] <;> omega))
  rintro _ hn1 ⟨rfl, hle1⟩
  refine ops_le (⟨Wb, #[.slice p ws.length cap, .slice qe es.length ce, .slice qd ds.length cd, .int .i64 pk.cpu, .bool pk.fill, .bool pk.mids, .bool pk.walk, .int .i64 pk.drop, .bool pk.use, .bool one.on, .int .i64 one.frame, .int .i64 one.tag, .bool two.on, .int .i64 two.frame, .int .i64 two.tag, .int .i64 page, .int .i64 acc, .slice none 0 0], 73⟩ :: ⟨B7, #[.slice none 0 0, .slice none 0 0], 35⟩ :: ⟨B6, #[.int .i64 0, .int .i64 0, .int .i64 0, .bool false, .int .i64 0], 44⟩ :: ⟨B5, (pkV pk).toArray, 42⟩ :: ⟨B4, (rtV two).toArray, 29⟩ :: ⟨B3, (rtV one).toArray, 29⟩ :: ⟨B2, #[.slice qe es.length ce, .slice qd ds.length cd], 35⟩ :: ⟨B1, #[.slice p ws.length cap], 24⟩ :: []) (by (refine hpLe_cnt fun a => ?_; have := HpLe.cnt hle1 a; simp only [cntB_app, cntB_cons, cntB_nil] at *; omega)) ?_
  refine run ?_
  refine st_cond _ rfl (fun hc => ?_) (fun hc => ?_)
  · have hf : mayL ws.length es ds one two page acc = false := by simpa using hc
    rw [hf]
    refine run ?_
    refine dropS 14 ?_
    refine dropS 17 ?_
    refine dropS 18 ?_
    refine drawC 7 3 [0, 1, 2] [3, 4, 5, 6] (⟨Wb, #[.slice p ws.length cap, .slice qe es.length ce, .slice qd ds.length cd, .int .i64 pk.cpu, .bool pk.fill, .bool pk.mids, .bool pk.walk, .int .i64 pk.drop, .bool pk.use, .bool one.on, .int .i64 one.frame, .int .i64 one.tag, .bool two.on, .int .i64 two.frame, .int .i64 two.tag, .int .i64 page, .int .i64 acc, .slice none 0 0], 73⟩ :: ⟨B7, #[.slice none 0 0, .slice none 0 0], 35⟩ :: ⟨B6, #[.int .i64 0, .int .i64 0, .int .i64 0, .bool false, .int .i64 0], 44⟩ :: ⟨B5, (pkV pk).toArray, 42⟩ :: ⟨B4, (rtV two).toArray, 29⟩ :: ⟨B3, (rtV one).toArray, 29⟩ :: ⟨B2, #[.slice qe es.length ce, .slice qd ds.length cd], 35⟩ :: ⟨B1, #[.slice p ws.length cap], 24⟩ :: []) ?_
    refine runZ ?_
    refine cSame ?_
    refine cSame ?_
    refine cVal (fun hx => x_assign rfl) ?_
    refine cVal (fun hx => x_assign rfl) ?_
    refine dc_nil ?_
    refine opsC ?_
    refine run ?_
    exact finTAATT (v := .int .i64 0) (v2 := .slice none 0 0) (v3 := .int .i64 1) (cs := #[.int .i64 0, .int .i64 0, .int .i64 0, .bool false, .int .i64 0]) (cs2 := #[.slice none 0 0, .slice none 0 0]) ⟨fun h => (by cases h), fun _ => rfl⟩
  have hf : mayL ws.length es ds one two page acc = true := by simpa using hc
  have hpg : PtD.btw page 0 4095 = true := by
    simp only [mayL, Bool.and_eq_true] at hf
    exact hf.1.1.2
  have hac : PtD.btw acc 0 2 = true := by
    simp only [mayL, Bool.and_eq_true] at hf
    exact hf.1.2
  obtain ⟨c, hws, hone, htwo, hpk, hpage, hacc⟩ : ∃ c : AcC, ws = c.ws ∧ one = c.one ∧ two = c.two ∧ pk = c.pk ∧ page = (c.page : Int) ∧ acc = c.acc := ⟨⟨ws, one, two, pk, page.toNat, acc⟩, rfl, rfl, rfl, rfl, by simp only [PtD.btw, Bool.and_eq_true, decide_eq_true_eq] at hpg; dsimp only; omega, rfl⟩
  subst hws hone htwo hpk hpage hacc
  obtain ⟨hk, hE, _, _⟩ := mayL_ok hw hf
  rw [hf, Int.toNat_natCast]
  have hco : (⟨c.ws, c.one, c.two, c.pk, c.page, c.acc⟩ : AcC) = c := rfl
  rw [hco]
  refine run ?_
  refine callB (fun wc hG => tlbCopy_e es ds _ _ ((Sees.old he).good hG) ((Sees.old hd).good hG) hel hdl) ?_
  rintro _ hn2 ⟨v1, h1, v2, h2, rfl, hA1, hA2, hle2⟩
  obtain ⟨q1, c1, e1⟩ := hA1.opened
  obtain ⟨q2, c2, e2⟩ := hA2.opened
  rw [List.length_map] at e1 e2
  subst e1 e2
  refine ops_le (⟨Wb, #[.slice p c.ws.length cap, .slice qe es.length ce, .slice qd ds.length cd, .int .i64 c.pk.cpu, .bool c.pk.fill, .bool c.pk.mids, .bool c.pk.walk, .int .i64 c.pk.drop, .bool c.pk.use, .bool c.one.on, .int .i64 c.one.frame, .int .i64 c.one.tag, .bool c.two.on, .int .i64 c.two.frame, .int .i64 c.two.tag, .int .i64 (c.page : Int), .int .i64 c.acc, .slice none 0 0], 73⟩ :: ((h1 ++ h2) ++ ⟨B7, #[.slice none 0 0, .slice none 0 0], 35⟩ :: ⟨B6, #[.int .i64 0, .int .i64 0, .int .i64 0, .bool false, .int .i64 0], 44⟩ :: ⟨B5, (pkV c.pk).toArray, 42⟩ :: ⟨B4, (rtV c.two).toArray, 29⟩ :: ⟨B3, (rtV c.one).toArray, 29⟩ :: ⟨B2, #[.slice qe es.length ce, .slice qd ds.length cd], 35⟩ :: ⟨B1, #[.slice p c.ws.length cap], 24⟩ :: [])) (by (refine hpLe_cnt fun a => ?_; have := HpLe.cnt hle2 a; simp only [cntB_app, cntB_cons, cntB_nil] at *; omega)) ?_
  refine run ?_
  refine callB (fun wc hG => tDrop_e ((Sees.old he).good hG) ((Sees.old hd).good hG) ⟨_, _, rfl, hlc⟩ hE.tlb c.pk.drop) ?_
  rintro _ hn3 ⟨v3, h3, v4, h4, rfl, hD1, hD2, hle3⟩
  have hE' := drop_ok hE c.pk.drop
  have hAc : pageA c es = pageB c (dropL es c.pk.drop) := rfl
  rw [hAc]
  obtain ⟨DB, hDB⟩ : ∃ DB, DB = (decide (0 ≤ c.pk.drop) && decide (c.pk.drop < (es.length : Int))) := ⟨_, rfl⟩
  rw [← hDB] at hD1 hD2
  obtain ⟨q3, n3, c3, q4, n4, c4, e3, e4⟩ : ∃ q3 n3 c3 q4 n4 c4, v3 = .slice q3 n3 c3 ∧ v4 = .slice q4 n4 c4 := by
    cases DB with
    | true =>
      obtain ⟨g1, g2⟩ := hD1 rfl
      obtain ⟨q3, c3, e3⟩ := g1.opened
      obtain ⟨q4, c4, e4⟩ := g2.opened
      exact ⟨_, _, _, _, _, _, e3, e4⟩
    | false =>
      obtain ⟨e3, e4⟩ := hD2 rfl
      exact ⟨_, _, _, _, _, _, e3, e4⟩
  subst e3 e4
  refine ops_le (⟨Wb, #[.slice p c.ws.length cap, .slice q1 es.length c1, .slice q2 ds.length c2, .int .i64 c.pk.cpu, .bool c.pk.fill, .bool c.pk.mids, .bool c.pk.walk, .int .i64 c.pk.drop, .bool c.pk.use, .bool c.one.on, .int .i64 c.one.frame, .int .i64 c.one.tag, .bool c.two.on, .int .i64 c.two.frame, .int .i64 c.two.tag, .int .i64 (c.page : Int), .int .i64 c.acc, .slice none 0 0], 73⟩ :: ((h3 ++ h4) ++ ((h1 ++ h2) ++ ⟨B7, #[.slice none 0 0, .slice none 0 0], 35⟩ :: ⟨B6, #[.int .i64 0, .int .i64 0, .int .i64 0, .bool false, .int .i64 0], 44⟩ :: ⟨B5, (pkV c.pk).toArray, 42⟩ :: ⟨B4, (rtV c.two).toArray, 29⟩ :: ⟨B3, (rtV c.one).toArray, 29⟩ :: ⟨B2, #[.slice qe es.length ce, .slice qd ds.length cd], 35⟩ :: ⟨B1, #[.slice p c.ws.length cap], 24⟩ :: []))) (by (refine hpLe_cnt fun a => ?_; have := HpLe.cnt hle3 a; simp only [cntB_app, cntB_cons, cntB_nil] at *; omega)) ?_
  rw [← hDB]
  refine run ?_
  intro Y
  refine st_cutD (σ := Value × Value × Hp × Hp) (fun _ => []) (fun z => ⟨Wb, #[.slice p c.ws.length cap, z.1, z.2.1, .int .i64 c.pk.cpu, .bool c.pk.fill, .bool c.pk.mids, .bool c.pk.walk, .int .i64 c.pk.drop, .bool c.pk.use, .bool c.one.on, .int .i64 c.one.frame, .int .i64 c.one.tag, .bool c.two.on, .int .i64 c.two.frame, .int .i64 c.two.tag, .int .i64 (c.page : Int), .int .i64 c.acc, .slice none 0 0], 73⟩ :: ((z.2.2.1 ++ z.2.2.2) ++ ⟨B7, #[.slice none 0 0, .slice none 0 0], 35⟩ :: ⟨B6, #[.int .i64 0, .int .i64 0, .int .i64 0, .bool false, .int .i64 0], 44⟩ :: ⟨B5, (pkV c.pk).toArray, 42⟩ :: ⟨B4, (rtV c.two).toArray, 29⟩ :: ⟨B3, (rtV c.one).toArray, 29⟩ :: ⟨B2, #[.slice qe es.length ce, .slice qd ds.length cd], 35⟩ :: ⟨B1, #[.slice p c.ws.length cap], 24⟩ :: [])) (fun z => Own 88 14 z.1 z.2.2.1 ((dropL es c.pk.drop).map enV) ∧ Own 94 4 z.2.1 z.2.2.2 (ds.map ivV)) ?_ ?_
  · refine st_cond _ rfl (fun hc3 => ?_) (fun hc3 => ?_)
    · have hDt : DB = true := by cases DB with
        | true => rfl
        | false => simp at hc3
      obtain ⟨g1, g2⟩ := hD1 hDt
      refine run ?_
      exact meetS (.slice q3 n3 c3, .slice q4 n4 c4, h3, h4) ⟨g1, g2⟩ (h2 := by (refine hpLe_cnt fun a => ?_; simp only [cntB_app, cntB_cons, cntB_nil] <;> omega))
    · have hDf : DB = false := by cases DB with
        | true => simp at hc3
        | false => rfl
      have hdr : dropL es c.pk.drop = es := by unfold dropL; rw [← hDB, hDf]; rfl
      refine run ?_
      exact meetS (.slice q1 es.length c1, .slice q2 ds.length c2, h1, h2) ⟨by rw [hdr]; exact hA1, hA2⟩ (h2 := by (refine hpLe_cnt fun a => ?_; simp only [cntB_app, cntB_cons, cntB_nil] <;> omega))
  rintro ⟨ev1, dv1, he1, hd1⟩ ⟨g1, g2⟩
  dsimp only at g1 g2 ⊢
  refine run ?_
  refine callM (⟨Wb, #[.slice p c.ws.length cap, ev1, dv1, .int .i64 c.pk.cpu, .bool c.pk.fill, .bool c.pk.mids, .bool c.pk.walk, .int .i64 c.pk.drop, .bool c.pk.use, .bool c.one.on, .int .i64 c.one.frame, .int .i64 c.one.tag, .bool c.two.on, .int .i64 c.two.frame, .int .i64 c.two.tag, .int .i64 (c.page : Int), .int .i64 c.acc, .slice none 0 0], 73⟩ :: (he1 ++ hd1 ++ [])) (⟨B7, #[.slice none 0 0, .slice none 0 0], 35⟩ :: ⟨B6, #[.int .i64 0, .int .i64 0, .int .i64 0, .bool false, .int .i64 0], 44⟩ :: ⟨B5, (pkV c.pk).toArray, 42⟩ :: ⟨B4, (rtV c.two).toArray, 29⟩ :: ⟨B3, (rtV c.one).toArray, 29⟩ :: ⟨B2, #[.slice qe es.length ce, .slice qd ds.length cd], 35⟩ :: ⟨B1, #[.slice p c.ws.length cap], 24⟩ :: []) (fun wc hG => wyFrame_e c hk cap hcc (dropL es c.pk.drop) ds hE' hac ((Sees.old hm).into hG) g1 g2 (Own.nil _ _) hG.hereN) ?_ (by (refine perm_cnt fun a => ?_; simp only [cntB_app, cntB_cons, cntB_nil] <;> omega))
  rintro u5 hn5 ⟨ev2, dv2, rv2, he2, hd2, hr2, rfl, h12, h22, h32, hle5⟩
  simp only [wyC] at hle5
  generalize pageB c (dropL es c.pk.drop) = X at h12 h32 ⊢
  obtain ⟨q5, c5, e5⟩ := h12.opened
  obtain ⟨q6, c6, e6⟩ := h22.opened
  obtain ⟨q7, c7, e7⟩ := h32.opened
  rw [List.length_map] at e5 e6 e7
  subst e5 e6 e7
  refine ops_le (⟨Wb, #[.slice p c.ws.length cap, .slice q5 X.s.es.length c5, .slice q6 ds.length c6, .int .i64 c.pk.cpu, .bool c.pk.fill, .bool c.pk.mids, .bool c.pk.walk, .int .i64 c.pk.drop, .bool c.pk.use, .bool c.one.on, .int .i64 c.one.frame, .int .i64 c.one.tag, .bool c.two.on, .int .i64 c.two.frame, .int .i64 c.two.tag, .int .i64 (c.page : Int), .int .i64 c.acc, .slice q7 X.s.rd.length c7], 73⟩ :: ⟨B7, #[.slice none 0 0, .slice none 0 0], 35⟩ :: ⟨B6, #[.int .i64 0, .int .i64 0, .int .i64 0, .bool false, .int .i64 0], 44⟩ :: ⟨B5, (pkV c.pk).toArray, 42⟩ :: ⟨B4, (rtV c.two).toArray, 29⟩ :: ⟨B3, (rtV c.one).toArray, 29⟩ :: ⟨B2, #[.slice qe es.length ce, .slice qd ds.length cd], 35⟩ :: ⟨B1, #[.slice p c.ws.length cap], 24⟩ :: (he2 ++ hd2 ++ hr2)) (by (refine hpLe_cnt fun a => ?_; have := HpLe.cnt hle5 a; simp only [cntB_app, cntB_cons, cntB_nil] at *; omega)) ?_
  refine run ?_
  refine dropS 17 ?_
  refine dropS 18 ?_
  refine drawCS 15 11 10 [0, 1, 2, 3, 4, 5, 6, 7, 8, 9, 10] [11, 12, 13, 14] (⟨B6, #[.int .i64 X.f.kind, .int .i64 X.f.stage, .int .i64 X.f.level, .bool X.f.walk, .int .i64 X.f.page], 44⟩ :: ⟨Wb, #[.slice p c.ws.length cap, .slice q5 X.s.es.length c5, .slice q6 ds.length c6, .int .i64 c.pk.cpu, .bool c.pk.fill, .bool c.pk.mids, .bool c.pk.walk, .int .i64 c.pk.drop, .bool c.pk.use, .bool c.one.on, .int .i64 c.one.frame, .int .i64 c.one.tag, .bool c.two.on, .int .i64 c.two.frame, .int .i64 c.two.tag, .int .i64 (c.page : Int), .int .i64 c.acc, .slice q7 X.s.rd.length c7], 73⟩ :: ⟨B5, (pkV c.pk).toArray, 42⟩ :: ⟨B4, (rtV c.two).toArray, 29⟩ :: ⟨B3, (rtV c.one).toArray, 29⟩ :: ⟨B2, #[.slice qe es.length ce, .slice qd ds.length cd], 35⟩ :: ⟨B1, #[.slice p c.ws.length cap], 24⟩ :: (he2 ++ hd2 ++ hr2)) ?_
  refine runZ ?_
  refine ⟨.inr rfl, ?_⟩
  refine cSame (b := B6) (tb := 44) (cs := #[.int .i64 X.f.kind, .int .i64 X.f.stage, .int .i64 X.f.level, .bool X.f.walk, .int .i64 X.f.page]) ?_
  refine cStore (b := B7) (tb := 35) (cs := #[.slice none 0 0, .slice none 0 0]) (cs' := #[.slice q5 X.s.es.length c5, .slice q6 ds.length c6]) (hp' := ⟨B6, #[.int .i64 X.f.kind, .int .i64 X.f.stage, .int .i64 X.f.level, .bool X.f.walk, .int .i64 X.f.page], 44⟩ :: ⟨Wb, #[.slice p c.ws.length cap, .slice q5 X.s.es.length c5, .slice q6 ds.length c6, .int .i64 c.pk.cpu, .bool c.pk.fill, .bool c.pk.mids, .bool c.pk.walk, .int .i64 c.pk.drop, .bool c.pk.use, .bool c.one.on, .int .i64 c.one.frame, .int .i64 c.one.tag, .bool c.two.on, .int .i64 c.two.frame, .int .i64 c.two.tag, .int .i64 (c.page : Int), .int .i64 c.acc, .slice q7 X.s.rd.length c7], 73⟩ :: ⟨B5, (pkV c.pk).toArray, 42⟩ :: ⟨B4, (rtV c.two).toArray, 29⟩ :: ⟨B3, (rtV c.one).toArray, 29⟩ :: ⟨B2, #[.slice qe es.length ce, .slice qd ds.length cd], 35⟩ :: ⟨B1, #[.slice p c.ws.length cap], 24⟩ :: (he2 ++ hd2 ++ hr2)) ?_ (by (refine perm_cnt fun a => ?_; simp only [cntB_app, cntB_cons, cntB_nil] <;> omega))
  refine cVal (fun hx => x_assign rfl) ?_
  refine cVal (fun hx => x_assign rfl) ?_
  refine dc_nil ?_
  refine opsC ?_
  refine run ?_
  exact finTAATT (v := .int .i64 X.n) (v2 := .slice q7 X.s.rd.length c7) (v3 := .int .i64 0) (cs := #[.int .i64 X.f.kind, .int .i64 X.f.stage, .int .i64 X.f.level, .bool X.f.walk, .int .i64 X.f.page]) (cs2 := #[.slice q5 X.s.es.length c5, .slice q6 ds.length c6]) ⟨fun _ => ⟨_, _, _, he2, hd2, hr2, rfl, h12, h22, h32, by (refine hpLe_cnt fun a => ?_; simp only [cntB_app, cntB_cons, cntB_nil] <;> omega)⟩, fun h => by cases h⟩
end Go.Proofs.YtdaenalnmdmflaaGreat
