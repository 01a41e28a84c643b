/- Layer 16: Put, Unmap, Map, Split: the document's. -/
import Derived.Test.YtiaelhhmlbfkmaaGreatPgB
namespace Go.Proofs.YtiaelhhmlbfkmaaGreat
open Go.RowKit
set_option linter.unusedVariables false
set_option linter.unusedSimpArgs false
set_option maxRecDepth 20000
def PutR (r : TbR) (u : Value) (hn : Hp) : Prop := ∃ v h1, u = .tuple #[.agg #[v], .int .i64 r.e] ∧ Own 47 1 v h1 (r.ws.map uV) ∧ HpLe h1 hn
def UnR (r : TbR × DsD) (u : Value) (hn : Hp) : Prop := ∃ v h1, u = .tuple #[.agg #[v], dsV r.2, .int .i64 r.1.e] ∧ Own 47 1 v h1 (r.1.ws.map uV) ∧ HpLe h1 hn
def MapR (r : TbR) (u : Value) (hn : Hp) : Prop := ∃ v h1 v2 h2, u = .tuple #[.agg #[v], v2, .int .i64 r.e] ∧ Own 47 1 v h1 (r.ws.map uV) ∧ Own 3 1 v2 h2 (r.left.map inV) ∧ HpLe (h1 ++ h2) hn
theorem Own.nil (e sz : Nat) : Own e sz (.slice none 0 0) [] [] := ⟨by simp, .inl ⟨rfl, rfl, rfl⟩⟩
/-- Three results, the first a struct. -/
theorem finAT {fn : Func} {R : Value → Hp → Prop} {l : Fm} {hp : Hp} {a t b s1 s2 : Nat} {cs : Array Value} {tb : TypeId} {v1 v2 : Value} (h : R (.tuple #[.agg cs, v1, v2]) hp) (hr : fn.results = #[.cell a t, .tmp s1, .tmp s2] := by rfl) (hv : look l a = some (.pointer (some ⟨b, 0, none⟩)) := by rfl) (h1 : look l s1 = some v1 := by rfl) (h2 : look l s2 = some v2 := by rfl) (hag : mem Tb.ag t = true := by rfl) (hm : (⟨b, cs, tb⟩ : Blk) ∈ hp := by (first | (with_reducible apply mh) | (focus ((repeat (first | (with_reducible apply mh) | (with_reducible apply mt) | (with_reducible apply List.mem_append_right))); done)))) (hz : lk Tb.sz t = some cs.size := by rfl) : Fin Tryz.prog fn R .ret l hp := finA3 h hr hv h1 h2 hag hm hz
/-- Three results, the first a struct, the second one too. -/
theorem finAA {fn : Func} {R : Value → Hp → Prop} {l : Fm} {hp : Hp} {a t b a2 t2 b2 s2 : Nat} {cs cs2 : Array Value} {tb tb2 : TypeId} {v2 : Value} (h : R (.tuple #[.agg cs, .agg cs2, v2]) hp) (hr : fn.results = #[.cell a t, .cell a2 t2, .tmp s2] := by rfl) (hv : look l a = some (.pointer (some ⟨b, 0, none⟩)) := by rfl) (hw : look l a2 = some (.pointer (some ⟨b2, 0, none⟩)) := by rfl) (h2 : look l s2 = some v2 := by rfl) (hag : mem Tb.ag t = true := by rfl) (hm : (⟨b, cs, tb⟩ : Blk) ∈ hp := by (first | (with_reducible apply mh) | (focus ((repeat (first | (with_reducible apply mh) | (with_reducible apply mt) | (with_reducible apply List.mem_append_right))); done)))) (hz : lk Tb.sz t = some cs.size := by rfl) (hag2 : mem Tb.ag t2 = true := by rfl) (hm2 : (⟨b2, cs2, tb2⟩ : Blk) ∈ hp := by (first | (with_reducible apply mh) | (focus ((repeat (first | (with_reducible apply mh) | (with_reducible apply mt) | (with_reducible apply List.mem_append_right))); done)))) (hz2 : lk Tb.sz t2 = some cs2.size := by rfl) : Fin Tryz.prog fn R .ret l hp :=
  ⟨.inl rfl, [.agg cs, .agg cs2, v2], by rw [hr]; exact ⟨⟨⟨b, cs, tb⟩, hm, hv, .inr ⟨tb_ok.gag hag, tb_ok.gsz hz, rfl⟩⟩, ⟨⟨b2, cs2, tb2⟩, hm2, hw, .inr ⟨tb_ok.gag hag2, tb_ok.gsz hz2, rfl⟩⟩, h2, trivial⟩, h⟩
theorem HpLe.mem {r h : Hp} (hl : HpLe r h) {b : Blk} (hb : b ∈ r) : b ∈ h := by
  obtain ⟨x, hx⟩ := hl.perm
  exact hx.mem_iff.1 (List.mem_append_left _ hb)
theorem walkL_len {ws : List Nat} {page down : Nat} : ∀ (k level : Nat) (f : Int) (fs : List Int) (d : DsD), (walkL ws page down k level f fs d).fs.length ≤ fs.length + k := by
  intro k
  induction k with
  | zero => intro level f fs d; exact Nat.le_refl _
  | succ k ih =>
    intro level f fs d
    rw [walkL]
    cases hasF ws.length f with
    | false => simp
    | true =>
      simp only [cond_true]
      cases (!decide ((dAt ws (atN f level page) level).kind = 1) || decide (level = down)) with
      | true => simp
      | false =>
        have := ih (level + 1) (dAt ws (atN f level page) level).frame (fs ++ [f]) (dAt ws (atN f level page) level)
        rw [List.length_append, List.length_singleton] at this
        simp only [cond_false]; omega
theorem wayL_len (ws : List Nat) (root : Int) (page down : Nat) : (wayL ws root page down).fs.length ≤ 4 := walkL_len 4 0 root [] noDs
theorem snoc_place (fs : List Int) (f : Int) (d : DsD) (b : Bool) (page : Nat) : (⟨fs ++ [f], d, b⟩ : WkD).lv = fs.length ∧ (⟨fs ++ [f], d, b⟩ : WkD).place page = atN f fs.length page := by
  have h1 : (⟨fs ++ [f], d, b⟩ : WkD).lv = fs.length := by simp [WkD.lv]
  refine ⟨h1, ?_⟩
  unfold WkD.place
  rw [h1]
  congr 1
  simp [List.getD_eq_getElem?_getD]
attribute [local irreducible] Hy St Ops DH DHF
theorem rPut_e (ws : List Nat) (hw : W64 ws) {w : World} {v : Value} (h : SlAt w v 1 (ws.map uV)) (root : Int) (page : Nat) (hp : page ≤ 4095) (level : Nat) (hl : level < 4) (d : DsD) (hm : d.may 2 level = true) (hn : ws.length < 1000000) : Fn Tryz.prog 67 [.agg #[v], .int .i64 root, .int .i64 (page : Int), .int .i64 (level : Int), dsV d].toArray w [] (fun u hn => PutR (putM ws root page level d) u hn) := by
  obtain ⟨q, cap, rfl, hne, hle⟩ := h.opened
  refine enter Tryz.func67 ?_
  refine run ?_
  intro B C D
  refine run ?_
  refine loopS (σ := Nat × Int × List Int × DsD) (fun s => [(12, .int .i64 s.2.1), (13, .int .i64 (s.1 : Int))]) (fun _ => [⟨D, #[.slice none 0 0], 24⟩, ⟨C, #[.int .i64 d.kind, .int .i64 d.frame, .bool d.r, .bool d.w, .bool d.x, .bool d.af, .bool d.ng, .int .i64 d.soft, .int .i64 d.note], 124⟩, ⟨B, #[.slice q ws.length cap], 24⟩]) (fun s => s.1 ≤ level ∧ s.2.2.1.length = s.1 ∧ walkL ws page level (4 - s.1) s.1 s.2.1 s.2.2.1 s.2.2.2 = wayL ws root page level) (fun s => 4 - s.1) (0, root, [], noDs) ⟨Nat.zero_le _, rfl, rfl⟩ ?_
  rintro ⟨k, f, fs, d0⟩ m hm2 ⟨hk, hfs, hwk⟩
  dsimp only at hm2 hk hfs hwk ⊢
  have h4 : 4 - k = (3 - k) + 1 := by omega
  rw [h4, walkL] at hwk
  refine run ?_
  refine callE (fun wc hG => rThere_e ws.length cap q hn f wc) ?_
  refine run ?_
  refine st_cond _ rfl (fun hc => ?_) (fun hc => ?_)
  · have hh : hasF ws.length f = false := by simpa using hc
    rw [hh, cond_false] at hwk
    refine run ?_
    have e : putM ws root page level d = badM 2 := by simp only [putM, ← hwk]; rfl
    rw [e]
    refine finA1 ⟨_, _, rfl, Own.nil _ _, trivial⟩
  · have hh : hasF ws.length f = true := by simpa using hc
    rw [hh, cond_true] at hwk
    refine run ?_
    refine st_cond _ rfl (fun hc2 => ?_) (fun hc2 => ?_)
    · have hkl : k = level := by simp at hc2; omega
      subst hkl
      rw [decide_eq_true rfl, Bool.or_true, cond_true] at hwk
      have e : putM ws root page k d = ⟨putL ws (atN f k page) k d, [], 0⟩ := by
        obtain ⟨p1, p2⟩ := snoc_place fs f (dAt ws (atN f k page) k) true page
        rw [hfs] at p1 p2
        simp only [putM, ← hwk, p1, p2, decide_true, Bool.not_true, cond_false]
      rw [e]
      refine run ?_
      refine callB (fun wc hG => rPutw_e ws (h.good hG) f k hl hh page hp d hm hn) ?_
      rintro u hn2 ⟨v2, h2, rfl, hO, hle2⟩
      obtain ⟨q2, cap2, rfl⟩ := hO.opened
      refine ops_sub hle2 ?_
      refine ops_perm (_ ++ h2) List.perm_append_comm ?_
      simp only [List.cons_append, List.nil_append]
      refine run ?_
      refine finA1 ⟨_, _, rfl, hO, by (exact clcntL)⟩
    · have hkl : k < level := by simp at hc2; omega
      rw [show decide (k = level) = false from decide_eq_false (by omega), Bool.or_false] at hwk
      refine run ?_
      refine callE (fun wc hG => rTable2_e ws hw (h.good hG) k (by omega) f hh page hp hn) ?_
      generalize hd' : dAt ws (atN f k page) k = d' at hwk
      refine run ?_
      intro E
      refine run ?_
      refine st_cond _ rfl (fun hc3 => ?_) (fun hc3 => ?_)
      · have hk1 : (!decide (d'.kind = 1)) = true := hc3
        rw [hk1, cond_true] at hwk
        refine run ?_
        have e : putM ws root page level d = badM 3 := by
          obtain ⟨p1, p2⟩ := snoc_place fs f d' true page
          rw [hfs] at p1
          simp only [putM, ← hwk, p1, show decide (k = level) = false from decide_eq_false (by omega)]
          rfl
        rw [e]
        refine finA1 ⟨_, _, rfl, Own.nil _ _, trivial⟩
      · have hk1 : (!decide (d'.kind = 1)) = false := by simpa using hc3
        rw [hk1, cond_false] at hwk
        refine run ?_
        refine nextS (k + 1, d'.frame, fs ++ [f], d') ⟨hkl, by simp [hfs], ?_⟩
        rw [← hwk]
        show walkL ws page level (4 - (k + 1)) _ _ _ _ = _
        rw [show 4 - (k + 1) = 3 - k by omega]
/-- A memory, wherever it lies. -/
def MemAt (w0 : World) (mv : Value) (hm : Hp) (us : List Nat) : Prop := ∀ wc hp, Good w0 [] hp wc → (∀ b ∈ hm, b ∈ hp) → SlAt wc mv 1 (us.map uV)
structure LkS where
  i : Nat
  us : List Nat
  ft : Int
  p : Option Addr
  mq : Option Addr
  mc : Nat
  hm : Hp
theorem SlAt.drop {w : World} {p : Option Addr} {n c i : Nat} {xs : List Int} (h : SlAt w (.slice p n c) 1 (xs.map inV)) (hn : n = xs.length) (hc : n ≤ c) (hi : i ≤ n) : ∃ p', sliced p i n c 1 = .slice p' (xs.drop i).length (c - i) ∧ (xs.drop i).length ≤ c - i ∧ SlAt w (.slice p' (xs.drop i).length (c - i)) 1 ((xs.drop i).map inV) := by
  subst hn
  obtain ⟨⟨q, cap, e, hne⟩, hle⟩ := h
  injection e with e1 e2 e3
  subst e1 e3
  have hdl : (xs.drop i).length = xs.length - i := List.length_drop
  refine ⟨_, by unfold sliced; rw [hdl], by omega, ⟨⟨_, _, by rw [List.length_map], fun hx => ?_⟩, by rw [List.length_map] at hle ⊢; omega⟩⟩
  have hlt : i < xs.length := by
    rcases Nat.lt_or_ge i xs.length with h | h
    · exact h
    · rw [List.drop_eq_nil_of_le h] at hx; exact absurd rfl hx
  obtain ⟨b, o, rfl, hr⟩ := hne (by intro e; simp at e; subst e; simp at hlt)
  refine ⟨b, o + i, ?_, fun j cc hj => ?_⟩
  · rw [if_neg (by omega), Nat.mul_one]; simp [slice_add]
  · rw [List.map_drop, List.getElem?_drop] at hj
    have := hr (i + j) cc hj
    rw [Nat.mul_one] at this ⊢
    rwa [← Nat.add_assoc] at this
theorem rMap_e (ws : List Nat) (hw : W64 ws) {w : World} {v vl : Value} (h : SlAt w v 1 (ws.map uV)) (l : List Int) (hv : SlAt w vl 1 (l.map inV)) (hcap : ∃ p c, vl = .slice p l.length c ∧ l.length ≤ c) (root : Int) (page : Nat) (hp : page ≤ 4095) (d : DsD) (hm : d.may 2 3 = true) (hn : ws.length ≤ 512) (hln : l.length < 1000000) : Fn Tryz.prog 64 [.agg #[v], .int .i64 root, vl, .int .i64 (page : Int), dsV d].toArray w [] (fun u hn => MapR (mapL ws root l page d) u hn) := by
  obtain ⟨q, cap, rfl, hne, hle⟩ := h.opened
  obtain ⟨ql, capl, rfl, hcap⟩ := hcap
  refine enter Tryz.func64 ?_
  refine run ?_
  intro B C D
  refine run ?_
  refine callB (fun wc hG => rWay_e ws hw (h.good hG) root page hp (by omega)) ?_
  rintro u hn2 ⟨v2, h2, rfl, hO, hle2⟩
  refine ops_sub hle2 ?_
  refine ops_perm (_ ++ h2) List.perm_append_comm ?_
  simp only [List.cons_append, List.nil_append]
  refine run ?_
  intro E
  refine run ?_
  have hl4 := wayL_len ws root page 3
  cases hok : (wayL ws root page 3).ok with
  | false =>
    have e : mapL ws root l page d = badM 2 := by simp only [mapL, hok]; rfl
    rw [e]
    refine runC ?_
    refine finAT ⟨_, _, _, _, rfl, Own.nil _ _, Own.nil _ _, trivial⟩
  | true =>
    have hfine := wayL_fine hok
    have hnt := way_tab hok
    simp only [mapL, hok]
    generalize wayL ws root page 3 = W at hO hok hfine hnt hl4 ⊢
    have hle4 := hfine.le
    have hpos := hfine.pos
    obtain ⟨g, cap2, cur, rfl, rfl, hnth, hszc, _⟩ := hO.setI (k := W.fs.length - 1) (by omega)
    simp only [cond_true, Bool.true_and]
    refine runC ?_
    refine callEG (fun hg wc hG => rFree_e ws.length cap q (by omega) W.fs l (hv.good hG) (hO.lie (fun b hb => hG.here b (by simp at hb; simp [hb])) (by simp; omega))) ?_
    refine runC ?_
    refine st_cond _ rfl (fun hc => ?_) (fun hc => ?_)
    · have hfr : freeL ws.length W.fs l = false := by simpa using hc
      rw [hfr, Bool.not_false, cond_true]
      refine runC ?_
      refine finAT ⟨_, _, _, _, rfl, Own.nil _ _, Own.nil _ _, trivial⟩
    have hfr : freeL ws.length W.fs l = true := by simpa using hc
    rw [hfr, Bool.not_true, cond_false]
    clear hc
    have hmay : W.d.may 2 W.lv = true := by rw [hfine.d]; exact dAt_may _ _ _
    have hnote : 0 ≤ W.d.note := by
      obtain ⟨k1, k2, k3, k4⟩ := may_kinds hmay
      rcases k1 with e | e | e
      · have := k2 e; omega
      · exact (hnt e).elim
      · have := k4 e; omega
    have hlv : W.lv = W.fs.length - 1 := rfl
    have e1 : decide ((W.lv : Int) < 3) = decide (W.fs.length < 4) := by rw [Bool.eq_iff_iff, decide_eq_true_eq, decide_eq_true_eq]; omega
    have e2 : decide (0 < W.d.note) = !decide (W.d.note = 0) := by rw [Bool.eq_iff_iff, decide_eq_true_eq]; simp; omega
    refine runG ?_
    refine st_cond _ rfl (fun hc => ?_) (fun hc => ?_)
    · rw [e1, e2] at hc
      rw [hc, cond_true]
      refine runC ?_
      refine finAT ⟨_, _, _, _, rfl, Own.nil _ _, Own.nil _ _, trivial⟩
    rw [e1, e2] at hc
    rw [hc, cond_false]
    clear hc
    have e3 : decide ((l.length : Int) < 3 - (W.lv : Int)) = decide (l.length + W.fs.length < 4) := by rw [Bool.eq_iff_iff, decide_eq_true_eq, decide_eq_true_eq]; omega
    refine runG ?_
    refine st_cond _ rfl (fun hc => ?_) (fun hc => ?_)
    · rw [e3] at hc
      rw [hc, cond_true]
      refine runC ?_
      refine finAT ⟨_, _, _, _, rfl, Own.nil _ _, Own.nil _ _, trivial⟩
    rw [e3] at hc
    rw [hc, cond_false]
    replace hc : 4 ≤ l.length + W.fs.length := by simpa using hc
    refine run ?_
    rw [show ((W.fs.length : Int) - 1).toNat = W.fs.length - 1 by omega]
    refine run ?_
    generalize hlk : 4 - W.fs.length = lk
    have hlkl : lk ≤ l.length := by omega
    refine loopS (σ := LkS) (fun s => [(15, .int .i64 ((W.lv + s.i : Nat) : Int)), (17, .int .i64 s.ft), (2, .slice s.p (l.drop s.i).length (capl - s.i))]) (fun s => ⟨D, #[.slice none 0 0], 24⟩ :: ⟨C, #[.int .i64 d.kind, .int .i64 d.frame, .bool d.r, .bool d.w, .bool d.x, .bool d.af, .bool d.ng, .int .i64 d.soft, .int .i64 d.note], 124⟩ :: ⟨B, #[.slice s.mq ws.length s.mc], 24⟩ :: s.hm) (fun s => s.i ≤ lk ∧ linkL page ((l.take lk).drop s.i) (atN s.ft (W.lv + s.i) page) (W.lv + s.i) s.us = linkL page (l.take lk) (W.place page) W.lv ws ∧ s.us.length = ws.length ∧ W64 s.us ∧ hasF ws.length s.ft = true ∧ SlAt w (.slice s.p (l.drop s.i).length (capl - s.i)) 1 ((l.drop s.i).map inV) ∧ (l.drop s.i).length ≤ capl - s.i ∧ MemAt w (.slice s.mq ws.length s.mc) s.hm s.us) (fun s => lk - s.i) ⟨0, ws, W.fs.getD (W.fs.length - 1) 0, ql, q, cap, []⟩ ⟨Nat.zero_le _, rfl, rfl, hw, ?_, hv, by simpa using hcap, fun wc hp hG _ => h.good hG⟩ ?_
    · exact hfine.has _ (by rw [List.getD_eq_getElem?_getD, List.getElem?_eq_getElem (by omega)]; simp)
    rintro ⟨i, us, f0, p, mq, mc, hm1⟩ m hm2 ⟨hi, hlink, hul, huw, hf0, hsl, hsc, hmem⟩
    dsimp only at hm2 hi hlink hul huw hf0 hsl hsc hmem ⊢
    refine run ?_
    refine st_cond _ rfl (fun hc3 => ?_) (fun hc3 => ?_)
    · have hilt : i < lk := by simp at hc3; omega
      obtain ⟨q5, cap5, e5, hne5, _⟩ := hsl.opened
      injection e5 with e5
      subst e5
      obtain ⟨b5, o5, rfl⟩ := hne5 (by intro e; have := congrArg List.length e; simp at this; omega)
      have hr := rangeAt_cell0 (hsl.row (k := 0) (by simp; omega))
      have e6 : (l.drop i).getD 0 default = l.getD i 0 := by simp [List.getD_eq_getElem?_getD]
      simp only [Nat.zero_mul, Nat.add_zero, e6] at hr
      generalize hf : l.getD i 0 = f at hr
      have hfh : hasF ws.length f = true := by rw [← hf]; exact freeL_has hfr (by omega)
      have hfi := hasF_iff hfh
      have hlen : (l.drop i).length = l.length - i := List.length_drop
      refine run ?_
      refine drawC 14 20 [0, 1, 2, 3, 6, 7, 8, 9, 10, 11, 12] [4, 5, 13] (⟨D, #[.slice none 0 0], 24⟩ :: ⟨C, #[.int .i64 d.kind, .int .i64 d.frame, .bool d.r, .bool d.w, .bool d.x, .bool d.af, .bool d.ng, .int .i64 d.soft, .int .i64 d.note], 124⟩ :: ⟨B, #[.slice mq ws.length mc], 24⟩ :: hm1) ?_
      refine runZ ?_
      refine cSlice (inV f) (fun T => ?_)
      refine cCall (fun wc hG => rZero_e us (hmem wc _ hG (fun b hb => by simp [hb])) f (by rw [hul]; exact hfh) (v1 := .slice (some ⟨T, 0, none⟩) 1 1) (lie_rows (xs := [inV f]) (hG.here ⟨T, (inV f).toArray, 3⟩ (by simp)) (by simp [inV]) (by simp)) (by omega)) ?_
      rintro u hn3 ⟨v3, h3, rfl, hO3, hle3⟩
      refine cCall (fun wc hG => rPutw_e (zeroF us f) (hO3.lie (fun b hb => hG.here b (List.mem_append_left _ (hle3.mem hb))) (by simp [zeroF_len]; omega)) f0 (W.lv + i) (by omega) (by rw [zeroF_len, hul]; exact hf0) page hp (tabD f) (tabD_may (by omega) (by omega) (by omega)) (by rw [zeroF_len]; omega)) ?_
      rintro u hn4 ⟨v4, h4, rfl, hO4, hle4'⟩
      refine dc_nil ?_
      refine opsC ?_
      obtain ⟨g4, cap4, cur4, rfl, rfl, hr4⟩ := hO4.row (n := ws.length) (by rw [List.length_map, putL_len, zeroF_len, hul]) (by omega)
      refine ops_le (⟨B, #[.slice mq ws.length mc], 24⟩ :: ⟨D, #[.slice none 0 0], 24⟩ :: ⟨C, #[.int .i64 d.kind, .int .i64 d.frame, .bool d.r, .bool d.w, .bool d.x, .bool d.af, .bool d.ng, .int .i64 d.soft, .int .i64 d.note], 124⟩ :: [⟨g4, cur4, 47⟩]) (cnt1 hle4') ?_
      refine run ?_
      obtain ⟨p', e7, hc7, hsl7⟩ := hsl.drop (i := 1) rfl hsc (by omega)
      have e8 : (l.drop i).drop 1 = l.drop (i + 1) := by rw [List.drop_drop]
      have e9 : capl - i - 1 = capl - (i + 1) := by omega
      rw [e8, e9] at e7 hc7 hsl7
      refine dropS 17 ?_
      refine drawC 6 20 [0, 1, 2, 3, 4, 5] [] (⟨B, #[.slice (some ⟨g4, 0, none⟩) ws.length cap4], 24⟩ :: ⟨D, #[.slice none 0 0], 24⟩ :: ⟨C, #[.int .i64 d.kind, .int .i64 d.frame, .bool d.r, .bool d.w, .bool d.x, .bool d.af, .bool d.ng, .int .i64 d.soft, .int .i64 d.note], 124⟩ :: [⟨g4, cur4, 47⟩]) ?_
      refine runZ ?_
      refine ds_b (by rfl) (by decide +kernel) (fun hx2 => x_sliceLV tb_ok rfl rfl (by rfl) (by decide) (by omega)) ?_
      refine runZ ?_
      refine dc_nil ?_
      refine opsC ?_
      rw [show sliced (some ⟨b5, o5, none⟩) (1 : Int).toNat (l.drop i).length (capl - i) 1 = _ from e7]
      refine run ?_
      have hcons : (l.take lk).drop i = f :: (l.take lk).drop (i + 1) := by
        have h1 : i < (l.take lk).length := by rw [List.length_take]; omega
        rw [List.drop_eq_getElem_cons h1, List.getElem_take, ← hf, List.getD_eq_getElem?_getD, List.getElem?_eq_getElem (by omega)]; rfl
      rw [hcons, linkL] at hlink
      refine nextS ⟨i + 1, putL (zeroF us f) (atN f0 (W.lv + i) page) (W.lv + i) (tabD f), f, p', some ⟨g4, 0, none⟩, cap4, [⟨g4, cur4, 47⟩]⟩ ⟨hilt, hlink, by dsimp only; rw [putL_len, zeroF_len, hul], (huw.zeroF f).putL _ _ _, hfh, hsl7, hc7, fun wc hp hG hb => hO4.lie (fun b hb' => hG.here b (hb b hb')) (by simp [putL_len, zeroF_len, hul]; omega)⟩ (hm := by dsimp only; omega) (h2 := by (exact clcntL))
    · have hw8 := (hasF_iff hf0).2.1
      refine run ?_
      refine callB (fun wc hG => rPutw_e us (hmem wc _ hG (fun b hb => by simp [hb])) f0 3 (by decide) (by rw [hul]; exact hf0) page hp d hm (by omega)) ?_
      rintro u hn4 ⟨v4, h4, rfl, hO4, hle4'⟩
      obtain ⟨g4, cap4, cur4, rfl, rfl, hr4⟩ := hO4.row (n := ws.length) (by rw [List.length_map, putL_len, hul]) (by omega)
      refine ops_le (⟨D, #[.slice none 0 0], 24⟩ :: [⟨g4, cur4, 47⟩]) (cnt1 hle4') ?_
      refine run ?_
      refine callB (fun wc hG => copyNumbers_e (l.drop i) _ (hsl.good hG) (by simp; omega)) (fun v5 h5 hO5 => ?_)
      obtain ⟨q5, cap5, rfl⟩ := hO5.own.opened
      refine ops_perm (_ ++ h5) List.perm_append_comm ?_
      simp only [List.cons_append, List.nil_append]
      refine run ?_
      have hik : i = lk := by simp at hc3; omega
      subst hik
      have h3 : W.lv + i = 3 := by omega
      rw [List.drop_eq_nil_of_le (by simp; omega), linkL, h3] at hlink
      refine finAT ⟨_, [⟨g4, cur4, 47⟩], _, h5, rfl, ?_, hO5.own, by (exact clcntL)⟩
      rw [← hlink]
      exact hO4
end Go.Proofs.YtiaelhhmlbfkmaaGreat
