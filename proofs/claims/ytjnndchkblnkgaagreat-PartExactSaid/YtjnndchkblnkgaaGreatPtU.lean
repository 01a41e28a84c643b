/- Layer 18 (part): what was told is spoilt; the host brought back to a processor. -/
import Derived.Test.YtjnndchkblnkgaaGreatPtT
namespace Go.Proofs.YtjnndchkblnkgaaGreat
open Go.RowKit
set_option linter.unusedVariables false
set_option linter.unusedSimpArgs false
set_option maxRecDepth 20000
attribute [local irreducible] Hy St Ops DH DHF
theorem Own.setRow {e : Nat} {v : Value} {h : Hp} {xs : List MpD} (hA : Own e 2 v h (xs.map mpV)) {k : Nat} (hk : k < xs.length) : ∃ g cap cur, v = .slice (some ⟨g, 0, none⟩) xs.length cap ∧ h = [⟨g, cur, e⟩] ∧ k * 2 + 2 ≤ cur.size ∧
    ∀ z : MpD, Own e 2 v [⟨g, putAt cur (k * 2) (mpV z), e⟩] ((xs.set k z).map mpV) := by
  obtain ⟨g, cap, cur, rfl, rfl, hr⟩ := hA.row (n := xs.length) (by simp) (by omega)
  have hall : ∀ c ∈ xs.map mpV, c.length = 2 := fun c hc => (mp_all c hc).1
  have hi : (xs.map mpV)[k]? = some (mpV (xs.getD k default)) := by
    rw [List.getElem?_map, List.getD_eq_getElem?_getD, List.getElem?_eq_getElem hk]; rfl
  have hsz := hr.size
  have hle := hr.le
  refine ⟨g, cap, cur, rfl, rfl, by omega, fun z => ⟨mp_all, .inr ⟨g, cap, _, by simp, rfl, ?_⟩⟩⟩
  have h2 := hr.put hall hi (k := 0) (vs := mpV z) (by simp [mpV])
  have e2 : ((xs.set k z).map mpV).length = xs.length := by simp
  rw [e2, List.map_set]
  exact h2
theorem spoilInts_e {w : World} {v : Value} {ha : Hp} (xs : List Int) (hA : Own 3 1 v ha (xs.map inV)) (hN : HereN ha w) (hl : xs.length < 100000) : Fn Tryz.prog 36 [v].toArray w (ha.map (·.b)) (fun u hn => u = .tuple #[]) := by
  obtain ⟨q, cap, ev⟩ := hA.opened
  rw [List.length_map] at ev
  subst ev
  refine enterM _ hN Tryz.func36 ?_
  refine run ?_
  refine loopS (σ := Nat × Hp × List Int) (fun s => [(2, .int .i64 (s.1 : Int))]) (fun s => s.2.1) (fun s => s.1 ≤ xs.length ∧ s.2.2.length = xs.length ∧ Own 3 1 (.slice q xs.length cap) s.2.1 (s.2.2.map inV)) (fun s => xs.length - s.1) (0, ha, xs) ⟨Nat.zero_le _, rfl, hA⟩ ?_
  rintro ⟨k, h, ys⟩ m hm ⟨hk, hyl, hO⟩
  dsimp only at hm hk hyl hO ⊢
  refine run ?_
  refine st_cond _ rfl (fun hc => ?_) (fun hc => ?_)
  · have hlt : k < xs.length := by simp at hc; omega
    obtain ⟨g, cap', cur, eg, rfl, hn, hsz, hset⟩ := hO.setI (k := k) (by omega)
    rw [hyl] at eg
    cases eg
    refine run ?_
    exact nextS (k + 1, [⟨g, cur.setIfInBounds k (.int .i64 (-99)), 3⟩], ys.set k (-99)) (hm := by dsimp only; omega) ⟨hlt, by rw [List.length_set]; exact hyl, hset _⟩ (h2 := by (refine hpLe_cnt fun a => ?_; simp only [cntB_app, cntB_cons, cntB_nil]; omega))
  · refine run ?_
    intro T
    refine appendW (c := inV 5) [⟨T, #[.int .i64 5], 3⟩] hO (fun v' ha' hA' => ?_) (by rw [List.length_map]; omega) (news_own (m := 1) mh rfl) (by (refine perm_cnt fun a => ?_; simp only [cntB_app, cntB_cons, cntB_nil]; omega))
    refine run ?_
    exact fin0 rfl
theorem nth_putAt : ∀ (vs : List Value) (cs : Array Value) (o : Nat) {i : Nat}, (i < o ∨ o + vs.length ≤ i) → nth (putAt cs o vs).toList i = nth cs.toList i := by
  intro vs
  induction vs with
  | nil => intro cs o i _; rfl
  | cons v r ih =>
    intro cs o i h
    simp only [List.length_cons] at h
    rw [putAt, ih _ _ (by omega), nth_eq, nth_eq, Array.toList_setIfInBounds, List.getElem?_toArray, List.getElem?_toArray, List.getElem?_set_ne (show o ≠ i by omega)]
def ghsD (G : Nat → GB) : Nat → Hp
  | 0 => []
  | m + 1 => (G (4 - (m + 1))).hv ++ ((G (4 - (m + 1))).hm ++ ghsD G m)
theorem ghsD_le (G : Nat → GB) : HpLe (ghsD G 4) (ghs G 4) := by
  simp only [ghsD, ghs, Nat.reduceAdd, Nat.reduceSub]
  (refine hpLe_cnt fun a => ?_; simp only [cntB_app, cntB_cons, cntB_nil]; omega)
section
variable {P : PtD} {Y : Lay} {w : World}
theorem spoilPart_e (h : OwnP P Y) (hN : HereN Y.in w) : Fn Tryz.prog 15 [.agg #[Y.pv P, Y.gv P, Y.ov P]].toArray w (Y.in.map (·.b)) (fun u hn => u = .tuple #[]) := by
  have hp1 := h.n.p1
  have hpsz := h.psz
  have hosz := h.osz
  have g4 := h.n.g4
  have hz := h.gsz
  have no := h.n.o1
  refine enterM _ hN Tryz.func15 ?_
  refine run ?_
  intro B
  refine run ?_
  refine loopS (σ := Nat × Array Value) (fun s => [(2, .int .i64 (s.1 : Int))]) (fun s => ⟨B, #[Y.pv P, Y.gv P, Y.ov P], 26⟩ :: ⟨Y.pb, s.2, 55⟩ :: ⟨Y.gb, Y.gc, 62⟩ :: ⟨Y.ob, Y.oc, 64⟩ :: ghs Y.G 4) (fun s => s.1 ≤ P.pages.length ∧ s.2.size = Y.pc.size) (fun s => P.pages.length - s.1) (0, Y.pc) ⟨Nat.zero_le _, rfl⟩ (hh := by (refine hpLe_cnt fun a => ?_; simp only [cntB_app, cntB_cons, cntB_nil]; omega)) ?_
  rintro ⟨k, pc⟩ m hm ⟨hk, hps⟩
  dsimp only at hm hk hps ⊢
  refine run ?_
  refine st_cond _ rfl (fun hc => ?_) (fun hc => ?_)
  · have hlt : k < P.pages.length := by simp at hc; omega
    refine run ?_
    exact nextS (k + 1, (pc.setIfInBounds (k * 2) (.int .i64 (-9))).setIfInBounds (k * 2 + 1) (.int .i64 0)) (hm := by dsimp only; omega) ⟨hlt, by simpa using hps⟩ (h2 := by (refine hpLe_cnt fun a => ?_; simp only [cntB_app, cntB_cons, cntB_nil]; omega))
  have gd : HpLe (ghsD Y.G (4 - 0)) (ghs Y.G 4) := ghsD_le Y.G
  refine run ?_
  refine loopS (σ := Nat × Array Value) (fun s => [(3, .int .i64 (s.1 : Int))]) (fun s => ⟨B, #[Y.pv P, Y.gv P, Y.ov P], 26⟩ :: ⟨Y.gb, s.2, 62⟩ :: ⟨Y.ob, Y.oc, 64⟩ :: ghsD Y.G (4 - s.1)) (fun s => s.1 ≤ 4 ∧ s.2.size = Y.gc.size ∧ ∀ j, s.1 ≤ j → j < 4 → nth s.2.toList (j * 5 + 3) = some (Y.G j).vv ∧ nth s.2.toList (j * 5 + 4) = some (Y.G j).mv) (fun s => 4 - s.1) (0, Y.gc) ⟨Nat.zero_le _, rfl, fun j _ hj => ⟨h.g3 hj, h.g4' hj⟩⟩ (hh := by (refine hpLe_cnt fun a => ?_; have := HpLe.cnt gd a; simp only [cntB_app, cntB_cons, cntB_nil] at *; omega)) ?_
  rintro ⟨k2, gc⟩ m2 hm2 ⟨hk2, hgs, hgr⟩
  dsimp only at hm2 hk2 hgs hgr ⊢
  refine run ?_
  refine st_cond _ rfl (fun hc => ?_) (fun hc => ?_)
  · have hlt : k2 < 4 := by simp at hc; omega
    obtain ⟨n3, n4⟩ := hgr k2 (Nat.le_refl _) hlt
    have hsv := h.sm.vc k2 (by omega)
    obtain ⟨m', hm'⟩ : ∃ m', 4 - k2 = m' + 1 := ⟨4 - k2 - 1, by omega⟩
    rw [hm']
    have hk4 : 4 - (m' + 1) = k2 := by omega
    simp only [ghsD, hk4]
    refine run ?_
    refine callM (Y.G k2).hv (⟨B, #[Y.pv P, Y.gv P, Y.ov P], 26⟩ :: ⟨Y.gb, gc, 62⟩ :: ⟨Y.ob, Y.oc, 64⟩ :: ((Y.G k2).hm ++ ghsD Y.G m')) (fun wc hG => spoilInts_e (P.gs k2).vcpus (h.vc k2 hlt) hG.hereN (by omega)) (fun v hn hR => ?_) (by (refine perm_cnt fun a => ?_; simp only [cntB_app, cntB_cons, cntB_nil]; omega))
    obtain rfl := hR
    refine ops_le (⟨B, #[Y.pv P, Y.gv P, Y.ov P], 26⟩ :: ⟨Y.gb, gc, 62⟩ :: ⟨Y.ob, Y.oc, 64⟩ :: ((Y.G k2).hm ++ ghsD Y.G m')) (by (refine hpLe_cnt fun a => ?_; simp only [cntB_app, cntB_cons, cntB_nil]; omega)) ?_
    obtain ⟨qm, cm, em⟩ := (h.mp k2 hlt).opened
    rw [List.length_map] at em
    have hmp := h.mp k2 hlt
    rw [em] at n4 hmp
    refine run ?_
    refine loopS (σ := Nat × Hp × List MpD) (fun s => [(4, .int .i64 (s.1 : Int))]) (fun s => ⟨B, #[Y.pv P, Y.gv P, Y.ov P], 26⟩ :: ⟨Y.gb, gc, 62⟩ :: ⟨Y.ob, Y.oc, 64⟩ :: (s.2.1 ++ ghsD Y.G m')) (fun s => s.1 ≤ (P.gs k2).maps.length ∧ s.2.2.length = (P.gs k2).maps.length ∧ Own 79 2 (.slice qm (P.gs k2).maps.length cm) s.2.1 (s.2.2.map mpV)) (fun s => (P.gs k2).maps.length - s.1) (0, (Y.G k2).hm, (P.gs k2).maps) ⟨Nat.zero_le _, rfl, hmp⟩ (hh := by (refine hpLe_cnt fun a => ?_; simp only [cntB_app, cntB_cons, cntB_nil]; omega)) ?_
    rintro ⟨k4, h4, ys⟩ m4 hm4 ⟨hk4', hyl, hO⟩
    dsimp only at hm4 hk4' hyl hO ⊢
    refine run ?_
    refine st_cond _ rfl (fun hc4 => ?_) (fun hc4 => ?_)
    · have hlt4 : k4 < (P.gs k2).maps.length := by simp at hc4; omega
      obtain ⟨g, cap', cur, eg, rfl, hsz, hset⟩ := hO.setRow (k := k4) (by omega)
      rw [hyl] at eg
      cases eg
      simp only [List.cons_append, List.nil_append]
      refine run ?_
      exact nextS (k4 + 1, [⟨g, putAt cur (k4 * 2) (mpV ⟨-9, 0⟩), 79⟩], ys.set k4 ⟨-9, 0⟩) (hm := by dsimp only; omega) ⟨hlt4, by rw [List.length_set]; exact hyl, hset _⟩ (h2 := by simp only [putAt, mpV]; (refine hpLe_cnt fun a => ?_; simp only [cntB_app, cntB_cons, cntB_nil]; omega))
    refine run ?_
    refine nextS (k2 + 1, putAt gc (k2 * 5) [.bool false, .bool false, .int .i64 0, .slice none 0 0, .slice none 0 0]) (hm := by dsimp only; omega) ⟨hlt, by rw [putAt_size]; exact hgs, fun j h1 h2 => ?_⟩ (h2 := ?_)
    · dsimp only at h1 ⊢
      obtain ⟨a3, a4⟩ := hgr j (by omega) h2
      rw [nth_putAt _ _ _ (.inr (by simp; omega)), nth_putAt _ _ _ (.inr (by simp; omega))]
      exact ⟨a3, a4⟩
    · dsimp only
      rw [show 4 - (k2 + 1) = m' by omega]
      simp only [putAt]
      (refine hpLe_cnt fun a => ?_; simp only [cntB_app, cntB_cons, cntB_nil]; omega)
  refine run ?_
  refine loopS (σ := Nat × Array Value) (fun s => [(5, .int .i64 (s.1 : Int))]) (fun s => ⟨B, #[Y.pv P, Y.gv P, Y.ov P], 26⟩ :: ⟨Y.ob, s.2, 64⟩ :: []) (fun s => s.1 ≤ P.on.length ∧ s.2.size = Y.oc.size) (fun s => P.on.length - s.1) (0, Y.oc) ⟨Nat.zero_le _, rfl⟩ (hh := by (refine hpLe_cnt fun a => ?_; simp only [cntB_app, cntB_cons, cntB_nil]; omega)) ?_
  rintro ⟨k3, oc⟩ m3 hm3 ⟨hk3, hos⟩
  dsimp only at hm3 hk3 hos ⊢
  refine run ?_
  refine st_cond _ rfl (fun hc => ?_) (fun hc => ?_)
  · have hlt : k3 < P.on.length := by simp at hc; omega
    refine run ?_
    exact nextS (k3 + 1, (oc.setIfInBounds (k3 * 2) (.int .i64 (-9))).setIfInBounds (k3 * 2 + 1) (.int .i64 0)) (hm := by dsimp only; omega) ⟨hlt, by simpa using hos⟩ (h2 := by (refine hpLe_cnt fun a => ?_; simp only [cntB_app, cntB_cons, cntB_nil]; omega))
  refine run ?_
  exact fin0 rfl
theorem partStopOut_e {pv gv ov : Value} (h : PartG w pv gv ov P) (hs : P.Small 1000) (cpu : Int) (hc : P.may = false ∨ PtD.btw cpu 0 ((P.on.length : Int) - 1) = false) : Fn Tryz.prog 10 [.agg #[pv, gv, ov], .int .i64 cpu].toArray w [] (DoR (.error 1)) := by
  obtain ⟨p, pc, g, gc, o, oc, rfl, rfl, rfl, _⟩ := h.slices
  have hlo := hs.on
  refine enter Tryz.func10 ?_
  refine run ?_
  intro B R
  refine run ?_
  refine callE (fun wc hG => check_e (h.good hG)) ?_
  cases hm : P.may
  · refine runC ?_
    exact finA1 rfl
  refine runC ?_
  refine callEG (fun hg wc hG => between_e _ _ _ wc) ?_
  rw [hc.resolve_left (by rw [hm]; decide)]
  refine runC ?_
  exact finA1 rfl
theorem partStop_e {pv gv ov : Value} (h : PartG w pv gv ov P) (hs : P.Small 1000) (hm : P.may = true) (cpu : Nat) (hc : cpu < P.on.length) : Fn Tryz.prog 10 [.agg #[pv, gv, ov], .int .i64 (cpu : Int)].toArray w [] (DoR (bif decide ((P.st cpu).vm = 0) then .error 6 else .ok (P.stopL cpu))) := by
  obtain ⟨p, pc, g, gc, o, oc, rfl, rfl, rfl, _⟩ := h.slices
  have hlo := hs.on
  refine enter Tryz.func10 ?_
  refine run ?_
  intro B R
  refine run ?_
  refine callE (fun wc hG => check_e (h.good hG)) ?_
  rw [hm]
  have hb : PtD.btw (cpu : Int) 0 ((P.on.length : Int) - 1) = true := by simp only [PtD.btw, Bool.and_eq_true, decide_eq_true_eq]; omega
  refine runC ?_
  refine callEG (fun hg wc hG => between_e _ _ _ wc) ?_
  rw [hb]
  obtain ⟨L, e1, e2, e3, hV⟩ := h.open (may_len hm)
  cases e1
  cases e2
  cases e3
  have hst := hV.st0 hc
  refine runC ?_
  refine st_cond _ rfl (fun hv => ?_) (fun hv => ?_)
  · rw [hv]
    refine runC ?_
    exact finA1 rfl
  rw [hv]
  simp only [decide_eq_false_iff_not] at hv
  refine runC ?_
  refine callB (fun wc hG => copied_e (h.good hG) (may_len hm) hs) ?_
  rintro _ hn ⟨Y, bx, rfl, hO, hle⟩
  refine ops_le (Y.hd P bx 67 ++ [⟨R, #[.slice none 0 0, .slice none 0 0, .slice none 0 0], 26⟩]) (by rw [hdY]; (refine hpLe_cnt fun a => ?_; have := HpLe.cnt hle a; simp only [cntB_app, cntB_cons, cntB_nil] at *; omega)) ?_
  refine runC ?_
  refine callM (Y.hd P bx 67) [⟨R, #[.slice none 0 0, .slice none 0 0, .slice none 0 0], 26⟩] (fun wc hG => stop_e hO hm hG.hereN cpu hc hv) (fun v hn2 hR => ?_) (by rw [hdY])
  obtain ⟨rfl, Y', hO', hle'⟩ := hR
  refine ops_le (⟨R, #[.slice none 0 0, .slice none 0 0, .slice none 0 0], 26⟩ :: Y'.hd (P.stopL cpu) bx 67) (by rw [hdY]; rw [hdY] at hle'; (refine hpLe_cnt fun a => ?_; have := HpLe.cnt hle' a; simp only [cntB_app, cntB_cons, cntB_nil] at *; omega)) ?_
  refine runC ?_
  refine finA1 ?_
  refine ⟨Y', rfl, hO', ?_⟩
  simp only [hdY]
  (refine hpLe_cnt fun a => ?_; simp only [cntB_app, cntB_cons, cntB_nil]; omega)
theorem lawStop_e {pv gv ov : Value} (h : PartG w pv gv ov P) (hs : P.Small 1000) (hm : P.may = true) (cpu : Nat) (hc : cpu < P.on.length) : Fn Tryz.prog 11 [.agg #[pv, gv, ov], .int .i64 (cpu : Int)].toArray w [] (DoR (bif decide ((P.st cpu).vm = 0) then .error 6 else .ok (P.stopL cpu))) := by
  have h' := h
  obtain ⟨p, pc, g, gc, o, oc, rfl, rfl, rfl, _⟩ := h.slices
  obtain ⟨L, e1, e2, e3, hV⟩ := h.open (may_len hm)
  cases e1
  cases e2
  cases e3
  have hst := hV.st0 hc
  refine enter Tryz.func11 ?_
  refine run ?_
  intro B
  refine run ?_
  intro R
  refine st_cond _ rfl (fun hv => ?_) (fun hv => ?_)
  · rw [hv]
    refine run ?_
    exact finA1 rfl
  rw [hv]
  simp only [decide_eq_false_iff_not] at hv
  refine run ?_
  refine callB (fun wc hG => refDo_e (h'.good hG) hs hm cpu hc ⟨9, 0, 0, 0, 0, 0⟩ (.ok (P.stopL cpu)) (fun e he => by cases he) (fun hn => absurd hn hv) (fun _ Y bx w hO hN => ownStop_e hO hm hN 0 0 0 0 0 cpu hc hv)) ?_
  rintro _ hn ⟨Y, rfl, hO, hle⟩
  refine ops_le (⟨R, #[.slice none 0 0, .slice none 0 0, .slice none 0 0], 26⟩ :: Y.in) (by (refine hpLe_cnt fun a => ?_; have := HpLe.cnt hle a; simp only [cntB_app, cntB_cons, cntB_nil] at *; omega)) ?_
  refine run ?_
  refine finA1 ?_
  refine ⟨Y, rfl, hO, ?_⟩
  (refine hpLe_cnt fun a => ?_; simp only [cntB_app, cntB_cons, cntB_nil]; omega)
theorem spoilNil_e (w : World) : Fn Tryz.prog 15 [.agg #[.slice none 0 0, .slice none 0 0, .slice none 0 0]].toArray w [] (fun u hn => u = .tuple #[]) := by
  refine enter Tryz.func15 ?_
  refine run ?_
  intro B
  refine run ?_
  refine loopS (σ := Unit) (fun s => [(2, .int .i64 0)]) (fun s => [⟨B, #[.slice none 0 0, .slice none 0 0, .slice none 0 0], 26⟩]) (fun s => True) (fun s => 0) () trivial ?_
  rintro _ m hm _
  refine runC ?_
  refine loopS (σ := Unit) (fun s => [(3, .int .i64 0)]) (fun s => [⟨B, #[.slice none 0 0, .slice none 0 0, .slice none 0 0], 26⟩]) (fun s => True) (fun s => 0) () trivial ?_
  rintro _ m hm _
  refine runC ?_
  refine loopS (σ := Unit) (fun s => [(5, .int .i64 0)]) (fun s => [⟨B, #[.slice none 0 0, .slice none 0 0, .slice none 0 0], 26⟩]) (fun s => True) (fun s => 0) () trivial ?_
  rintro _ m hm _
  refine runC ?_
  exact fin0 rfl
end
end Go.Proofs.YtjnndchkblnkgaaGreat
