/- Layer 18 (part): a partition of one's own is changed. -/
import Derived.Test.YtdfkcjjbflcafaaGreatPartW
namespace Go.Proofs.YtdfkcjjbflcafaaGreat
open Go.RowKit
set_option linter.unusedVariables false
set_option linter.unusedSimpArgs false
set_option maxRecDepth 20000
attribute [local irreducible] Hy St Ops DH DHF
namespace PtD
def setPg (P : PtD) (f : Nat) (x : PgD) : PtD := { P with pages := P.pages.set f x }
def setGs (P : PtD) (i : Nat) (g : GsD) : PtD := { P with guests := P.guests.set i g }
def setSt (P : PtD) (c : Nat) (s : StD) : PtD := { P with on := P.on.set c s }
variable (P : PtD)
theorem setPg_pg (f : Nat) (x : PgD) (hf : f < P.pages.length) (k : Nat) : (P.setPg f x).pg k = if k = f then x else P.pg k := by
  unfold setPg pg
  simp only [List.getD_eq_getElem?_getD, List.getElem?_set]
  by_cases h : f = k
  · subst h; simp [hf]
  · simp [h, Ne.symm h]
theorem setGs_gs (i : Nat) (g : GsD) (hi : i < P.guests.length) (k : Nat) : (P.setGs i g).gs k = if k = i then g else P.gs k := by
  unfold setGs gs
  simp only [List.getD_eq_getElem?_getD, List.getElem?_set]
  by_cases h : i = k
  · subst h; simp [hi]
  · simp [h, Ne.symm h]
theorem setSt_st (c : Nat) (s : StD) (hc : c < P.on.length) (k : Nat) : (P.setSt c s).st k = if k = c then s else P.st k := by
  unfold setSt st
  simp only [List.getD_eq_getElem?_getD, List.getElem?_set]
  by_cases h : c = k
  · subst h; simp [hc]
  · simp [h, Ne.symm h]
end PtD
theorem hle_of {h r : Hp} (hp : h.Perm r) : HpLe h r := hpLe_cnt fun a => by rw [cntB_perm hp]; exact Nat.le_refl _
theorem OwnP.setP {P : PtD} {Y : Lay} (h : OwnP P Y) {f : Nat} (hf : f < P.pages.length) (x : PgD) {pc : Array Value} (hr : Row Y.pb Y.pcap pc 2 P.pages.length ((P.pages.map pgV).set f (pgV x)).flatten) (hx : I64 x.own ∧ I64 x.wit) : OwnP (P.setPg f x) { Y with pc := pc } := by
  have hl : (P.setPg f x).pages.length = P.pages.length := by simp [PtD.setPg]
  refine ⟨?_, h.gs, h.on, h.vc, h.mp, ⟨fun k hk => ?_, h.wf.gs, h.wf.st⟩, ⟨by rw [hl]; exact h.n.p0, by rw [hl]; exact h.n.p1, h.n.g4, h.n.o0, h.n.o1⟩, ⟨by rw [hl]; exact h.sm.pg, h.sm.gs, h.sm.on, h.sm.vc⟩⟩
  · rw [hl]
    simpa [PtD.setPg, List.map_set] using hr
  · rw [hl] at hk
    rw [PtD.setPg_pg P f x hf]
    split
    · exact hx
    · exact h.wf.pg k hk
theorem OwnP.setS {P : PtD} {Y : Lay} (h : OwnP P Y) {c : Nat} (hc : c < P.on.length) (x : StD) {oc : Array Value} (hr : Row Y.ob Y.ocap oc 2 P.on.length ((P.on.map stV).set c (stV x)).flatten) (hx : I64 x.vm ∧ I64 x.cpu) : OwnP (P.setSt c x) { Y with oc := oc } := by
  have hl : (P.setSt c x).on.length = P.on.length := by simp [PtD.setSt]
  refine ⟨h.pg, h.gs, ?_, h.vc, h.mp, ⟨h.wf.pg, h.wf.gs, fun k hk => ?_⟩, ⟨h.n.p0, h.n.p1, h.n.g4, by rw [hl]; exact h.n.o0, by rw [hl]; exact h.n.o1⟩, ⟨h.sm.pg, h.sm.gs, by rw [hl]; exact h.sm.on, h.sm.vc⟩⟩
  · rw [hl]
    simpa [PtD.setSt, List.map_set] using hr
  · rw [hl] at hk
    rw [PtD.setSt_st P c x hc]
    split
    · exact hx
    · exact h.wf.st k hk
theorem OwnP.setG {P : PtD} {Y : Lay} (h : OwnP P Y) {i : Nat} (hi : i < 4) (g : GsD) (b : GB) {gc : Array Value} (hr : Row Y.gb Y.gcap gc 5 P.guests.length (((List.range P.guests.length).map (gsRow P Y.G)).set i [.bool g.live, .bool g.dying, .int .i64 g.first, b.vv, b.mv]).flatten)
    (hv : Own 3 1 b.vv b.hv (g.vcpus.map inV)) (hm : Own 80 2 b.mv b.hm (g.maps.map mpV)) (hw : I64 g.first ∧ (∀ x ∈ g.vcpus, I64 x) ∧ ∀ x ∈ g.maps, I64 x.mid ∧ I64 x.frm) (hs : g.vcpus.length ≤ 1000 ∧ g.maps.length ≤ 1000) : OwnP (P.setGs i g) { Y with gc := gc, G := updG Y.G i b } := by
  have g4 := h.n.g4
  have hl : (P.setGs i g).guests.length = P.guests.length := by simp [PtD.setGs]
  have hg : ∀ k, (P.setGs i g).gs k = if k = i then g else P.gs k := PtD.setGs_gs P i g (by omega)
  refine ⟨h.pg, ?_, h.on, fun k hk => ?_, fun k hk => ?_, ⟨h.wf.pg, fun k hk => ?_, h.wf.st⟩, ⟨h.n.p0, h.n.p1, by rw [hl]; exact g4, h.n.o0, h.n.o1⟩, ⟨h.sm.pg, by rw [hl]; exact h.sm.gs, h.sm.on, fun k hk => ?_⟩⟩
  · rw [hl]
    have e := set_map_range (f := gsRow P Y.G) (g := gsRow (P.setGs i g) (updG Y.G i b)) (n := P.guests.length) (k := i) (by omega) (fun j hj => by simp only [gsRow, updG_ne _ _ _ hj, hg j, if_neg hj])
    have e2 : gsRow (P.setGs i g) (updG Y.G i b) i = [.bool g.live, .bool g.dying, .int .i64 g.first, b.vv, b.mv] := by simp only [gsRow, updG_self, hg i, if_true]
    rw [e2] at e
    rw [← e]
    exact hr
  · show Own _ 1 (updG Y.G i b k).vv (updG Y.G i b k).hv _
    rw [hg k]
    by_cases hk' : k = i
    · subst hk'; rw [updG_self, if_pos rfl]; exact hv
    · rw [updG_ne _ _ _ hk', if_neg hk']; exact h.vc k hk
  · show Own _ 2 (updG Y.G i b k).mv (updG Y.G i b k).hm _
    rw [hg k]
    by_cases hk' : k = i
    · subst hk'; rw [updG_self, if_pos rfl]; exact hm
    · rw [updG_ne _ _ _ hk', if_neg hk']; exact h.mp k hk
  · rw [hl] at hk
    rw [hg k]
    split
    · exact hw
    · exact h.wf.gs k hk
  · rw [hl] at hk
    rw [hg k]
    split
    · exact hs
    · exact h.sm.vc k hk
/-- The blocks behind a pointer to it. -/
abbrev Lay.hd (Y : Lay) (P : PtD) (bx tx : Nat) : Hp := ⟨bx, #[Y.pv P, Y.gv P, Y.ov P], tx⟩ :: Y.in
theorem hdG (Y : Lay) (P : PtD) (i : Nat) (g : GsD) (gc : Array Value) (G : Nat → GB) (bx tx : Nat) : Lay.hd { Y with gc := gc, G := G } (P.setGs i g) bx tx = ⟨bx, #[Y.pv P, Y.gv P, Y.ov P], tx⟩ :: ⟨Y.pb, Y.pc, 56⟩ :: ⟨Y.gb, gc, 63⟩ :: ⟨Y.ob, Y.oc, 52⟩ :: ghs G 4 := by
  have : (P.setGs i g).guests.length = P.guests.length := by simp [PtD.setGs]
  simp only [Lay.hd, Lay.in, Lay.pv, Lay.gv, Lay.ov, this]
  rfl
theorem hdP (Y : Lay) (P : PtD) (f : Nat) (x : PgD) (pc : Array Value) (bx tx : Nat) : Lay.hd { Y with pc := pc } (P.setPg f x) bx tx = ⟨bx, #[Y.pv P, Y.gv P, Y.ov P], tx⟩ :: ⟨Y.pb, pc, 56⟩ :: ⟨Y.gb, Y.gc, 63⟩ :: ⟨Y.ob, Y.oc, 52⟩ :: ghs Y.G 4 := by
  have : (P.setPg f x).pages.length = P.pages.length := by simp [PtD.setPg]
  simp only [Lay.hd, Lay.in, Lay.pv, Lay.gv, Lay.ov, this]
  rfl
theorem hdS (Y : Lay) (P : PtD) (f : Nat) (x : StD) (oc : Array Value) (bx tx : Nat) : Lay.hd { Y with oc := oc } (P.setSt f x) bx tx = ⟨bx, #[Y.pv P, Y.gv P, Y.ov P], tx⟩ :: ⟨Y.pb, Y.pc, 56⟩ :: ⟨Y.gb, Y.gc, 63⟩ :: ⟨Y.ob, oc, 52⟩ :: ghs Y.G 4 := by
  have : (P.setSt f x).on.length = P.on.length := by simp [PtD.setSt]
  simp only [Lay.hd, Lay.in, Lay.pv, Lay.gv, Lay.ov, this]
  rfl
theorem hdY (Y : Lay) (P : PtD) (bx tx : Nat) : Lay.hd Y P bx tx = ⟨bx, #[Y.pv P, Y.gv P, Y.ov P], tx⟩ :: ⟨Y.pb, Y.pc, 56⟩ :: ⟨Y.gb, Y.gc, 63⟩ :: ⟨Y.ob, Y.oc, 52⟩ :: ghs Y.G 4 := rfl
/-- What a call answers: an error, or nothing and a partition. -/
def CallR (bx tx : Nat) (r : Except Int PtD) (u : Value) (hn : Hp) : Prop := match r with
  | .error e => u = .int .i64 e
  | .ok P => u = .int .i64 0 ∧ ∃ Y : Lay, OwnP P Y ∧ HpLe (Y.hd P bx tx) hn
section
variable {P : PtD} {Y : Lay} {bx tx : Nat} {w : World}
theorem guestO_e (h : OwnP P Y) (hh : Here (Y.hd P bx tx) w) {n : Int} (hn : 1 ≤ n ∧ n ≤ 4) : Fn Tryz.prog 74 [.pointer (some ⟨bx, 0, none⟩), .int .i64 n].toArray w [] (fun u _ => u = .pointer (some ⟨Y.gb, (n - 1).toNat * 5, none⟩)) := by
  refine Fn.mono (guest_e (h.partQ hh) (n - 1).toNat (by have := h.n.g4; omega) n (by omega)) fun v hp e => ?_
  rw [e]
  show Value.pointer (some ⟨Y.gb, 0 + (n - 1).toNat * 5, none⟩) = _
  rw [Nat.zero_add]
theorem Good.here' {w0 w : World} {mu : List Nat} {hp hi : Hp} (hG : Good w0 mu hp w) (hm : HpLe hi hp) : Here hi w := (hG.le hm).here
theorem OwnP.rowG (h : OwnP P Y) {i : Nat} (hi : i < 4) : ((List.range P.guests.length).map (gsRow P Y.G))[i]? = some [.bool (P.gs i).live, .bool (P.gs i).dying, .int .i64 (P.gs i).first, (Y.G i).vv, (Y.G i).mv] := getD_range_map _ (by have := h.n.g4; omega)
theorem OwnP.g0 (h : OwnP P Y) {i : Nat} (hi : i < 4) : nth Y.gc.toList (i * 5) = some (.bool (P.gs i).live) := h.gs.nth gs_len (h.rowG hi) (k := 0) rfl
theorem OwnP.g1 (h : OwnP P Y) {i : Nat} (hi : i < 4) : nth Y.gc.toList (i * 5 + 1) = some (.bool (P.gs i).dying) := h.gs.nth gs_len (h.rowG hi) (k := 1) rfl
theorem OwnP.g2 (h : OwnP P Y) {i : Nat} (hi : i < 4) : nth Y.gc.toList (i * 5 + 2) = some (.int .i64 (P.gs i).first) := h.gs.nth gs_len (h.rowG hi) (k := 2) rfl
theorem OwnP.g3 (h : OwnP P Y) {i : Nat} (hi : i < 4) : nth Y.gc.toList (i * 5 + 3) = some (Y.G i).vv := h.gs.nth gs_len (h.rowG hi) (k := 3) rfl
theorem OwnP.g4' (h : OwnP P Y) {i : Nat} (hi : i < 4) : nth Y.gc.toList (i * 5 + 4) = some (Y.G i).mv := h.gs.nth gs_len (h.rowG hi) (k := 4) rfl
theorem OwnP.p0' (h : OwnP P Y) {i : Nat} (hi : i < P.pages.length) : nth Y.pc.toList (i * 2) = some (.int .i64 (P.pg i).own) := h.pg.nth pg_len (pg_at hi) (k := 0) rfl
theorem OwnP.p1' (h : OwnP P Y) {i : Nat} (hi : i < P.pages.length) : nth Y.pc.toList (i * 2 + 1) = some (.int .i64 (P.pg i).wit) := h.pg.nth pg_len (pg_at hi) (k := 1) rfl
theorem OwnP.s0 (h : OwnP P Y) {i : Nat} (hi : i < P.on.length) : nth Y.oc.toList (i * 2) = some (.int .i64 (P.st i).vm) := h.on.nth st_len (st_at hi) (k := 0) rfl
theorem OwnP.s1 (h : OwnP P Y) {i : Nat} (hi : i < P.on.length) : nth Y.oc.toList (i * 2 + 1) = some (.int .i64 (P.st i).cpu) := h.on.nth st_len (st_at hi) (k := 1) rfl
theorem Row.cut {g cap sz n : Nat} {cur : Array Value} {xs : List (List Value)} (h : Row g cap cur sz n xs.flatten) (hall : ∀ c ∈ xs, c.length = sz) {i : Nat} {c : List Value} (hi : xs[i]? = some c) : (cur.toList.drop (i * sz)).take sz = c := by
  have hf := flatten_row hall hi
  rw [← h.take] at hf
  have hlt : i < xs.length := (List.getElem?_eq_some_iff.1 hi).1
  have hn : xs.length * sz = n * sz := by rw [← flatten_len xs hall, h.len]
  have hle : i * sz + sz ≤ n * sz := by rw [← hn, ← Nat.succ_mul]; exact Nat.mul_le_mul_right _ hlt
  rwa [List.drop_take, List.take_take, Nat.min_eq_left (by omega)] at hf
theorem OwnP.sRow (h : OwnP P Y) {i : Nat} (hi : i < P.on.length) : (Y.oc.toList.drop (i * 2)).take 2 = [.int .i64 (P.st i).vm, .int .i64 (P.st i).cpu] := h.on.cut st_len (st_at hi)
theorem OwnP.pRow (h : OwnP P Y) {i : Nat} (hi : i < P.pages.length) : (Y.pc.toList.drop (i * 2)).take 2 = [.int .i64 (P.pg i).own, .int .i64 (P.pg i).wit] := h.pg.cut pg_len (pg_at hi)
theorem OwnP.gRow (h : OwnP P Y) {i : Nat} (hi : i < 4) : (Y.gc.toList.drop (i * 5)).take 5 = [.bool (P.gs i).live, .bool (P.gs i).dying, .int .i64 (P.gs i).first, (Y.G i).vv, (Y.G i).mv] := h.gs.cut gs_len (h.rowG hi)
theorem OwnP.gsz (h : OwnP P Y) : 20 ≤ Y.gc.size := by have := h.gs.size; have := h.gs.le; have := h.n.g4; omega
theorem OwnP.psz (h : OwnP P Y) : P.pages.length * 2 ≤ Y.pc.size := by rw [h.pg.size]; exact Nat.mul_le_mul_right _ h.pg.le
theorem OwnP.osz (h : OwnP P Y) : P.on.length * 2 ≤ Y.oc.size := by rw [h.on.size]; exact Nat.mul_le_mul_right _ h.on.le
end
theorem ghs_upd (G : Nat → GB) {i : Nat} (hi : i < 4) : ∃ r, HpLe ((G i).hv ++ ((G i).hm ++ r)) (ghs G 4) ∧ ∀ vv mv hv hm, HpLe (ghs (updG G i ⟨vv, mv, hv, hm⟩) 4) (hv ++ (hm ++ r)) := by
  obtain ⟨r, hr⟩ := ghs_pick 4 G hi
  refine ⟨r, hle_of (hr G (fun _ _ => rfl)).symm, fun vv mv hv hm => ?_⟩
  have := hle_of (hr (updG G i ⟨vv, mv, hv, hm⟩) (fun j hj => updG_ne _ _ _ hj))
  rwa [updG_self] at this
/-- One element appended to a slice of one's own. -/
theorem appendW {n : Nat} {w0 : World} {mu : List Nat} {l : Fm} {hp : Hp} {Q : Exit → Fm → Hp → Prop} {all : Array Oper} {rest : List Oper} {ty : TypeId} {pos : String} {af : Array Edge} {t d e sz by_ cc a : Nat} {x y : Operand} {z v : Value} {c : List Value} {ha : Hp} {xs : List (List Value)} (hp' : Hp) (hA : Own e sz v ha xs) (h : ∀ v' ha', Own e sz v' ha' (xs ++ [c]) → Ops Tryz.prog n w0 mu all rest ((d, v') :: l) (ha' ++ hp') Q) (h63 : xs.length < 1000000) (hnews : NewsAt w0 mu hp a 0 c)
    (hperm : (ha ++ hp').Perm hp) (hd : Nat.blt d n = true := by rfl) (hx : ev l x = some v := by rfl) (hy : ev l y = some (.slice (some ⟨a, 0, none⟩) 1 cc) := by rfl) (ht : lk Tb.sl t = some (e, sz) := by rfl)
    (hz : lk Tb.zs e = some z := by rfl) (hzs : z.cells.size = sz := by rfl) (hb : lk Tb.eb e = some by_ := by rfl) (hby : Nat.ble by_ 4096 = true := by rfl) (hl : c.length = sz := by rfl) (h1 : c.all (·.oneCell') = true := by rfl) : Ops Tryz.prog n w0 mu all (⟨some d, .call { callee := .builtin .append, args := #[x, y], argTypes := #[t, t] }, ty, pos, af, none⟩ :: rest) l hp Q :=
  z_appendW tb_ok hA hd hx hy ht hz hzs hb hby hperm hl hnews h1 h63 h
/-! ### The small functions -/
theorem unless_e (b : Bool) (e : Int) (w : World) : Fn Tryz.prog 82 [.bool b, .int .i64 e].toArray w [] (fun u _ => u = .int .i64 (bif b then 0 else e)) := by
  refine enter Tryz.func82 ?_
  refine run ?_
  refine st_cond _ rfl (fun h => ?_) (fun h => ?_)
  · refine run ?_
    refine fin1 ?_
    rw [h]; rfl
  · refine run ?_
    refine fin1 ?_
    rw [h]; rfl
theorem machined_e (n : Int) (w : World) : Fn Tryz.prog 84 [.int .i64 n].toArray w [] (fun u _ => u = .int .i64 (bif PtD.btw n 1 4 then 0 else 2)) := by
  refine enter Tryz.func84 ?_
  refine run ?_
  refine callE (fun wc hG => between_e _ _ _ wc) ?_
  refine run ?_
  refine callE (fun wc hG => unless_e _ _ wc) ?_
  refine run ?_
  exact fin1 rfl
theorem middled_e (n : Int) (w : World) : Fn Tryz.prog 79 [.int .i64 n].toArray w [] (fun u _ => u = .int .i64 (bif PtD.btw n 0 15 then 0 else 2)) := by
  refine enter Tryz.func79 ?_
  refine run ?_
  refine callE (fun wc hG => between_e _ _ _ wc) ?_
  refine run ?_
  refine callE (fun wc hG => unless_e _ _ wc) ?_
  refine run ?_
  exact fin1 rfl
def firstL : List Int → Int
  | [] => 0
  | x :: r => bif decide (x = 0) then firstL r else x
theorem firstL_at : ∀ (l : List Int) (k : Nat), k < l.length → (∀ j, j < k → l.getD j 0 = 0) → l.getD k 0 ≠ 0 → firstL l = l.getD k 0 := by
  intro l
  induction l with
  | nil => intro k h; simp at h
  | cons x r ih =>
    intro k hk hj hn
    cases k with
    | zero => simp at hn ⊢; simp [firstL, hn]
    | succ k =>
      have h0 := hj 0 (by omega)
      simp at h0
      subst h0
      have := ih k (by simpa using hk) (fun j hj' => by have := hj (j + 1) (by omega); simpa using this) (by simpa using hn)
      simpa [firstL] using this
theorem firstL_none : ∀ (l : List Int), (∀ j, j < l.length → l.getD j 0 = 0) → firstL l = 0 := by
  intro l
  induction l with
  | nil => intro _; rfl
  | cons x r ih =>
    intro h
    have h0 := h 0 (by simp)
    simp at h0
    subst h0
    have := ih fun j hj => by have := h (j + 1) (by simpa using hj); simpa using this
    simpa [firstL] using this
theorem first_e {w : World} (xs : List Int) (v : Value) (h : SlAt w v 1 (xs.map inV)) : Fn Tryz.prog 81 [v].toArray w [] (fun u _ => u = .int .i64 (firstL xs)) := by
  obtain ⟨q, cap, rfl, hne, hle⟩ := h.opened
  refine enter Tryz.func81 ?_
  refine run ?_
  refine loopS (σ := Nat) (fun k => [(7, .int .i64 (k : Int))]) (fun _ => []) (fun k => k ≤ xs.length ∧ ∀ j, j < k → xs.getD j 0 = 0) (fun k => xs.length - k) 0 ⟨Nat.zero_le _, fun j hj => absurd hj (by omega)⟩ ?_
  rintro k m hm ⟨hk, hno⟩
  refine run ?_
  refine st_cond _ rfl (fun hc => ?_) (fun hc => ?_)
  · have hlt : k < xs.length := by simp at hc; omega
    obtain ⟨b, o, rfl⟩ := hne (by intro e; subst e; simp at hlt)
    have hr := rangeAt_cell0 (h.row hlt)
    simp only [Nat.mul_one] at hr
    have e0 : xs.getD k default = xs.getD k 0 := rfl
    rw [e0] at hr
    refine run ?_
    refine st_cond _ rfl (fun hp => ?_) (fun hp => ?_)
    · refine run ?_
      refine fin1 ?_
      rw [firstL_at xs k hlt hno (by simpa using hp)]
    · refine run ?_
      refine nextS (k + 1) ⟨hlt, fun j hj => ?_⟩
      rcases Nat.lt_succ_iff_lt_or_eq.1 hj with hj | rfl
      · exact hno j hj
      · simpa using hp
  · have hge : k = xs.length := by simp at hc; omega
    subst hge
    refine run ?_
    refine fin1 ?_
    rw [firstL_none xs hno]
/-- A literal slice of numbers, in a block of one's own. -/
theorem lits {w0 w : World} {mu : List Nat} {hp : Hp} (hG : Good w0 mu hp w) {b t n cap : Nat} {cs : Array Value} (hm : (⟨b, cs, t⟩ : Blk) ∈ hp) (xs : List Int) (hx : cs = ((xs.map inV).flatten).toArray) (hn : n = xs.length) (hl : xs.length ≤ 1000) : SlAt w (.slice (some ⟨b, 0, none⟩) n cap) 1 (xs.map inV) := by
  subst hx hn
  have := lie_rows (w := w) (cap := cap) (sz := 1) (xs := xs.map inV) (hG.here _ hm) (fun c hc => by obtain ⟨x, _, rfl⟩ := List.mem_map.1 hc; rfl) (by rw [List.length_map]; omega)
  rwa [List.length_map] at this
section
variable {P : PtD} {Y : Lay} {bx tx : Nat} {w : World}
theorem framed_e (h : OwnP P Y) (hh : Here (Y.hd P bx tx) w) (f : Int) : Fn Tryz.prog 83 [.pointer (some ⟨bx, 0, none⟩), .int .i64 f].toArray w [] (fun u _ => u = .int .i64 (bif PtD.btw f 16 ((P.pages.length : Int) - 1) then 0 else 2)) := by
  have hc := (h.partQ hh).cp
  have := h.n.p1
  refine enter Tryz.func83 ?_
  refine run ?_
  refine callE (fun wc hG => between_e _ _ _ wc) ?_
  refine run ?_
  refine callE (fun wc hG => unless_e _ _ wc) ?_
  refine run ?_
  exact fin1 rfl
end
end Go.Proofs.YtdfkcjjbflcafaaGreat
