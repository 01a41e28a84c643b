/- Layer 18 (part): PartKeeps. -/
import Derived.Test.YtjnndchkblnkgaaPtW
namespace Go.Proofs.Ytjnndchkblnkgaa
open Go.RowKit
set_option linter.unusedVariables false
set_option linter.unusedSimpArgs false
set_option maxRecDepth 20000
namespace PtD
theorem filter_step (l : List PgD) (z : Int) : (l.filter fun x => decide (x.own < z + 1)).length = (l.filter fun x => decide (x.own < z)).length + (l.filter fun x => decide (x.own = z)).length := by
  induction l with
  | nil => rfl
  | cons x r ih =>
    rw [List.filter_cons, List.filter_cons, List.filter_cons]
    rcases Int.lt_trichotomy x.own z with h | h | h
    · rw [if_pos (by simp; omega), if_pos (by simpa using h), if_neg (by simp; omega), List.length_cons, List.length_cons, ih]; omega
    · rw [if_pos (by simp; omega), if_neg (by simp; omega), if_pos (by simpa using h), List.length_cons, List.length_cons, ih]; omega
    · rw [if_neg (by simp; omega), if_neg (by simp; omega), if_neg (by simp; omega), ih]
def below (P : PtD) (z : Int) : Nat := (P.pages.filter fun x => decide (x.own < z)).length
def mine (P : PtD) (z : Int) : Nat := (P.pages.filter fun x => decide (x.own = z)).length
theorem below_step (P : PtD) (z : Int) : P.below (z + 1) = P.below z + P.mine z := filter_step _ _
theorem below_le (P : PtD) (z : Int) : P.below z ≤ P.pages.length := List.length_filter_le _ _
theorem mine_le (P : PtD) (z : Int) : P.mine z ≤ P.pages.length := List.length_filter_le _ _
theorem mem_pg {P : PtD} {x : PgD} (h : x ∈ P.pages) : ∃ f, f < P.pages.length ∧ P.pg f = x := mem_getD h
theorem below_first {P : PtD} (h : Ok2 P) : P.below (-1) = 0 := by
  unfold below
  rw [List.length_eq_zero_iff, List.filter_eq_nil_iff]
  intro x hx
  obtain ⟨f, hf, rfl⟩ := mem_pg hx
  have := h.who f hf
  simp; omega
theorem below_last {P : PtD} (h : Ok2 P) : P.below 5 = P.pages.length := by
  unfold below
  congr 1
  rw [List.filter_eq_self]
  intro x hx
  obtain ⟨f, hf, rfl⟩ := mem_pg hx
  have := h.who f hf
  simp; omega
theorem mine_uses (P : PtD) (z : Int) : P.mine z ≤ ((List.range P.pages.length).filter (P.uses z)).length := by
  have e : P.pages = (List.range P.pages.length).map P.pg := by
    apply List.ext_getElem (by simp)
    intro j h1 h2
    rw [List.getElem_map, List.getElem_range, pg, List.getD_eq_getElem?_getD, List.getElem?_eq_getElem h1]; rfl
  unfold mine
  rw [← List.countP_eq_length_filter, ← List.countP_eq_length_filter]
  conv => lhs; rw [e]
  rw [List.countP_map]
  refine List.countP_mono_left fun f hf h => ?_
  simp only [Function.comp, uses, Bool.or_eq_true] at h ⊢
  exact .inl h
end PtD
attribute [local irreducible] Hy St Ops DH DHF
section
variable {P : Program} {T : Tab} {n : Nat} {w0 : World} {mu : List Nat} {l : Fm} {dd : Option Nat} {ty : TypeId} {pos : String} {af : Array Edge} {gg : Option (Nat × Bool)}
theorem x_remU {hh : Hp} {t u : TypeId} {x y : Operand} {p q : Int} (hx : ev l x = some (.int .u64 p)) (hy : ev l y = some (.int .u64 q)) (hp : 0 ≤ p) (hq : 0 < q) : Hy P n w0 mu l hh ⟨dd, .binOp .rem t x y u, ty, pos, af, gg⟩ (.int .u64 (p % q)) :=
  hy_run fun ac w hk _ => by
    have h1 : p.tmod q = p % q := Int.tmod_eq_emod_of_nonneg hp
    have h2 : ¬ (q = 0) := by omega
    simp only [execOp, hk.ev hx, hk.ev hy]
    simp [eqGuard_rem, binOp_rem, Op.intDiv, h1, h2]
end
def wthn (i : Int) (m : Nat) : Nat := (IntKind.u64.wrap i % (m : Int)).toNat
theorem wthn_lt (i : Int) {m : Nat} (hm : 0 < m) : wthn i m < m := by
  have h1 := Int.emod_nonneg (IntKind.u64.wrap i) (show (m : Int) ≠ 0 by omega)
  have h2 := Int.emod_lt_of_pos (IntKind.u64.wrap i) (show 0 < (m : Int) by omega)
  unfold wthn
  omega
theorem Fn.some {P : Program} {f : FuncId} {args : Array Value} {w : World} {mu : List Nat} {R : Value → Hp → Prop} (h : Fn P f args w mu R) : ∃ v hp, R v hp := by
  obtain ⟨e, w', fr, ⟨v, hp, _, _, hr⟩, _⟩ := h []
  exact ⟨v, hp, hr⟩
theorem within_e (w : World) (i : Int) (m : Nat) (hm : 0 < m) (hm2 : m < 1000000) : Fn Try.prog 9 [.int .i64 i, .int .i64 (m : Int)].toArray w [] (fun u _ => u = .int .i64 (wthn i m : Int)) := by
  refine enter Try.func9 ?_
  refine run ?_
  have hp0 : 0 ≤ IntKind.u64.wrap i := wrap_u64_nonneg i
  refine op1 (by rfl) (x_conv tb_ok rfl rfl rfl) ?_
  unfold wthn
  generalize IntKind.u64.wrap i = p at hp0
  have h1 := Int.emod_nonneg p (show (m : Int) ≠ 0 by omega)
  have h2 := Int.emod_lt_of_pos p (show 0 < (m : Int) by omega)
  refine run ?_
  refine op1 (by rfl) (x_remU rfl rfl hp0 (by omega)) ?_
  refine run ?_
  refine fin1 ?_
  congr 1; omega
/-- A partition that lies somewhere, in the elder world or in one's own blocks. -/
structure KpD where
  P : PtD
  q1 : Option Addr
  q2 : Option Addr
  q3 : Option Addr
  c1 : Nat
  c2 : Nat
  c3 : Nat
  h : Hp
abbrev KpD.cs (s : KpD) : Array Value := #[.slice s.q1 s.P.pages.length s.c1, .slice s.q2 s.P.guests.length s.c2, .slice s.q3 s.P.on.length s.c3]
structure KpD.Ok (w0 : World) (s : KpD) : Prop where
  ok : s.P.may = true
  sm : s.P.Small 1000
  at_ : ∀ w hh, Good w0 [] hh w → HpLe s.h hh → PartG w (.slice s.q1 s.P.pages.length s.c1) (.slice s.q2 s.P.guests.length s.c2) (.slice s.q3 s.P.on.length s.c3) s.P
set_option maxHeartbeats 8000000 in
theorem keeps_e {w : World} {v : Value} {P : PtD} {A : List ActD} (h : ScrG w v P A) : Fn Try.prog 3 [v].toArray w [] (fun u _ => u = .bool true) := by
  obtain ⟨⟨pv, gv, ov, lv, rfl, hp, hl⟩, hwf⟩ := h
  have hp' := hp
  obtain ⟨p, pc, g, gc, o, oc, rfl, rfl, rfl, hl1, hl2, hl3⟩ := hp.slices
  obtain ⟨a, ac, rfl, hane, hal⟩ := hl.opened
  refine enter Try.func3 ?_
  refine run ?_
  intro B
  refine run ?_
  refine callV (fun wc hG => heavy_e rfl (hp.good hG)) ?_
  rintro _ ⟨hv, rfl, hsm⟩
  refine runG ?_
  refine callEG (fun hg wc hG => partR_e (hp'.good hG)) ?_
  refine runG ?_
  refine st_cond _ rfl (fun hc => ?_) (fun hc => ?_)
  · refine run ?_
    exact fin1 rfl
  have hv0 : hv = false := by cases hv <;> simp_all
  subst hv0
  have hmay : P.may = true := by
    rw [PtD.may_eq]
    simpa [wnt, gv] using hc
  obtain ⟨hs, ha5⟩ := hsm rfl
  have hs1 : P.Small 1000 := ⟨by have := hs.pg; omega, by have := hs.gs; omega, by have := hs.on; omega, fun i hi => by have := hs.vc i hi; omega⟩
  refine run ?_
  intro X
  refine run ?_
  refine loopS (σ := Nat × KpD) (fun s => [(4, .int .i64 (s.1 : Int))]) (fun s => ⟨X, s.2.cs, 26⟩ :: ⟨B, #[.slice p P.pages.length pc, .slice g P.guests.length gc, .slice o P.on.length oc, .slice a A.length ac], 29⟩ :: s.2.h) (fun s => s.1 ≤ A.length ∧ s.2.Ok w) (fun s => A.length - s.1) (0, ⟨P, p, g, o, pc, gc, oc, []⟩) ⟨Nat.zero_le _, hmay, hs1, fun wc hh hG _ => hp'.good hG⟩ (hh := by simp only [KpD.cs]; (refine hpLe_cnt fun a => ?_; simp only [cntB_app, cntB_cons, cntB_nil]; omega)) ?_
  rintro ⟨k, s⟩ m hm ⟨hk, hS⟩
  dsimp only at hm hk hS ⊢
  refine runG ?_
  refine st_cond _ rfl (fun hc2 => ?_) (fun hc2 => ?_)
  rotate_left
  · refine run ?_
    refine callE (fun wc hG => wakes_e wc) ?_
    refine run ?_
    exact fin1 rfl
  simp only [Bool.and_eq_true, decide_eq_true_eq] at hc2
  have hlt : k < A.length := by omega
  obtain ⟨b, of, rfl⟩ := hane (by intro e; rw [e] at hlt; simp at hlt)
  have hr := hl.row (k := k) hlt
  simp only [actV] at hr
  have hx : (A.getD k default).Wf := by
    refine hwf _ ?_
    rw [List.getD_eq_getElem?_getD, List.getElem?_eq_getElem (by omega)]
    simp
  generalize A.getD k default = x at hr hx
  have hcall : w.rangeAt b (of + k * 8 + 1) [.int .i64 x.kind, .int .i64 x.vm, .int .i64 x.frame, .int .i64 x.mid, .int .i64 x.vcpu, .int .i64 x.ccpu] := rangeAt_sub (k := 1) (n := 6) hr rfl
  have hr0 := rangeAt_cell0 hr
  have hon := hS.sm.on
  refine run ?_
  have hon1 := (PtD.may_ok2.1 hS.ok).o1
  have hcl := wthn_lt x.cpu (m := s.P.on.length) (by omega)
  have hcw : ClD.Wf ⟨x.kind, x.vm, x.frame, x.mid, x.vcpu, x.ccpu⟩ := ⟨hx.vm, hx.frame, hx.mid, hx.vcpu⟩
  have hD : ∀ wc hh, Good w [] hh wc → HpLe s.h hh → Fn Try.prog 8 [.agg #[.slice s.q1 s.P.pages.length s.c1, .slice s.q2 s.P.guests.length s.c2, .slice s.q3 s.P.on.length s.c3], .int .i64 (wthn x.cpu s.P.on.length : Int), clV ⟨x.kind, x.vm, x.frame, x.mid, x.vcpu, x.ccpu⟩].toArray wc [] (DoR (s.P.doL (wthn x.cpu s.P.on.length) ⟨x.kind, x.vm, x.frame, x.mid, x.vcpu, x.ccpu⟩)) := by
    intro wc hh hG hle
    have := partDoL_e (hS.at_ wc hh hG hle) hS.sm (wthn x.cpu s.P.on.length) hcl ⟨x.kind, x.vm, x.frame, x.mid, x.vcpu, x.ccpu⟩ hcw
    rw [hS.ok] at this
    exact this
  refine stW fun wn hGn => ?_
  have hsome := (hD wn _ hGn (by (refine hpLe_cnt fun a => ?_; simp only [cntB_app, cntB_cons, cntB_nil]; omega))).some
  refine late 22 20 ?_
  refine drawMA 22 [0, 1, 2, 3, 4, 5, 6, 7, 8, 9, 10, 11, 12, 13, 14, 15, 16] [17, 21] [18, 19, 20] ?_
  refine runS ?_
  refine de1_s rfl (fun hx2 => x_call (calOk 9 rfl) rfl (fun wc hG => within_e wc x.cpu s.P.on.length (by omega) (by omega))) ?_
  refine runS ?_
  refine eCall (fun wc hG => hD wc _ hG (by (refine hpLe_cnt fun a => ?_; simp only [cntB_app, cntB_cons, cntB_nil]; omega))) hsome ?_
  refine eAlloc ?_
  refine eNil ?_
  rintro _ _ ⟨Yv, rfl, rfl⟩ v hn hv
  refine dMove ?_
  have hne := PtD.doL_ne s.P (wthn x.cpu s.P.on.length) ⟨x.kind, x.vm, x.frame, x.mid, x.vcpu, x.ccpu⟩
  have hok2 : ∀ P2, s.P.doL (wthn x.cpu s.P.on.length) ⟨x.kind, x.vm, x.frame, x.mid, x.vcpu, x.ccpu⟩ = .ok P2 → PtD.Ok2 P2 ∧ P2.pages.length = s.P.pages.length ∧ P2.on.length = s.P.on.length := fun P2 e => ⟨PtD.doL_ok (PtD.may_ok2.1 hS.ok) hcl e, PtD.doL_len e⟩
  generalize s.P.doL (wthn x.cpu s.P.on.length) ⟨x.kind, x.vm, x.frame, x.mid, x.vcpu, x.ccpu⟩ = r at hv hne hok2
  cases r with
  | error e =>
    obtain rfl : v = .tuple #[.agg #[.slice none 0 0, .slice none 0 0, .slice none 0 0], .int .i64 e] := hv
    have he0 := hne e rfl
    refine dExtract ?_
    refine dExtract ?_
    refine dNil ?_
    refine opsF ?_
    simp only [List.cons_append, List.nil_append, List.append_nil]
    refine ops_le (⟨Yv, #[.slice none 0 0, .slice none 0 0, .slice none 0 0], 26⟩ :: ⟨X, s.cs, 26⟩ :: ⟨B, #[.slice p P.pages.length pc, .slice g P.guests.length gc, .slice o P.on.length oc, .slice (some ⟨b, of, none⟩) A.length ac], 29⟩ :: s.h) (by (refine hpLe_cnt fun a => ?_; simp only [cntB_app, cntB_cons, cntB_nil]; omega)) ?_
    refine run ?_
    refine callE (fun wc hG => num18_e _ wc) ?_
    refine run ?_
    refine st_cond _ rfl (fun hq => ?_) (fun hq => absurd hq (by simp [he0]))
    refine run ?_
    exact nextS (k + 1, s) (hm := by dsimp only; omega) ⟨by dsimp only; omega, hS⟩ (h2 := by (refine hpLe_cnt fun a => ?_; simp only [cntB_app, cntB_cons, cntB_nil]; omega))
  | ok P2 =>
    obtain ⟨Y, rfl, hO, hle⟩ := hv
    obtain ⟨h2, hpl, hol⟩ := hok2 P2 rfl
    have hm2 := PtD.may_ok2.2 h2
    have hsm2 := hO.sm
    refine dExtract ?_
    refine dExtract ?_
    refine dNil ?_
    refine opsF ?_
    simp only [List.cons_append, List.nil_append, List.append_nil]
    refine ops_le (⟨Yv, #[.slice none 0 0, .slice none 0 0, .slice none 0 0], 26⟩ :: ⟨X, s.cs, 26⟩ :: ⟨B, #[.slice p P.pages.length pc, .slice g P.guests.length gc, .slice o P.on.length oc, .slice (some ⟨b, of, none⟩) A.length ac], 29⟩ :: (s.h ++ Y.in)) (by (refine hpLe_cnt fun a => ?_; have := HpLe.cnt hle a; simp only [cntB_app, cntB_cons, cntB_nil] at *; omega)) ?_
    refine run ?_
    refine callE (fun wc hG => num18_e _ wc) ?_
    refine run ?_
    refine st_cond _ rfl (fun hq => absurd hq (by simp)) (fun hq => ?_)
    refine runG ?_
    refine callE (fun wc hG => partR_e (hO.partG (hG.here' (by (refine hpLe_cnt fun a => ?_; simp only [cntB_app, cntB_cons, cntB_nil]; omega))))) ?_
    rw [← PtD.may_eq, hm2]
    refine runG ?_
    refine st_cond _ rfl (fun hq => absurd hq (by simp [hpl, hol])) (fun hq => ?_)
    refine run ?_
    have hup : ∀ n : Nat, P2.below ((n : Int) - 1) ≤ 64 := fun n => Nat.le_trans (P2.below_le _) h2.n1
    refine loopS (σ := Nat) (fun j => [(8, .int .i64 ((j : Int) - 1)), (7, .int .i64 (P2.below ((j : Int) - 1) : Int))]) (fun _ => ⟨Yv, #[Y.pv P2, Y.gv P2, Y.ov P2], 26⟩ :: ⟨X, s.cs, 26⟩ :: ⟨B, #[.slice p P.pages.length pc, .slice g P.guests.length gc, .slice o P.on.length oc, .slice (some ⟨b, of, none⟩) A.length ac], 29⟩ :: (s.h ++ Y.in)) (fun j => j ≤ 6) (fun j => 6 - j) 0 (by omega) (hl := by rw [show P2.below (((0 : Nat) : Int) - 1) = 0 from PtD.below_first h2]; (repeat (first | exact True.intro | (refine And.intro (by first | exact Or.inl rfl | exact Or.inr rfl) ?_)))) ?_
    rintro j m3 hm3 hj
    refine run ?_
    refine st_cond _ rfl (fun hc3 => ?_) (fun hc3 => ?_)
    · have hj5 : j < 6 := by simp at hc3; omega
      have hof : ofL P2 ((j : Int) - 1) = ((P2.mine ((j : Int) - 1) : Int), ((((List.range P2.pages.length).filter (P2.uses ((j : Int) - 1))).length : Nat) : Int), 0) := by
        unfold ofL
        rw [hm2, show PtD.btw ((j : Int) - 1) (-1) 4 = true by simp [PtD.btw]; omega]
        rfl
      have hmu := PtD.mine_uses P2 ((j : Int) - 1)
      have hst := PtD.below_step P2 ((j : Int) - 1)
      have hb1 := hup j
      have hb2 := P2.mine_le ((j : Int) - 1)
      have hb3 := h2.n1
      refine run ?_
      refine callE (fun wc hG => by have := of_e (hO.partG (hG.here' (by (refine hpLe_cnt fun a => ?_; simp only [cntB_app, cntB_cons, cntB_nil]; omega)))) ((j : Int) - 1); rw [hof] at this; exact this) ?_
      generalize ((List.range P2.pages.length).filter (P2.uses ((j : Int) - 1))).length = us at hmu
      refine run ?_
      refine callE (fun wc hG => num18_e _ wc) ?_
      refine runG ?_
      refine st_cond _ rfl (fun hq => absurd hq (by simp; omega)) (fun hq => ?_)
      refine run ?_
      exact nextS (j + 1) (by omega) (h1 := by rw [show ((j + 1 : Nat) : Int) - 1 = (j : Int) - 1 + 1 by omega, show ((P2.below ((j : Int) - 1 + 1) : Nat) : Int) = (P2.below ((j : Int) - 1) : Int) + (P2.mine ((j : Int) - 1) : Int) by omega]; (repeat (first | exact True.intro | (refine And.intro (by first | exact Or.inl rfl | exact Or.inr rfl) ?_))))
    · have hj6 : j = 6 := by simp at hc3; omega
      subst hj6
      rw [show P2.below (((6 : Nat) : Int) - 1) = P2.pages.length from PtD.below_last h2]
      refine run ?_
      refine st_cond _ rfl (fun hq => absurd hq (by simp)) (fun hq => ?_)
      refine run ?_
      exact nextS (k + 1, ⟨P2, some ⟨Y.pb, 0, none⟩, some ⟨Y.gb, 0, none⟩, some ⟨Y.ob, 0, none⟩, Y.pcap, Y.gcap, Y.ocap, Y.in⟩) (hm := by dsimp only; omega) ⟨by dsimp only; omega, hm2, hsm2, fun wc hh hG hle2 => hO.partG (hG.here' hle2)⟩ (h2 := by dsimp only [KpD.cs, Lay.pv, Lay.gv, Lay.ov, Lay.in]; (refine hpLe_cnt fun a => ?_; simp only [cntB_app, cntB_cons, cntB_nil]; omega))
end Go.Proofs.Ytjnndchkblnkgaa
