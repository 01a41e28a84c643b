/- Layer 18 (part): a machine begun: the program's. -/
import Derived.Test.YtjnndchkblnkgaaPtL
namespace Go.Proofs.Ytjnndchkblnkgaa
open Go.RowKit
set_option linter.unusedVariables false
set_option linter.unusedSimpArgs false
set_option maxRecDepth 20000
attribute [local irreducible] Hy St Ops DH DHF
namespace PtD
def claim (P : PtD) (f : Nat) : Nat → PtD
  | 0 => P
  | k + 1 => (claim P f k).setPg (f + k) ⟨-1, -2⟩
theorem claim_len (P : PtD) (f k : Nat) : (P.claim f k).pages.length = P.pages.length := by
  induction k with
  | zero => rfl
  | succ k ih => rw [claim, setPg]; simpa using ih
theorem claim_gs (P : PtD) (f k : Nat) : (P.claim f k).guests = P.guests := by
  induction k with
  | zero => rfl
  | succ k ih => rw [claim, setPg]; exact ih
theorem claim_on (P : PtD) (f k : Nat) : (P.claim f k).on = P.on := by
  induction k with
  | zero => rfl
  | succ k ih => rw [claim, setPg]; exact ih
abbrev idle (g : GsD) : Bool := !g.live && !g.dying
def five (P : PtD) (f : Nat) : List PgD := (P.pages.drop f).take 5
def createL (P : PtD) (fr : Int) : Except Int PtD :=
  bif !btw fr 16 ((P.pages.length : Int) - 1) || decide ((P.pages.length : Int) - 5 < fr) then .error 2
  else bif (P.five fr.toNat).any (fun x => !decide (x.own = 0)) then .error 7 else bif (P.five fr.toNat).any (fun x => !decide (x.wit = -2)) then .error 4
  else bif !decide (0 ≤ idxI idle P.guests) then .error 5
  else .ok ((P.claim fr.toNat 5).setGs (idxI idle P.guests).toNat ⟨true, false, fr, [], []⟩)
end PtD
theorem idxI_lt {α : Type} [Inhabited α] (p : α → Bool) (l : List α) : idxI p l < l.length ∨ l.length = 0 := by
  rcases PtD.first_hit (p := fun j => p (l.getD j default)) l.length with h | ⟨k, hk, h1, h2⟩
  · rw [idxI_none h]; omega
  · rw [idxI_at hk h1 h2]; omega
theorem create1_e (l d : Bool) (fi : Int) (vv mv : Value) (w : World) : Fn Try.prog 67 ([] ++ [Value.agg #[.bool l, .bool d, .int .i64 fi, vv, mv]] ++ []).toArray w [] (fun u _ => u = .bool (!l && !d)) := by
  refine enter Try.func67 ?_
  refine run ?_
  intro b
  refine runG ?_
  exact fin1 rfl
theorem create2_e (x : PgD) (w : World) : Fn Try.prog 69 ([] ++ [Value.agg #[.int .i64 x.own, .int .i64 x.wit]] ++ []).toArray w [] (fun u _ => u = .bool (!decide (x.own = 0))) := by
  refine enter Try.func69 ?_
  refine run ?_
  intro b
  refine run ?_
  exact fin1 rfl
theorem create3_e (x : PgD) (w : World) : Fn Try.prog 70 ([] ++ [Value.agg #[.int .i64 x.own, .int .i64 x.wit]] ++ []).toArray w [] (fun u _ => u = .bool (!decide (x.wit = -2))) := by
  refine enter Try.func70 ?_
  refine run ?_
  intro b
  refine run ?_
  exact fin1 rfl
section
variable {P : PtD} {Y : Lay} {bx tx : Nat} {w : World}
theorem indexGuest_e (h : OwnP P Y) (hh : Here (Y.hd P bx tx) w) : Fn Try.prog 66 [Y.gv P, .func (.func 67) [].toArray [].toArray].toArray w [] (fun u _ => u = .int .i64 (idxI PtD.idle P.guests)) := by
  have g4 := h.n.g4
  have hb := hh ⟨Y.gb, Y.gc, 57⟩ (by simp)
  refine enter Try.func66 ?_
  refine run ?_
  refine loopS (σ := Nat) (fun k => [(8, .int .i64 (k : Int))]) (fun _ => []) (fun k => k ≤ P.guests.length ∧ ∀ j, j < k → PtD.idle (P.guests.getD j default) = false) (fun k => P.guests.length - k) 0 ⟨Nat.zero_le _, fun j hj => absurd hj (by omega)⟩ ?_
  rintro k m rfl ⟨hk, hno⟩
  refine run ?_
  refine st_cond _ rfl (fun hc => ?_) (fun hc => ?_)
  · have hlt : k < P.guests.length := by simp at hc; omega
    have hr := h.gs.range gs_len hb (h.rowG (i := k) (by omega))
    rw [Nat.zero_add] at hr
    refine run ?_
    refine callF (fun wc hG => create1_e (P.gs k).live (P.gs k).dying (P.gs k).first (Y.G k).vv (Y.G k).mv wc) ?_
    refine run ?_
    refine st_cond _ rfl (fun hp => ?_) (fun hp => ?_)
    · refine run ?_
      refine fin1 ?_
      rw [idxI_at (p := PtD.idle) hlt hp hno]
    · refine run ?_
      refine nextS (k + 1) ⟨hlt, fun j hj => ?_⟩
      rcases Nat.lt_succ_iff_lt_or_eq.1 hj with hj | rfl
      · exact hno j hj
      · exact hp
  · have hge : k = P.guests.length := by simp at hc; omega
    subst hge
    refine run ?_
    refine fin1 ?_
    rw [idxI_none hno]
theorem OwnP.slF (h : OwnP P Y) (hh : Here (Y.hd P bx tx) w) (f : Nat) (hf : f + 5 ≤ P.pages.length) (cap : Nat) : SlAt w (.slice (some ⟨Y.pb, f * 2, none⟩) 5 cap) 2 ((P.five f).map pgV) := by
  have hl : ((P.five f).map pgV).length = 5 := by simp [PtD.five]; omega
  have hb := hh ⟨Y.pb, Y.pc, 51⟩ (by simp)
  refine ⟨⟨_, cap, by rw [hl], fun _ => ⟨Y.pb, f * 2, rfl, fun i c hc => ?_⟩⟩, by rw [hl]; omega⟩
  have hi : i < 5 := by rw [← hl]; exact (List.getElem?_eq_some_iff.1 hc).1
  rw [List.getElem?_map, PtD.five, List.getElem?_take, if_pos hi, List.getElem?_drop, ← List.getElem?_map] at hc
  have := h.pg.range pg_len hb hc
  rwa [Nat.zero_add, Nat.add_mul] at this
theorem create_e (h : OwnP P Y) (hm : P.may = true) (hN : HereN (Y.hd P bx 66) w) (c : ClD) (hw : c.Wf) : Fn Try.prog 46 [.pointer (some ⟨bx, 0, none⟩), clV c].toArray w ((Y.hd P bx 66).map (·.b)) (CallR bx 66 (P.createL c.frame)) := by
  have hp1 := h.n.p1
  refine enterM _ hN Try.func46 ?_
  refine run ?_
  intro C
  refine run ?_
  refine drawAll ?_
  refine runDG ?_
  refine callD (fun wc hG => framed_e (bx := bx) (tx := 66) h (hG.here' (by (refine hpLe_cnt fun a => ?_; simp only [cntB_app, cntB_cons, cntB_nil]; omega))) c.frame) ?_
  refine runDG ?_
  refine runC ?_
  cases hb : PtD.btw c.frame 16 ((P.pages.length : Int) - 1)
  · refine st_cond _ rfl (fun _ => ?_) (fun hp => by simp at hp)
    refine runC ?_
    refine fin1 ?_
    simp [CallR, PtD.createL, hb]
  cases hb5 : decide ((P.pages.length : Int) - 5 < c.frame)
  rotate_left
  · refine runC ?_
    refine fin1 ?_
    simp only [PtD.createL, hb, hb5]
    rfl
  have hb' := hb
  simp only [PtD.btw, Bool.and_eq_true, decide_eq_true_eq] at hb'
  have hb5' := hb5
  simp only [decide_eq_false_iff_not] at hb5'
  have hf5 : c.frame.toNat + 5 ≤ P.pages.length := by omega
  have hcapP := h.pg.le
  have hsm := h.sm.pg
  have hmxP := h.pg.max
  have hkey : P.createL c.frame = bif (P.five c.frame.toNat).any (fun x => !decide (x.own = 0)) then .error 7 else bif (P.five c.frame.toNat).any (fun x => !decide (x.wit = -2)) then .error 4
      else bif !decide (0 ≤ idxI PtD.idle P.guests) then .error 5
      else .ok ((P.claim c.frame.toNat 5).setGs (idxI PtD.idle P.guests).toNat ⟨true, false, c.frame, [], []⟩) := by
    rw [PtD.createL, hb, hb5]; rfl
  rw [hkey]
  refine runC ?_
  refine drawN 11 ?_
  refine runD ?_
  refine opD (x_sliceLH tb_ok rfl rfl rfl rfl (by omega) (by omega) (by omega) (by omega) (o' := c.frame.toNat * 2) (m' := 5) (c' := Y.pcap - c.frame.toNat) (by omega) (by omega) rfl) ?_
  refine runD ?_
  refine runC ?_
  refine callE (fun wc hG => indexGuest_e (bx := bx) (tx := 66) h (hG.here' (by (refine hpLe_cnt fun a => ?_; simp only [cntB_app, cntB_cons, cntB_nil]; omega)))) ?_
  refine runC ?_
  refine callE (fun wc hG => containsPage_e (us := []) (fun x => !decide (x.own = 0)) (P.five c.frame.toNat) _ (h.slF (bx := bx) (tx := 66) (hG.here' (by (refine hpLe_cnt fun a => ?_; simp only [cntB_app, cntB_cons, cntB_nil]; omega))) c.frame.toNat hf5 _) (fun x w' ha => create2_e x w')) ?_
  refine runC ?_
  refine callE (fun wc hG => containsPage_e (us := []) (fun x => !decide (x.wit = -2)) (P.five c.frame.toNat) _ (h.slF (bx := bx) (tx := 66) (hG.here' (by (refine hpLe_cnt fun a => ?_; simp only [cntB_app, cntB_cons, cntB_nil]; omega))) c.frame.toNat hf5 _) (fun x w' ha => create3_e x w')) ?_
  refine runC ?_
  refine callE (fun wc hG => unless_e _ _ wc) ?_
  refine runC ?_
  refine callE (fun wc hG => unless_e _ _ wc) ?_
  refine runC ?_
  refine callE (fun wc hG => unless_e _ _ wc) ?_
  refine runC ?_
  intro F
  refine callE (fun wc hG => first_e [_, _, _] _ (lits hG mh [_, _, _] rfl rfl (by simp))) ?_
  cases hA : (P.five c.frame.toNat).any fun x => !decide (x.own = 0)
  rotate_left
  · rw [show firstL [bif !true then 0 else 7, bif !((P.five c.frame.toNat).any fun x => !decide (x.wit = -2)) then 0 else 4, bif decide (0 ≤ idxI PtD.idle P.guests) then 0 else 5] = 7 from rfl]
    refine runC ?_
    refine fin1 ?_
    rfl
  cases hB : (P.five c.frame.toNat).any fun x => !decide (x.wit = -2)
  rotate_left
  · rw [show firstL [bif !false then 0 else 7, bif !true then 0 else 4, bif decide (0 ≤ idxI PtD.idle P.guests) then 0 else 5] = 4 from rfl]
    refine runC ?_
    refine fin1 ?_
    rfl
  cases hC : decide (0 ≤ idxI PtD.idle P.guests)
  · rw [show firstL [bif !false then 0 else 7, bif !false then 0 else 4, bif false then 0 else 5] = 5 from rfl]
    refine runC ?_
    refine fin1 ?_
    rfl
  rw [show firstL [bif !false then 0 else 7, bif !false then 0 else 4, bif true then 0 else 5] = 0 from rfl]
  refine runC ?_
  have g4 := h.n.g4
  refine loopS (σ := Nat × Array Value) (fun s => [(65, .int .i64 (s.1 : Int))]) (fun s => ⟨C, #[.int .i64 c.kind, .int .i64 c.vm, .int .i64 c.frame, .int .i64 c.mid, .int .i64 c.vcpu, .int .i64 c.ccpu], 37⟩ :: ⟨Y.pb, s.2, 51⟩ :: ⟨bx, #[Y.pv P, Y.gv P, Y.ov P], 66⟩ :: ⟨Y.gb, Y.gc, 57⟩ :: ⟨Y.ob, Y.oc, 59⟩ :: ghs Y.G 4) (fun s => s.1 ≤ 5 ∧ OwnP (P.claim c.frame.toNat s.1) { Y with pc := s.2 }) (fun s => 5 - s.1) (0, Y.pc) ⟨Nat.zero_le _, h⟩ (hh := by (refine hpLe_cnt fun a => ?_; simp only [cntB_app, cntB_cons, cntB_nil]; omega)) ?_
  rintro ⟨k, pc⟩ m hm' ⟨hk, hO⟩
  dsimp only at hm' hk hO ⊢
  have hcl := PtD.claim_len P c.frame.toNat k
  refine runC ?_
  refine st_cond _ rfl (fun hc => ?_) (fun hc => ?_)
  · have hlt : k < 5 := by simp at hc; omega
    have hps := hO.psz
    rw [hcl] at hps
    dsimp only at hps
    refine runC ?_
    refine callE (fun wc hG => ours_e wc) ?_
    refine runC ?_
    have hfk : c.frame.toNat + k < (P.claim c.frame.toNat k).pages.length := by rw [hcl]; omega
    have h1 := hO.setP hfk ⟨-1, -2⟩ (pc := (pc.setIfInBounds (c.frame.toNat * 2 + k * 2) (.int .i64 (-1))).setIfInBounds (c.frame.toNat * 2 + k * 2 + 1) (.int .i64 (-2))) (by
      have := hO.pg.put pg_len (pg_at hfk) (k := 0) (vs := pgV ⟨-1, -2⟩) (by simp [pgV])
      rw [Nat.add_zero, Nat.add_mul] at this
      exact this) ⟨⟨by decide, by decide⟩, ⟨by decide, by decide⟩⟩
    exact nextS (k + 1, (pc.setIfInBounds (c.frame.toNat * 2 + k * 2) (.int .i64 (-1))).setIfInBounds (c.frame.toNat * 2 + k * 2 + 1) (.int .i64 (-2))) (hm := by dsimp only; omega) ⟨hlt, h1⟩ (h2 := by (refine hpLe_cnt fun a => ?_; simp only [cntB_app, cntB_cons, cntB_nil]; omega))
  · have hk5 : k = 5 := by simp at hc; omega
    subst hk5
    have hlt4 := idxI_lt PtD.idle P.guests
    have hC' := hC
    simp only [decide_eq_true_eq] at hC'
    have hi : (idxI PtD.idle P.guests).toNat < 4 := by omega
    have hz := h.gsz
    refine runC ?_
    refine drawN 9 ?_
    refine runD ?_
    refine runC ?_
    refine fin1 ?_
    have hrow := hO.gs.put gs_len (hO.rowG hi) (k := 0) (vs := [.bool true, .bool false, .int .i64 c.frame, .slice none 0 0, .slice none 0 0]) (by simp)
    have h1 := hO.setG hi ⟨true, false, c.frame, [], []⟩ ⟨.slice none 0 0, .slice none 0 0, [], []⟩ (gc := putAt Y.gc ((idxI PtD.idle P.guests).toNat * 5) [.bool true, .bool false, .int .i64 c.frame, .slice none 0 0, .slice none 0 0]) hrow ⟨by simp, .inl ⟨rfl, rfl, rfl⟩⟩ ⟨by simp, .inl ⟨rfl, rfl, rfl⟩⟩ ⟨hw.frame, by simp, by simp⟩ ⟨by simp, by simp⟩
    refine ⟨rfl, _, h1, hle_eq (hdG { Y with pc := pc } _ _ _ _ _ _ _) ?_⟩
    obtain ⟨r, g1, g2⟩ := ghs_upd Y.G hi
    have g3 := g2 (.slice none 0 0) (.slice none 0 0) [] []
    have e1 : Lay.pv { Y with pc := pc } (P.claim c.frame.toNat 5) = Y.pv P := by unfold Lay.pv; rw [hcl]
    have e2 : Lay.gv { Y with pc := pc } (P.claim c.frame.toNat 5) = Y.gv P := by unfold Lay.gv; rw [PtD.claim_gs]
    have e3 : Lay.ov { Y with pc := pc } (P.claim c.frame.toNat 5) = Y.ov P := by unfold Lay.ov; rw [PtD.claim_on]
    rw [e1, e2, e3]
    simp only [putAt]
    (refine hpLe_cnt fun a => ?_; have := HpLe.cnt g3 a; have := HpLe.cnt g1 a; simp only [cntB_app, cntB_cons, cntB_nil] at *; omega)
end
end Go.Proofs.Ytjnndchkblnkgaa
