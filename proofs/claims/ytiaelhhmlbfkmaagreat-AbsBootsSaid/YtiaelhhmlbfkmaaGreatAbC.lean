/- Layer 21 (abs): the partition that tables tell, where no machine lives. -/
import Derived.Test.YtiaelhhmlbfkmaaGreatAbB
import Derived.Test.YtiaelhhmlbfkmaaGreatEngCX
namespace Go.Proofs.YtiaelhhmlbfkmaaGreat
open Go.RowKit
set_option linter.unusedVariables false
set_option linter.unusedSimpArgs false
set_option maxRecDepth 20000
attribute [local irreducible] Hy St Ops DH DHF DE1 DE2 DE3 DS DCh DWF
/-- A hypervisor that is looked at. -/
structure AbAt (w : World) (X : Nat) (wv cv vv rv : Value) (ws : List Nat) (C : Nat) : Prop where
  x : w.rangeAt X 0 (abL wv cv vv rv)
  h : HyAt w wv cv vv rv ws (List.replicate C cpu0) (List.replicate 4 vm0) (List.replicate C noRg)
  m : memOk ws.length = true
  c : C ≤ 3
theorem AbAt.good {w w' : World} {hp : Hp} {X : Nat} {wv cv vv rv : Value} {ws : List Nat} {C : Nat} (h : AbAt w X wv cv vv rv ws C) (hG : Good w [] hp w') : AbAt w' X wv cv vv rv ws C := ⟨hG.range h.x List.not_mem_nil, h.h.good hG, h.m, h.c⟩
theorem abGuest_e {w : World} {X : Nat} {wv cv vv rv : Value} {ws : List Nat} {C : Nat} (h : AbAt w X wv cv vv rv ws C) (i : Nat) (hi : i < 4) : Fn Tryz.prog 72 [.pointer (some ⟨X, 0, none⟩), .int .i64 (i : Int)].toArray w [] (fun u _ => u = .agg #[.bool false, .bool false, .int .i64 0, .slice none 0 0, .slice none 0 0]) := by
  have h2 : w.rangeAt X 2 [vv] := rangeAt_sub (k := 2) (n := 1) h.x rfl
  have h2' := rangeAt_cell0 h2
  have hop := h.h.vs.rows.opened
  rw [show (List.replicate 4 vm0).length = 4 from rfl] at hop
  obtain ⟨q, cap, rfl, hne, _⟩ := hop
  obtain ⟨b, o, rfl⟩ := hne (by simp)
  have hr := h.h.vs.rows.row (k := i) (by simpa using hi)
  rw [show (List.replicate 4 vm0).getD i default = vm0 by rw [List.getD_eq_getElem?_getD, List.getElem?_replicate, if_pos hi]; rfl] at hr
  refine enter Tryz.func72 ?_
  refine run ?_
  intro G V Q
  refine st_cond _ rfl (fun hc => ?_) (fun hc => absurd hc (by decide))
  refine run ?_
  exact finA (cs := #[.bool vm0.live, .bool vm0.dying, .int .i64 0, .slice none 0 0, .slice none 0 0]) rfl
theorem pageO_le (g : GtD) : (-1 ≤ (pageO g).own ∧ (pageO g).own ≤ 4) ∧ -2 ≤ (pageO g).wit ∧ (pageO g).wit ≤ 0 := by
  unfold pageO
  cases (!decide (g.e = 0)) with
  | true => (simp only [cond_true, cond_false]; exact ⟨⟨by decide, by decide⟩, by decide, by decide⟩)
  | false =>
    cases (decide (g.d.kind = 2) && decide (g.d.soft = 0)) with
    | true => (simp only [cond_true, cond_false]; exact ⟨⟨by decide, by decide⟩, by decide, by decide⟩)
    | false =>
      cases (decide (g.d.kind = 2) && decide (g.d.soft = 1)) with
      | true => (simp only [cond_true, cond_false]; exact ⟨⟨by decide, by decide⟩, by decide, by decide⟩)
      | false =>
        cases (decide (g.d.kind = 2) && decide (g.d.soft = 2)) with
        | true => (simp only [cond_true, cond_false]; exact ⟨⟨by decide, by decide⟩, by decide, by decide⟩)
        | false =>
          cases hn : (decide (g.d.kind = 0) && decide (1 < g.d.note) && decide (g.d.note ≤ 5)) with
          | true =>
            simp only [Bool.and_eq_true, decide_eq_true_eq] at hn
            simp only [cond_true, cond_false]
            exact ⟨⟨by omega, by omega⟩, by decide, by decide⟩
          | false => (simp only [cond_true, cond_false]; exact ⟨⟨by decide, by decide⟩, by decide, by decide⟩)
theorem pageO_ok (g : GtD) : I64 (pageO g).own ∧ I64 (pageO g).wit := by
  have h := pageO_le g
  unfold I64
  omega
def absL (ws : List Nat) (C : Nat) : PtD := ⟨(List.range (ws.length / 8)).map fun f => pageO (getL ws 0 f), List.replicate 4 ⟨false, false, 0, [], []⟩, List.replicate C ⟨0, 0⟩⟩
theorem absG {w : World} {ws : List Nat} {C : Nat} {pv gv ov : Value} {ha hg ho : Hp} (hA : Acc 70 2 pv ha (((List.range (ws.length / 8)).map fun f => pageO (getL ws 0 f)).map pgV)) (hB : Acc 129 5 gv hg (List.replicate 4 [.bool false, .bool false, .int .i64 0, .slice none 0 0, .slice none 0 0])) (hC : Own 133 2 ov ho (List.replicate C [.int .i64 0, .int .i64 0])) (hF : ws.length / 8 ≤ 64) (hc : C ≤ 3) (h : Here (ha ++ hg ++ ho) w) : PartG w pv gv ov (absL ws C) := by
  have hnil : ∀ sz, SlAt w (.slice none 0 0) sz [] := fun sz => slAt_nil w sz
  have hg0 : ∀ i, (absL ws C).gs i = ⟨false, false, 0, [], []⟩ := fun i => by
    simp only [absL, PtD.gs, List.getD_eq_getElem?_getD, List.getElem?_replicate]
    split <;> rfl
  refine ⟨hA.lie (h.sub fun e he => by simp [he]) (by simp; omega), ⟨fun _ => .slice none 0 0, fun _ => .slice none 0 0, ?_, fun i _ => by rw [hg0 i]; exact ⟨hnil 1, hnil 2⟩⟩, ?_, ?_⟩
  · have e : ((List.range (absL ws C).guests.length).map fun i => [Value.bool ((absL ws C).gs i).live, .bool ((absL ws C).gs i).dying, .int .i64 ((absL ws C).gs i).first, .slice none 0 0, .slice none 0 0]) = List.replicate 4 [Value.bool false, .bool false, .int .i64 0, .slice none 0 0, .slice none 0 0] := by simp only [hg0]; rfl
    rw [e]
    exact hB.lie (h.sub fun e he => by simp [he]) (by simp)
  · have := hC.lie (w := w) (fun e he => h e (by simp [he])) (by simp; omega)
    simpa [absL, stV] using this
  · refine ⟨fun f hf => ?_, fun i _ => by rw [hg0 i]; exact ⟨⟨by decide, by decide⟩, by simp, by simp⟩, fun c hc => ?_⟩
    · simp only [absL, List.length_map, List.length_range] at hf
      simp only [absL, PtD.pg, List.getD_eq_getElem?_getD, List.getElem?_map, List.getElem?_range hf, Option.map_some, Option.getD_some]
      exact pageO_ok _
    · simp only [absL, List.length_replicate] at hc
      simp only [absL, PtD.st, List.getD_eq_getElem?_getD, List.getElem?_replicate, hc, if_true, Option.getD_some]
      exact ⟨⟨by decide, by decide⟩, by decide, by decide⟩
theorem part_e {w : World} {X : Nat} {wv cv vv rv : Value} {ws : List Nat} {C : Nat} (h : AbAt w X wv cv vv rv ws C) : Fn Tryz.prog 35 [.pointer (some ⟨X, 0, none⟩)].toArray w [] (fun u hn => ∃ p1 p2 p3 k1 k2 k3 : _, ∃ n1 n2 n3 : Nat, u = .agg #[.slice p1 n1 k1, .slice p2 n2 k2, .slice p3 n3 k3] ∧ ∀ w, Here hn w → PartG w (.slice p1 n1 k1) (.slice p2 n2 k2) (.slice p3 n3 k3) (absL ws C)) := by
  have h0 : w.rangeAt X 0 [wv] := rangeAt_sub (k := 0) (n := 1) h.x rfl
  have h0' := rangeAt_cell0 h0
  obtain ⟨q, cap, rfl, _, _⟩ := h.h.ws.opened
  refine enter Tryz.func35 ?_
  refine run ?_
  intro R P
  have hmi := memOk_iff h.m
  refine op1 (by rfl) (x_quoN rfl rfl ws.length 8 rfl rfl (by decide) (by omega)) ?_
  refine run ?_
  refine loopS (σ := Nat × Value × Hp) (fun s => [(16, .int .i64 (s.1 : Int))]) (fun s => ⟨P, #[s.2.1, .slice none 0 0, .slice none 0 0], 38⟩ :: ⟨R, #[.slice none 0 0, .slice none 0 0, .slice none 0 0], 38⟩ :: s.2.2) (fun s => s.1 ≤ ws.length / 8 ∧ Acc 70 2 s.2.1 s.2.2 (((List.range s.1).map fun f => pageO (getL ws 0 f)).map pgV)) (fun s => ws.length / 8 - s.1) (0, .slice none 0 0, []) ⟨Nat.zero_le _, Acc.nil _ _⟩ ?_
  rintro ⟨k, pv, ha⟩ m hm ⟨hk, hA⟩
  dsimp only at hm hk hA ⊢
  obtain ⟨qa, ca, xa⟩ := hA.own.opened
  simp only [List.length_map, List.length_range] at xa
  subst xa
  refine run ?_
  refine st_cond _ rfl (fun hc => ?_) (fun hc => ?_)
  · have hlt : k < ws.length / 8 := by simp at hc; omega
    refine run ?_
    refine drawCX 9 6 [0, 1, 2, 3, 4, 7] [(5, false), (6, false), (8, false)] [⟨R, #[.slice none 0 0, .slice none 0 0, .slice none 0 0], 38⟩] ?_
    refine runZ ?_
    refine sCallA (fun wc hx hG => page_e (h.good hG).x ws h.h.w64 (h.good hG).h.ws h.m k (by omega)) ?_
    refine runZ ?_
    generalize hpg : pageO (getL ws 0 k) = pg
    refine xC ?_
    refine cSlice [.int .i64 pg.own, .int .i64 pg.wit] (fun Z => ?_)
    refine dc_nil ?_
    refine xApp (c := pgV pg) (hp' := ⟨Z, #[.int .i64 pg.own, .int .i64 pg.wit], 70⟩ :: ⟨P, #[.slice qa k ca, .slice none 0 0, .slice none 0 0], 38⟩ :: [⟨R, #[.slice none 0 0, .slice none 0 0, .slice none 0 0], 38⟩]) hA (news_own (m := 2) mh rfl) (by rw [List.length_map, List.length_map, List.length_range]; omega) clcntP clcntL (fun v' ha' hA2 => ?_)
    obtain ⟨q9, c9, e9⟩ := hA2.own.opened
    subst e9
    refine xC ?_
    refine cStore (b := P) (tb := 38) (cs := #[.slice qa k ca, .slice none 0 0, .slice none 0 0]) (cs' := #[.slice q9 _ c9, .slice none 0 0, .slice none 0 0]) (hp' := ha' ++ (⟨Z, #[.int .i64 pg.own, .int .i64 pg.wit], 70⟩ :: [⟨R, #[.slice none 0 0, .slice none 0 0, .slice none 0 0], 38⟩])) ?_ clcntP
    refine dc_nil ?_
    refine xNil ?_
    refine opsC ?_
    refine run ?_
    exact nextS (k + 1, _, ha') ⟨hlt, by dsimp only; rw [List.range_succ, List.map_append, List.map_append, List.map_singleton, List.map_singleton, hpg]; exact hA2⟩ (hm := by dsimp only; omega) (h2 := by (exact clcntL))
  have hkF : k = ws.length / 8 := by simp at hc; omega
  subst hkF
  have hop := h.h.vs.rows.opened
  rw [show (List.replicate 4 vm0).length = 4 from rfl] at hop
  obtain ⟨q2, cap2, rfl, hne2, _⟩ := hop
  have h2 : w.rangeAt X 2 [.slice q2 4 cap2] := rangeAt_sub (k := 2) (n := 1) h.x rfl
  have h2' := rangeAt_cell0 h2
  refine run ?_
  refine loopS (σ := Nat × Value × Hp) (fun s => [(34, .int .i64 (s.1 : Int))]) (fun s => ⟨P, #[.slice qa (ws.length / 8) ca, s.2.1, .slice none 0 0], 38⟩ :: ⟨R, #[.slice none 0 0, .slice none 0 0, .slice none 0 0], 38⟩ :: (ha ++ s.2.2)) (fun s => s.1 ≤ 4 ∧ Acc 129 5 s.2.1 s.2.2 (List.replicate s.1 [.bool false, .bool false, .int .i64 0, .slice none 0 0, .slice none 0 0])) (fun s => 4 - s.1) (0, .slice none 0 0, []) ⟨Nat.zero_le _, Acc.nil _ _⟩ ?_ (hh := by dsimp only; (exact clcntL))
  rintro ⟨k, gv, hg⟩ m2 hm2 ⟨hk2, hB⟩
  dsimp only at hm2 hk2 hB ⊢
  obtain ⟨qb, cb, xb⟩ := hB.own.opened
  rw [List.length_replicate] at xb
  subst xb
  refine run ?_
  refine st_cond _ rfl (fun hc2 => ?_) (fun hc2 => ?_)
  · have hlt : k < 4 := by simp at hc2; omega
    refine run ?_
    refine drawCX 9 6 [0, 1, 2, 3, 4, 7] [(5, false), (6, false), (8, false)] (⟨R, #[.slice none 0 0, .slice none 0 0, .slice none 0 0], 38⟩ :: ha) ?_
    refine runZ ?_
    refine sCallA (fun wc hx hG => abGuest_e (h.good hG) k hlt) ?_
    refine runZ ?_
    refine xC ?_
    refine cSlice [.bool false, .bool false, .int .i64 0, .slice none 0 0, .slice none 0 0] (fun Z => ?_)
    refine dc_nil ?_
    refine xApp (c := [.bool false, .bool false, .int .i64 0, .slice none 0 0, .slice none 0 0]) (hp' := ⟨Z, [.bool false, .bool false, .int .i64 0, .slice none 0 0, .slice none 0 0].toArray, 129⟩ :: ⟨P, #[.slice qa (ws.length / 8) ca, .slice qb k cb, .slice none 0 0], 38⟩ :: ⟨R, #[.slice none 0 0, .slice none 0 0, .slice none 0 0], 38⟩ :: ha) hB (news_own (m := 5) mh rfl) (by rw [List.length_replicate]; omega) clcntP clcntL (fun v' ha' hA2 => ?_)
    obtain ⟨q9, c9, e9⟩ := hA2.own.opened
    subst e9
    refine xC ?_
    refine cStore (b := P) (tb := 38) (cs := #[.slice qa (ws.length / 8) ca, .slice qb k cb, .slice none 0 0]) (cs' := #[.slice qa (ws.length / 8) ca, .slice q9 _ c9, .slice none 0 0]) (hp' := ha' ++ (⟨Z, [.bool false, .bool false, .int .i64 0, .slice none 0 0, .slice none 0 0].toArray, 129⟩ :: ⟨R, #[.slice none 0 0, .slice none 0 0, .slice none 0 0], 38⟩ :: ha)) ?_ clcntP
    refine dc_nil ?_
    refine xNil ?_
    refine opsC ?_
    refine run ?_
    exact nextS (k + 1, _, ha') ⟨hlt, by dsimp only; rw [List.replicate_succ']; exact hA2⟩ (hm := by dsimp only; omega) (h2 := by (exact clcntL))
  have hk4 : k = 4 := by simp at hc2; omega
  subst hk4
  have hop3 := h.h.cs.rows.opened
  rw [List.length_replicate] at hop3
  obtain ⟨q3, cap3, rfl, hne3, _⟩ := hop3
  have h3 : w.rangeAt X 1 [.slice q3 C cap3] := rangeAt_sub (k := 1) (n := 1) h.x rfl
  have h3' := rangeAt_cell0 h3
  refine run ?_
  refine loopS (σ := Nat × Value × Hp) (fun s => [(52, .int .i64 (s.1 : Int))]) (fun s => ⟨P, #[.slice qa (ws.length / 8) ca, .slice qb 4 cb, s.2.1], 38⟩ :: ⟨R, #[.slice none 0 0, .slice none 0 0, .slice none 0 0], 38⟩ :: (ha ++ hg ++ s.2.2)) (fun s => s.1 ≤ C ∧ Own 133 2 s.2.1 s.2.2 (List.replicate s.1 [.int .i64 0, .int .i64 0])) (fun s => C - s.1) (0, .slice none 0 0, []) ⟨Nat.zero_le _, Own.nil _ _⟩ ?_ (hh := by dsimp only; (exact clcntL))
  rintro ⟨k, ov, ho⟩ m3 hm3 ⟨hk3, hC⟩
  dsimp only at hm3 hk3 hC ⊢
  obtain ⟨qc, cc, xc⟩ := hC.opened
  rw [List.length_replicate] at xc
  subst xc
  refine run ?_
  refine st_cond _ rfl (fun hc3 => ?_) (fun hc3 => ?_)
  · have hlt : k < C := by simp at hc3; omega
    obtain ⟨b3, o3, rfl⟩ := hne3 (by intro e; have := congrArg List.length e; simp at this; omega)
    have hr3 := h.h.cs.rows.row (k := k) (by simpa using hlt)
    rw [show (List.replicate C cpu0).getD k default = cpu0 by rw [List.getD_eq_getElem?_getD, List.getElem?_replicate, if_pos hlt]; rfl] at hr3
    refine run ?_
    intro U Z
    have hC3 := h.c
    refine ops_le (⟨Z, #[.int .i64 cpu0.vm, .int .i64 cpu0.vc], 133⟩ :: ⟨P, #[.slice qa (ws.length / 8) ca, .slice qb 4 cb, .slice qc k cc], 38⟩ :: ⟨R, #[.slice none 0 0, .slice none 0 0, .slice none 0 0], 38⟩ :: (ha ++ hg ++ ho)) clcntL ?_
    refine appendW (c := [.int .i64 cpu0.vm, .int .i64 cpu0.vc]) (⟨Z, #[.int .i64 cpu0.vm, .int .i64 cpu0.vc], 133⟩ :: ⟨P, #[.slice qa (ws.length / 8) ca, .slice qb 4 cb, .slice qc k cc], 38⟩ :: ⟨R, #[.slice none 0 0, .slice none 0 0, .slice none 0 0], 38⟩ :: (ha ++ hg)) hC (fun v' ha' hA2 => ?_) (by rw [List.length_replicate]; omega) (news_own (m := 2) mh rfl) (hperm := by (exact clcntP))
    obtain ⟨q9, c9, e9⟩ := hA2.opened
    subst e9
    refine ops_le (⟨P, #[.slice qa (ws.length / 8) ca, .slice qb 4 cb, .slice qc k cc], 38⟩ :: ⟨R, #[.slice none 0 0, .slice none 0 0, .slice none 0 0], 38⟩ :: (ha ++ hg ++ ha')) clcntL ?_
    refine run ?_
    exact nextS (k + 1, _, ha') ⟨hlt, by dsimp only; rw [List.replicate_succ']; exact hA2⟩ (hm := by dsimp only; omega) (h2 := by (exact clcntL))
  have hkC : k = C := by simp at hc3; omega
  subst hkC
  have hmi' := hmi
  refine run ?_
  exact finA (cs := #[.slice qa (ws.length / 8) ca, .slice qb 4 cb, .slice qc k cc]) ⟨_, _, _, _, _, _, _, _, _, rfl, fun w hw => absG hA hB hC (by omega) h.c (hw.sub (fun e he => by simp at he ⊢; simp [he]))⟩
end Go.Proofs.YtiaelhhmlbfkmaaGreat
