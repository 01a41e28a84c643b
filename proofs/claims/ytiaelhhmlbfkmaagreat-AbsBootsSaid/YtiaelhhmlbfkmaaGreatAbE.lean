/- Layer 21 (abs): what is quiet and sound, where no machine lives. -/
import Derived.Test.YtiaelhhmlbfkmaaGreatAbD
namespace Go.Proofs.YtiaelhhmlbfkmaaGreat
open Go.RowKit
set_option linter.unusedVariables false
set_option linter.unusedSimpArgs false
set_option maxRecDepth 20000
attribute [local irreducible] Hy St Ops DH DHF DE1 DE2 DE3 DS DCh DWF
theorem idxVcpu_e (F : Value) (w : World) : Fn Tryz.prog 165 [.slice none 0 0, F].toArray w [] (fun u _ => u = .int .i64 (-1)) := by
  refine enter Tryz.func165 ?_
  refine run ?_
  refine loopS (σ := Unit) (fun _ => [(8, .int .i64 0)]) (fun _ => []) (fun _ => True) (fun _ => 0) () trivial ?_
  rintro _ m hm _
  refine run ?_
  refine st_cond _ rfl (fun hc => absurd hc (by decide)) (fun hc => ?_)
  refine run ?_
  exact fin1 rfl
theorem hasVcpu_e (F : Value) (w : World) : Fn Tryz.prog 78 [.slice none 0 0, F].toArray w [] (fun u _ => u = .bool false) := by
  refine enter Tryz.func78 ?_
  refine run ?_
  refine callE (fun wc hG => idxVcpu_e F wc) ?_
  refine run ?_
  exact fin1 rfl
theorem idxEntry_e (F : Value) (w : World) : Fn Tryz.prog 179 [.slice none 0 0, F].toArray w [] (fun u _ => u = .int .i64 (-1)) := by
  refine enter Tryz.func179 ?_
  refine run ?_
  refine loopS (σ := Unit) (fun _ => [(8, .int .i64 0)]) (fun _ => []) (fun _ => True) (fun _ => 0) () trivial ?_
  rintro _ m hm _
  refine run ?_
  refine st_cond _ rfl (fun hc => absurd hc (by decide)) (fun hc => ?_)
  refine run ?_
  exact fin1 rfl
theorem hasEntry_e (F : Value) (w : World) : Fn Tryz.prog 91 [.slice none 0 0, F].toArray w [] (fun u _ => u = .bool false) := by
  refine enter Tryz.func91 ?_
  refine run ?_
  refine callE (fun wc hG => idxEntry_e F wc) ?_
  refine run ?_
  exact fin1 rfl
theorem quiet_e {w : World} {X : Nat} {wv cv vv rv : Value} {ws : List Nat} {C : Nat} (h : AbAt w X wv cv vv rv ws C) : Fn Tryz.prog 41 [.pointer (some ⟨X, 0, none⟩)].toArray w [] (fun u _ => u = .bool true) := by
  have hop := h.h.vs.rows.opened
  rw [show (List.replicate 4 vm0).length = 4 from rfl] at hop
  obtain ⟨q2, cap2, rfl, hne2, _⟩ := hop
  have h2 : w.rangeAt X 2 [.slice q2 4 cap2] := rangeAt_sub (k := 2) (n := 1) h.x rfl
  have h2' := rangeAt_cell0 h2
  have hop3 := h.h.cs.rows.opened
  rw [List.length_replicate] at hop3
  obtain ⟨q3, cap3, rfl, hne3, _⟩ := hop3
  have h3 : w.rangeAt X 1 [.slice q3 C cap3] := rangeAt_sub (k := 1) (n := 1) h.x rfl
  have h3' := rangeAt_cell0 h3
  have hop4 := h.h.rs.opened
  rw [List.length_replicate] at hop4
  obtain ⟨q4, cap4, rfl, hne4, _⟩ := hop4
  have h4 : w.rangeAt X 3 [.slice q4 C cap4] := rangeAt_sub (k := 3) (n := 1) h.x rfl
  have h4' := rangeAt_cell0 h4
  refine enter Tryz.func41 ?_
  refine run ?_
  refine loopS (σ := Nat) (fun k => [(13, .int .i64 (k : Int))]) (fun _ => []) (fun k => k ≤ C) (fun k => C - k) 0 (Nat.zero_le _) ?_
  · rintro k m hm hk
    refine run ?_
    refine st_cond _ rfl (fun hc => ?_) (fun hc => ?_)
    · have hlt : k < C := by simp at hc; omega
      obtain ⟨b3, o3, rfl⟩ := hne3 (by intro e; have := congrArg List.length e; simp at this; omega)
      obtain ⟨b4, o4, rfl⟩ := hne4 (by intro e; have := congrArg List.length e; simp at this; omega)
      have hr3 := h.h.cs.rows.row (k := k) (by simpa using hlt)
      rw [show (List.replicate C cpu0).getD k default = cpu0 by rw [List.getD_eq_getElem?_getD, List.getElem?_replicate, if_pos hlt]; rfl] at hr3
      have hr4 := h.h.rs.row (k := k) (by simpa using hlt)
      rw [show (List.replicate C noRg).getD k default = noRg by rw [List.getD_eq_getElem?_getD, List.getElem?_replicate, if_pos hlt]; rfl] at hr4
      refine run ?_
      intro U
      refine runG ?_
      refine st_cond _ rfl (fun hd => absurd hd (by decide)) (fun hd => ?_)
      refine runC ?_
      exact nextS (k + 1) hlt
    refine run ?_
    refine loopS (σ := Nat) (fun k => [(40, .int .i64 (k : Int))]) (fun _ => []) (fun k => k ≤ 4) (fun k => 4 - k) 0 (Nat.zero_le _) ?_
    rintro k2 m2 hm2 hk2
    refine run ?_
    refine st_cond _ rfl (fun hc2 => ?_) (fun hc2 => ?_)
    · have hlt2 : k2 < 4 := by simp at hc2; omega
      obtain ⟨b2, o2, rfl⟩ := hne2 (by simp)
      have hr2 := h.h.vs.rows.row (k := k2) (by simpa using hlt2)
      rw [show (List.replicate 4 vm0).getD k2 default = vm0 by rw [List.getD_eq_getElem?_getD, List.getElem?_replicate, if_pos hlt2]; rfl] at hr2
      refine run ?_
      intro W
      refine runG ?_
      refine st_cond _ rfl (fun hd => absurd hd (by decide)) (fun hd => ?_)
      refine run ?_
      refine callE (fun wc hG => hasVcpu_e _ wc) ?_
      refine runG ?_
      refine st_cond _ rfl (fun hd => absurd hd (by decide)) (fun hd => ?_)
      refine run ?_
      refine runG ?_
      refine st_cond _ rfl (fun hd => absurd hd (by decide)) (fun hd => ?_)
      refine runC ?_
      exact nextS (k2 + 1) hlt2
    refine run ?_
    exact fin1 rfl
theorem machine_e {w : World} {X : Nat} {wv cv vv rv : Value} {ws : List Nat} {C : Nat} (h : AbAt w X wv cv vv rv ws C) {pv gv ov : Value} {P : PtD} (hP : PartG w pv gv ov P) (hn : P.guests.length = 4) (i : Nat) (hi : i < 4) : Fn Tryz.prog 42 [.pointer (some ⟨X, 0, none⟩), .int .i64 (i : Int), .agg #[pv, gv, ov]].toArray w [] (fun u _ => u = .bool true) := by
  obtain ⟨v2, mv, hg, hvm⟩ := hP.guests
  have hgo := hg.opened
  rw [List.length_range, hn] at hgo
  obtain ⟨qg, capg, rfl, hneg, _⟩ := hgo
  obtain ⟨bg, og, rfl⟩ := hneg (by intro e; have := congrArg List.length e; simp [hn] at this)
  have hrg := hg.row (k := i) (by simp; omega)
  rw [show (List.range P.guests.length).getD i default = i by rw [List.getD_eq_getElem?_getD, List.getElem?_range (by omega)]; rfl] at hrg
  obtain ⟨qv, lv, ev, _⟩ := (hvm i (by omega)).1.opened
  obtain ⟨qm, lm, em, _⟩ := (hvm i (by omega)).2.opened
  rw [ev, em] at hrg
  have h2 : w.rangeAt X 2 [vv] := rangeAt_sub (k := 2) (n := 1) h.x rfl
  have h2' := rangeAt_cell0 h2
  have hop := h.h.vs.rows.opened
  rw [show (List.replicate 4 vm0).length = 4 from rfl] at hop
  obtain ⟨q, cap, rfl, hne, _⟩ := hop
  obtain ⟨b, o, rfl⟩ := hne (by simp)
  have hr := h.h.vs.rows.row (k := i) (by simpa using hi)
  rw [show (List.replicate 4 vm0).getD i default = vm0 by rw [List.getD_eq_getElem?_getD, List.getElem?_replicate, if_pos hi]; rfl] at hr
  refine enter Tryz.func42 ?_
  refine run ?_
  intro Y1 Y2 Y3
  refine drawEC 17 15 [0, 1, 2, 3, 4, 5, 6, 7, 8, 9, 10, 11, 12] [13, 14] [15, 16] [⟨Y3, #[pv, .slice (some ⟨bg, og, none⟩) 4 capg, ov], 38⟩, ⟨Y2, #[.int .i64 (i : Int)], 3⟩, ⟨Y1, #[.pointer (some ⟨X, 0, none⟩)], 87⟩] ?_
  refine runZ ?_
  refine eAlloc ?_
  refine eAlloc ?_
  refine eNil ?_
  rintro _ _ ⟨G, rfl, rfl⟩
  rintro _ _ ⟨V, rfl, rfl⟩
  simp only [DN, List.cons_append, List.nil_append, List.append_nil]
  refine cStore (b := V) (tb := 111) (cs := #[.bool false, .bool false, .int .i64 0, .slice none 0 0, .slice none 0 0, .slice none 0 0]) (cs' := (vmV vm0).toArray) (hp' := ⟨G, #[.bool false, .bool false, .int .i64 0, .slice none 0 0, .slice none 0 0], 129⟩ :: [⟨Y3, #[pv, .slice (some ⟨bg, og, none⟩) 4 capg, ov], 38⟩, ⟨Y2, #[.int .i64 (i : Int)], 3⟩, ⟨Y1, #[.pointer (some ⟨X, 0, none⟩)], 87⟩]) ?_ clcntP
  refine cStore (b := G) (tb := 129) (cs := #[.bool false, .bool false, .int .i64 0, .slice none 0 0, .slice none 0 0]) (cs' := #[.bool (P.gs i).live, .bool (P.gs i).dying, .int .i64 (P.gs i).first, .slice qv _ lv, .slice qm _ lm]) (hp' := ⟨V, (vmV vm0).toArray, 111⟩ :: [⟨Y3, #[pv, .slice (some ⟨bg, og, none⟩) 4 capg, ov], 38⟩, ⟨Y2, #[.int .i64 (i : Int)], 3⟩, ⟨Y1, #[.pointer (some ⟨X, 0, none⟩)], 87⟩]) ?_ clcntP
  refine dc_nil ?_
  refine opsC ?_
  refine run ?_
  refine st_cond _ rfl (fun hc => ?_) (fun hc => absurd hc (by decide))
  refine run ?_
  exact fin1 rfl
theorem idxInval_e (F : Value) (w : World) : Fn Tryz.prog 258 [.slice none 0 0, F].toArray w [] (fun u _ => u = .int .i64 (-1)) := by
  refine enter Tryz.func258 ?_
  refine run ?_
  refine loopS (σ := Unit) (fun _ => [(8, .int .i64 0)]) (fun _ => []) (fun _ => True) (fun _ => 0) () trivial ?_
  rintro _ m hm _
  refine run ?_
  refine st_cond _ rfl (fun hc => absurd hc (by decide)) (fun hc => ?_)
  refine run ?_
  exact fin1 rfl
theorem hasInval_e (F : Value) (w : World) : Fn Tryz.prog 176 [.slice none 0 0, F].toArray w [] (fun u _ => u = .bool false) := by
  refine enter Tryz.func176 ?_
  refine run ?_
  refine callE (fun wc hG => idxInval_e F wc) ?_
  refine run ?_
  exact fin1 rfl
theorem tCheck0_e (w : World) : Fn Tryz.prog 90 [.agg #[.slice none 0 0, .slice none 0 0]].toArray w [] (fun r _ => r = .int .i64 0) := by
  refine enter Tryz.func90 ?_
  refine run ?_
  intro T
  refine runG ?_
  refine st_cond _ rfl (fun hc => absurd hc (by decide)) (fun hc => ?_)
  refine run ?_
  refine loopS (σ := Unit) (fun _ => [(18, .int .i64 0)]) (fun _ => [⟨T, #[.slice none 0 0, .slice none 0 0], 82⟩]) (fun _ => True) (fun _ => 0) () trivial ?_
  rintro _ m hm _
  refine run ?_
  refine st_cond _ rfl (fun hc => absurd hc (by decide)) (fun hc => ?_)
  refine run ?_
  refine callE (fun wc hG => hasInval_e _ wc) ?_
  refine run ?_
  refine st_cond _ rfl (fun hc => absurd hc (by decide)) (fun hc => ?_)
  refine run ?_
  exact fin1 rfl
theorem sound_e (w : World) (X : Nat) : Fn Tryz.prog 43 [.pointer (some ⟨X, 0, none⟩), .agg #[.slice none 0 0, .slice none 0 0]].toArray w [] (fun u _ => u = .bool true) := by
  refine enter Tryz.func43 ?_
  refine run ?_
  intro Y1 Y2
  refine run ?_
  refine callE (fun wc hG => tCheck0_e wc) ?_
  refine runG ?_
  refine opsGT ?_ rfl
  refine callE (fun wc hG => hasEntry_e _ wc) ?_
  refine runG ?_
  exact fin1 rfl
end Go.Proofs.YtiaelhhmlbfkmaaGreat
