/- Layer 18 (part): what the program asks of a partition. -/
import Derived.Test.YtdfkcjjbflcafaaGreatPartB
namespace Go.Proofs.YtdfkcjjbflcafaaGreat
open Go.RowKit
set_option linter.unusedVariables false
set_option linter.unusedSimpArgs false
set_option maxRecDepth 20000
attribute [local irreducible] Hy St Ops DH DHF
section
variable {w : World} {bp : Nat} {L : PtL} {P : PtD}
theorem owns1_e (x : PgD) (who : Int) (B : Nat) (w : World) (hB : w.cell? ⟨B, 0, none⟩ = some (.int .i64 who)) : Fn Tryz.prog 107 [.agg #[.int .i64 x.own, .int .i64 x.wit], .pointer (some ⟨B, 0, none⟩)].toArray w [] (fun u _ => u = .bool (decide (x.own = who))) := by
  refine enter Tryz.func107 ?_
  refine run ?_
  intro b
  exact fin1 rfl
theorem PartV.pages_at (h : PartV w L P) (hp : 0 < P.pages.length) (hle : P.pages.length ≤ 281474976710656) : SlAt w (L.pv P.pages.length) 2 (P.pages.map pgV) := by
  refine ⟨⟨_, L.pc, by rw [List.length_map], fun _ => ⟨L.pb, L.po, rfl, fun i c hc => ?_⟩⟩, by rw [List.length_map]; exact hle⟩
  rw [List.getElem?_map] at hc
  cases hx : P.pages[i]? with
  | none => rw [hx] at hc; cases hc
  | some x =>
    rw [hx] at hc
    simp only [Option.map_some, Option.some.injEq] at hc
    have hi : i < P.pages.length := (List.getElem?_eq_some_iff.1 hx).1
    have := h.pg i hi
    rw [show P.pg i = x by unfold PtD.pg; rw [List.getD_eq_getElem?_getD, hx]; rfl] at this
    rw [← hc]; exact this
theorem owns_e (h : PartQ w bp L P) (who : Int) : Fn Tryz.prog 87 [.pointer (some ⟨bp, 0, none⟩), .int .i64 who].toArray w [] (fun u _ => u = .bool (P.owns who)) := by
  have hp := h.cp
  have h0 := h.n.p0
  have h1 := h.n.p1
  refine enter Tryz.func87 ?_
  refine run ?_
  intro B
  refine callE (fun wc hG => containsPage_e (us := [.pointer (some ⟨B, 0, none⟩)]) (fun x => decide (x.own = who)) P.pages _ ((h.v.good hG).pages_at (by omega) (by omega)) (fun x w' ha => owns1_e x who B w' ?_)) ?_
  · obtain ⟨hp, hg⟩ := ha
    exact hg.cell (by rw [cell_of_block (hG.here _ mh)]; rfl) (by simp)
  refine run ?_
  exact fin1 rfl
theorem lives_e (h : PartQ w bp L P) (n : Int) : Fn Tryz.prog 101 [.pointer (some ⟨bp, 0, none⟩), .int .i64 n].toArray w [] (fun u _ => u = .bool (P.lives n)) := by
  have h4 := h.n.g4
  refine enter Tryz.func101 ?_
  refine run ?_
  refine callE (fun wc hG => between_e _ _ _ wc) ?_
  cases hb : PtD.btw n 1 4
  · refine runG ?_
    refine fin1 ?_
    simp [PtD.lives, hb]
  · have hb' := hb
    simp only [PtD.btw, Bool.and_eq_true, decide_eq_true_eq] at hb'
    have hg0 := h.v.gs0 (i := (n - 1).toNat) (by omega)
    refine runG ?_
    refine callEG (fun hg wc hG => guest_e (h.good hG) (n - 1).toNat (by omega) n (by omega)) ?_
    refine runG ?_
    refine fin1 ?_
    simp [PtD.lives, hb]
theorem tables_e (b o : Nat) (f : Int) (hf : -9223372036854775000 ≤ f) (hf' : f ≤ 9223372036854775000) (w : World) (hc : w.cell? ⟨b, o + 2, none⟩ = some (.int .i64 f)) : Fn Tryz.prog 75 [.pointer (some ⟨b, o, none⟩)].toArray w [] (fun u hp => Acc 3 1 u hp ([f, f + 1, f + 2, f + 3, f + 4].map inV)) := by
  refine enter Tryz.func75 ?_
  refine run ?_
  refine loopS (σ := Nat × Value × Hp) (fun s => [(3, s.2.1), (5, .int .i64 (s.1 : Int))]) (fun s => s.2.2) (fun s => s.1 ≤ 5 ∧ Acc 3 1 s.2.1 s.2.2 ((List.range s.1).map fun (i : Nat) => inV (f + (i : Int)))) (fun s => 5 - s.1) (0, _, []) ⟨by omega, Acc.nil _ _⟩ ?_
  rintro ⟨k, v, ha⟩ m hm ⟨hk, hA⟩
  dsimp only at hm hk hA ⊢
  refine run ?_
  refine st_cond _ rfl (fun hc => ?_) (fun hc => ?_)
  · have hlt : k < 5 := by simp at hc; omega
    refine run ?_
    intro T
    refine appendA (c := inV (f + (k : Int))) hA (fun v' ha' hA' => ?_) (by simp; omega) (news_own (m := 1) mh rfl)
    refine run ?_
    refine nextS (k + 1, v', ha') ⟨by omega, ?_⟩
    rw [List.range_succ, List.map_append]
    exact hA'
  · have : k = 5 := by simp at hc; omega
    subst this
    refine run ?_
    refine fin1 ?_
    simpa [List.range_succ] using hA
theorem paged_e (h : PartQ w bp L P) (f : Nat) (hf : f < P.pages.length) (ts : List Int) (tv : Value) (ht : SlAt w tv 1 (ts.map inV)) : Fn Tryz.prog 77 [.pointer (some ⟨bp, 0, none⟩), .int .i64 f, tv].toArray w [] (fun u _ => u = .bool (P.paged ts f)) := by
  have hp := h.cp
  have hr := h.v.pg f hf
  have hcast : decide (f < 16) = decide ((f : Int) < 16) := by rw [decide_eq_decide]; omega
  refine enter Tryz.func77 ?_
  refine runG ?_
  intro b1
  refine st_cond _ rfl (fun hc => ?_) (fun hc => ?_)
  · refine run ?_
    refine drawN 12 ?_
    refine runDG ?_
    refine callD (fun wc hG => ours_e wc) ?_
    refine runDG ?_
    refine callDGG (fun h0 h1 wc hG => containsInt_e (f : Int) ts tv (ht.good hG)) ?_
    refine runDG ?_
    refine runG ?_
    refine fin1 ?_
    simp [PtD.paged, hcast, hc, eqLeaves, eqLeaf]
  · refine run ?_
    refine st_cond _ rfl (fun hc2 => ?_) (fun hc2 => ?_)
    · refine runG ?_
      refine callEG (fun h1 wc hG => lives_e (h.good hG) (P.pg f).wit) ?_
      refine runG ?_
      refine fin1 ?_
      simp only [decide_eq_true_eq] at hc2
      rw [PtD.paged, hcast, hc]
      simp [hc2]
    · simp only [decide_eq_false_iff_not] at hc2
      refine runG ?_
      refine callE (fun wc hG => between_e _ _ _ wc) ?_
      refine runG ?_
      refine st_cond _ rfl (fun hc3 => ?_) (fun hc3 => ?_)
      · refine runG ?_
        refine callEGG (fun h0 h1 wc hG => lives_e (h.good hG) (P.pg f).own) ?_
        refine runG ?_
        refine fin1 ?_
        simp [PtD.paged, hcast, hc, hc2, hc3]
      · refine runG ?_
        refine fin1 ?_
        simp [PtD.paged, hcast, hc, hc2, hc3]
theorem seated_e (h : PartQ w bp L P) (c : Nat) (hc : c < P.on.length) : Fn Tryz.prog 78 [.pointer (some ⟨bp, 0, none⟩), .int .i64 c].toArray w [] (fun u _ => u = .bool (P.seated c)) := by
  have hp := h.co
  have hr := h.v.st c hc
  refine enter Tryz.func78 ?_
  refine runG ?_
  intro b1
  refine st_cond _ rfl (fun hc0 => ?_) (fun hc0 => ?_)
  · refine run ?_
    refine fin1 ?_
    rw [PtD.seated, hc0]; rfl
  refine run ?_
  refine drawN 33 ?_
  refine runDG ?_
  refine callD (fun wc hG => lives_e (h.good hG) _) ?_
  cases hl : P.lives (P.st c).vm
  · refine runDG ?_
    refine runG ?_
    refine fin1 ?_
    simp [PtD.seated, hc0, hl]
  have hl' := hl
  simp only [PtD.lives, PtD.btw, Bool.and_eq_true, decide_eq_true_eq] at hl'
  obtain ⟨i, hi⟩ : ∃ i, i = ((P.st c).vm - 1).toNat := ⟨_, rfl⟩
  have hi4 : i < P.guests.length := by have := h.n.g4; omega
  have hvm : (P.st c).vm = (i : Int) + 1 := by omega
  obtain ⟨q, cap, hvv, hne, hle⟩ := (h.v.vc i hi4).opened
  have hg3 := h.v.gs3 hi4
  rw [hvv] at hg3
  refine runDG ?_
  refine callDG (fun h1 wc hG => guest_e (h.good hG) i hi4 _ hvm) ?_
  refine runDG ?_
  refine callDG (fun h1 wc hG => between_e _ _ _ wc) ?_
  cases hb : PtD.btw (P.st c).cpu 0 ((P.gs i).vcpus.length - 1)
  · refine runDG ?_
    refine runG ?_
    refine fin1 ?_
    simp [PtD.seated, hc0, hl, ← hi, hb]
  have hb' := hb
  simp only [PtD.btw, Bool.and_eq_true, decide_eq_true_eq] at hb'
  obtain ⟨b, o, rfl⟩ := hne (by intro e; rw [e] at hb'; simp at hb'; omega)
  have hv := h.v.vc i hi4
  rw [hvv] at hv
  have hx := rangeAt_cell0 (hv.row (k := (P.st c).cpu.toNat) (by omega))
  rw [Nat.mul_one] at hx
  refine runDG ?_
  refine callDG (fun h1 wc hG => guest_e (h.good hG) i hi4 _ hvm) ?_
  refine runDG ?_
  refine runG ?_
  refine fin1 ?_
  simp [PtD.seated, hc0, hl, ← hi, hb]
theorem made_one {α : Type} (f : α → Value) (x : α) (n : Nat) : madeCells #[f x] (n * 1) = ((List.replicate n x).map f).toArray := by
  apply Array.ext
  · simp [madeCells]
  · intro i h1 h2
    simp [madeCells, Nat.mod_one]
theorem hprev_of {w : World} {l : List MpD} {b o cap : Nat} (h : SlAt w (.slice (some ⟨b, o, none⟩) l.length cap) 2 (l.map mpV)) {k : Nat} (hk : k < l.length) (h0 : 0 < k) : w.cell? ⟨b, o + ((k : Int) - 1).toNat * 2, none⟩ = some (.int .i64 (l.getD (k - 1) default).mid) := by
  rw [show ((k : Int) - 1).toNat = k - 1 by omega]
  exact rangeAt_cell0 (h.row (k := k - 1) (by omega))
theorem mapped_e (h : PartQ w bp L P) (i : Nat) (hi : i < P.guests.length) (n : Int) (hn : n = (i : Int) + 1) : Fn Tryz.prog 99 [.pointer (some ⟨bp, 0, none⟩), .int .i64 n].toArray w [] (fun u _ => u = .bool (P.mapped i)) := by
  have hp := h.cp
  have hp1 := h.n.p1
  obtain ⟨q, cap, hmv, hne, hle⟩ := (h.v.mp i hi).opened
  have hg4 := h.v.gs4 hi
  rw [hmv] at hg4
  have hrow := h.v.mp i hi
  rw [hmv] at hrow
  refine enter Tryz.func99 ?_
  refine run ?_
  refine callE (fun wc hG => guest_e (h.good hG) i hi n hn) ?_
  refine run ?_
  refine make (m := P.pages.length) (fun b => ?_) (by omega)
  rw [show madeCells (Value.cells (.bool false)) (P.pages.length * 1) = ((List.replicate P.pages.length false).map Value.bool).toArray from made_one _ _ _]
  refine run ?_
  refine loopS (σ := Nat × List Bool) (fun s => [(26, .int .i64 (s.1 : Int))]) (fun s => [⟨b, (s.2.map Value.bool).toArray, 4⟩]) (fun s => s.1 ≤ (P.gs i).maps.length ∧ s.2.length = P.pages.length ∧ (∀ j, j < s.1 → PtD.mapAt (P.gs i).maps P.pages.length j = true) ∧ ∀ f, f < P.pages.length → s.2.getD f false = ((P.gs i).maps.take s.1).any fun x => decide (x.frm = (f : Int))) (fun s => (P.gs i).maps.length - s.1) (0, List.replicate P.pages.length false) ⟨by simp, by simp, fun j hj => absurd hj (by simp), fun f hf => by simp [hf]⟩ ?_
  rintro ⟨k, bs⟩ m hm ⟨hk, hbs, hall, hseen⟩
  dsimp only at hm hk hbs hall hseen ⊢
  refine run ?_
  refine st_cond _ rfl (fun hc => ?_) (fun hc => ?_)
  · have hlt : k < (P.gs i).maps.length := by simp at hc; omega
    obtain ⟨b2, o2, rfl⟩ := hne (by intro e; rw [e] at hlt; simp at hlt)
    have hr := hrow.row hlt
    simp only [mpV] at hr
    have hno : PtD.mapAt (P.gs i).maps P.pages.length k = false → P.mapped i = false := fun h => by
      unfold PtD.mapped
      rw [show allB (P.gs i).maps.length (PtD.mapAt (P.gs i).maps P.pages.length) = false by
        rw [← Bool.not_eq_true, allB_iff]; intro ha; rw [ha k hlt] at h; cases h]
      rfl
    have hmd : PtD.mapAt (P.gs i).maps P.pages.length k = (PtD.btw ((P.gs i).maps.getD k default).mid 0 15 && (decide (k = 0) || decide (((P.gs i).maps.getD (k - 1) default).mid < ((P.gs i).maps.getD k default).mid)) && PtD.btw ((P.gs i).maps.getD k default).frm 0 ((P.pages.length : Int) - 1) && !(((P.gs i).maps.take k).any fun x => decide (x.frm = ((P.gs i).maps.getD k default).frm))) := rfl
    generalize hxd : (P.gs i).maps.getD k default = x at hr hmd
    have hxk : x = (P.gs i).maps[k] := by rw [← hxd, List.getD_eq_getElem?_getD, List.getElem?_eq_getElem hlt]; rfl
    clear hxd
    refine run ?_
    intro X
    refine drawAll ?_
    refine runDG ?_
    refine callD (fun wc hG => between_e _ _ _ wc) ?_
    cases hb1 : PtD.btw x.mid 0 15
    · refine runDG ?_
      refine runG ?_
      refine st_cond _ rfl (fun hc => ?_) (fun hc => absurd hc (by simp))
      refine run ?_
      refine fin1 ?_
      rw [hno (by rw [hmd, hb1]; rfl)]
    rw [hb1] at hmd
    have hload : PtD.btw x.frm 0 ((P.pages.length : Int) - 1) = true → nth (List.map Value.bool bs).toArray.toList x.frm.toNat = some (.bool (((P.gs i).maps.take k).any fun y => decide (y.frm = x.frm))) := fun hb => by
      simp only [PtD.btw, Bool.and_eq_true, decide_eq_true_eq] at hb
      have := hseen x.frm.toNat (by omega)
      rw [show ((x.frm.toNat : Nat) : Int) = x.frm by omega] at this
      rw [← this, nth_eq]
      have hl : x.frm.toNat < bs.length := by omega
      simp [List.getElem?_eq_getElem hl]
    have hjA : PtD.mapAt (P.gs i).maps P.pages.length k = true → ∀ j, j < k + 1 → PtD.mapAt (P.gs i).maps P.pages.length j = true := fun h j hj => by
      rcases Nat.lt_succ_iff_lt_or_eq.1 hj with hj | rfl
      · exact hall j hj
      · exact h
    have hjB : 0 ≤ x.frm → ∀ f, f < P.pages.length → (bs.set x.frm.toNat true).getD f false = ((P.gs i).maps.take (k + 1)).any fun y => decide (y.frm = (f : Int)) := fun h0 f hf => by
      rw [List.take_succ_eq_append_getElem hlt, List.any_append, ← hseen f hf, List.getD_eq_getElem?_getD, List.getElem?_set, ← hxk]
      by_cases e : x.frm.toNat = f
      · simp [e, show x.frm = (f : Int) by omega, hbs, hf]
      · simp [e, show ¬ x.frm = (f : Int) by omega]
    rcases Nat.eq_zero_or_pos k with hk0 | hk0
    · have hk0' : decide (0 < (k : Int)) = false := by simp; omega
      refine runDG ?_
      simp only [hk0']
      refine runDG ?_
      refine callDG (fun h1 wc hG => between_e _ _ _ wc) ?_
      cases hb2 : PtD.btw x.frm 0 ((P.pages.length : Int) - 1)
      · refine runDG ?_
        refine runG ?_
        refine st_cond _ rfl (fun hc => ?_) (fun hc => absurd hc (by simp))
        refine run ?_
        refine fin1 ?_
        rw [hno (by rw [hmd, hb2]; simp)]
      have hb2' := hb2
      simp only [PtD.btw, Bool.and_eq_true, decide_eq_true_eq] at hb2'
      have hs := hload hb2
      refine runDG ?_
      refine runG ?_
      refine st_cond _ rfl (fun hc => ?_) (fun hc => ?_)
      · refine run ?_
        refine fin1 ?_
        rw [hno (by rw [hmd]; simp at hc; simp [hc])]
      · refine run ?_
        rw [← List.map_set]
        refine nextS (k + 1, bs.set x.frm.toNat true) ⟨by omega, by simpa using hbs, hjA (by rw [hmd, hb2, show decide (k = 0) = true by simpa using hk0]; simp at hc; simpa using hc), hjB (by omega)⟩
    have hprev := hprev_of hrow hlt hk0
    have hk0' : decide (0 < (k : Int)) = true := by simp; omega
    refine runDG ?_
    simp only [hk0']
    cases hc2 : decide (x.mid ≤ ((P.gs i).maps.getD (k - 1) default).mid)
    · refine callDG (fun h1 wc hG => between_e _ _ _ wc) ?_
      cases hb2 : PtD.btw x.frm 0 ((P.pages.length : Int) - 1)
      · refine runDG ?_
        refine runG ?_
        refine st_cond _ rfl (fun hc => ?_) (fun hc => absurd hc (by simp))
        refine run ?_
        refine fin1 ?_
        rw [hno (by rw [hmd, hb2]; simp)]
      have hb2' := hb2
      simp only [PtD.btw, Bool.and_eq_true, decide_eq_true_eq] at hb2'
      have hs := hload hb2
      refine runDG ?_
      refine runG ?_
      refine st_cond _ rfl (fun hc => ?_) (fun hc => ?_)
      · refine run ?_
        refine fin1 ?_
        rw [hno (by rw [hmd]; simp at hc; simp [hc])]
      · refine run ?_
        rw [← List.map_set]
        refine nextS (k + 1, bs.set x.frm.toNat true) ⟨by omega, by simpa using hbs, hjA (by rw [hmd, hb2, show decide (((P.gs i).maps.getD (k - 1) default).mid < x.mid) = true by simp at hc2 ⊢; omega]; simp at hc; simpa using hc), hjB (by omega)⟩
    · refine runDG ?_
      refine runG ?_
      refine st_cond _ rfl (fun hc => ?_) (fun hc => absurd hc (by simp))
      refine run ?_
      refine fin1 ?_
      rw [hno (by rw [hmd, show decide (((P.gs i).maps.getD (k - 1) default).mid < x.mid) = false by simp at hc2 ⊢; omega, show decide (k = 0) = false by simp; omega]; simp)]
  · have hge : k = (P.gs i).maps.length := by simp at hc; omega
    subst hge
    rw [List.take_length] at hseen
    have hmaps : P.mapped i = allB P.pages.length fun f => (bs.getD f false) == P.uses ((i : Int) + 1) f := by
      unfold PtD.mapped
      rw [show allB (P.gs i).maps.length (PtD.mapAt (P.gs i).maps P.pages.length) = true from allB_iff.2 hall, Bool.true_and]
      rw [Bool.eq_iff_iff, allB_iff, allB_iff]
      exact ⟨fun h f hf => by rw [hseen f hf]; exact h f hf, fun h f hf => by rw [← hseen f hf]; exact h f hf⟩
    refine run ?_
    refine loopS (σ := Nat) (fun k => [(76, .int .i64 (k : Int))]) (fun _ => [⟨b, (bs.map Value.bool).toArray, 4⟩]) (fun k => k ≤ P.pages.length ∧ ∀ j, j < k → (bs.getD j false == P.uses ((i : Int) + 1) j) = true) (fun k => P.pages.length - k) 0 ⟨by omega, fun j hj => absurd hj (by omega)⟩ ?_
    rintro k m2 hm2 ⟨hk2, hall2⟩
    refine run ?_
    refine st_cond _ rfl (fun hc => ?_) (fun hc => ?_)
    · have hlt : k < P.pages.length := by simp at hc; omega
      have hs : nth (List.map Value.bool bs).toArray.toList k = some (.bool (bs.getD k false)) := by
        rw [nth_eq]
        have hl : k < bs.length := by omega
        simp [List.getElem?_eq_getElem hl]
      refine run ?_
      refine callE (fun wc hG => uses_e (h.good hG) k hlt n) ?_
      refine run ?_
      rw [hn]
      refine st_cond _ rfl (fun hc3 => ?_) (fun hc3 => ?_)
      · refine run ?_
        refine fin1 ?_
        rw [hmaps, show (allB P.pages.length fun f => (bs.getD f false) == P.uses ((i : Int) + 1) f) = false by
          rw [← Bool.not_eq_true, allB_iff]; intro ha; have := ha k hlt; rw [beq_iff_eq] at this; rw [this] at hc3; simp at hc3]
      · refine run ?_
        refine nextS (k + 1) ⟨by omega, fun j hj => ?_⟩
        rcases Nat.lt_succ_iff_lt_or_eq.1 hj with hj | rfl
        · exact hall2 j hj
        · simpa [bne] using hc3
    · have hge : k = P.pages.length := by simp at hc; omega
      subst hge
      refine run ?_
      refine fin1 ?_
      rw [hmaps, allB_iff.2 hall2]
end
end Go.Proofs.YtdfkcjjbflcafaaGreat
