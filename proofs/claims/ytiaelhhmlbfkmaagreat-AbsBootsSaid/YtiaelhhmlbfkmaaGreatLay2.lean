/- Layer 18 (part): the small functions. -/
import Derived.Test.YtiaelhhmlbfkmaaGreatEng2
import Derived.Test.YtiaelhhmlbfkmaaGreatBtA
namespace Go.Proofs.YtiaelhhmlbfkmaaGreat
open Go.RowKit
set_option linter.unusedVariables false
set_option linter.unusedSimpArgs false
set_option maxRecDepth 20000
attribute [local irreducible] Hy St Ops DH DHF
/-- A world behind another one, in which nothing has turned. -/
def Aft (w w' : World) : Prop := ∃ hp, Good w [] hp w'
section
variable {w : World} {bp : Nat} {L : PtL} {P : PtD}
theorem guest_e (h : PartQ w bp L P) (i : Nat) (hi : i < P.guests.length) (n : Int) (hn : n = (i : Int) + 1) : Fn Tryz.prog 157 [.pointer (some ⟨bp, 0, none⟩), .int .i64 n].toArray w [] (fun u _ => u = .pointer (some ⟨L.gb, L.go + i * 5, none⟩)) := by
  have hg := h.cg
  have h4 := h.n.g4
  refine enter Tryz.func157 ?_
  refine runG ?_
  refine fin1 ?_
  rw [show (n - 1).toNat = i by omega]
theorem uses_e (h : PartQ w bp L P) (f : Nat) (hf : f < P.pages.length) (who : Int) : Fn Tryz.prog 315 [.pointer (some ⟨bp, 0, none⟩), .int .i64 who, .int .i64 f].toArray w [] (fun u _ => u = .bool (P.uses who f)) := by
  have hp := h.cp
  have h0 := h.v.pg0 hf
  have h1 := h.v.pg1 hf
  refine enter Tryz.func315 ?_
  refine runG ?_
  exact fin1 rfl
end
end Go.Proofs.YtiaelhhmlbfkmaaGreat

/- Library: the search functions of slices. -/
namespace Go.Proofs.YtiaelhhmlbfkmaaGreat
open Go.RowKit
set_option linter.unusedVariables false
set_option linter.unusedSimpArgs false
set_option maxRecDepth 20000
attribute [local irreducible] Hy St Ops DH DHF

theorem indexPage_e {w : World} {F : Nat} {us : List Value} (p : PgD → Bool) (xs : List PgD) (v : Value) (h : SlAt w v 2 (xs.map pgV)) (hF : ∀ x, ∀ w', Aft w w' → Fn Tryz.prog F ([] ++ [Value.agg #[.int .i64 x.own, .int .i64 x.wit]] ++ us).toArray w' [] (fun u _ => u = .bool (p x))) (hcal : mem calN F = true := by rfl) :
    Fn Tryz.prog 328 [v, .func (.func F) [].toArray us.toArray].toArray w [] (fun u _ => u = .int .i64 (idxI p xs)) := by
  obtain ⟨q, cap, rfl, hne, hle⟩ := h.opened
  refine enter Tryz.func328 ?_
  refine run ?_
  refine loopS (σ := Nat) (fun k => [(8, .int .i64 (k : Int))]) (fun _ => []) (fun k => k ≤ xs.length ∧ ∀ j, j < k → p (xs.getD j default) = false) (fun k => xs.length - k) 0 ⟨Nat.zero_le _, fun j hj => absurd hj (by omega)⟩ ?_
  rintro k m rfl ⟨hk, hno⟩
  refine run ?_
  refine st_cond _ rfl (fun hc => ?_) (fun hc => ?_)
  · have hlt : k < xs.length := by simpa using hc
    obtain ⟨b, o, rfl⟩ := hne (by intro e; subst e; simp at hlt)
    have hr := h.row hlt
    simp only [pgV] at hr
    refine run ?_
    refine callF (fun wc hG => hF (xs.getD k default) wc ⟨_, hG⟩) (hcal := hcal) ?_
    refine run ?_
    refine st_cond _ rfl (fun hp => ?_) (fun hp => ?_)
    · refine run ?_
      refine fin1 ?_
      rw [idxI_at hlt hp hno]
    · refine run ?_
      refine nextS (k + 1) ⟨hlt, fun j hj => ?_⟩
      rcases Nat.lt_succ_iff_lt_or_eq.1 hj with hj | rfl
      · exact hno j hj
      · exact hp
  · have hge : k = xs.length := by simp at hc; omega
    subst hge
    refine run ?_
    refine fin1 ?_
    rw [idxI_none hno]
theorem containsPage_e {w : World} {F : Nat} {us : List Value} (p : PgD → Bool) (xs : List PgD) (v : Value) (h : SlAt w v 2 (xs.map pgV)) (hF : ∀ x, ∀ w', Aft w w' → Fn Tryz.prog F ([] ++ [Value.agg #[.int .i64 x.own, .int .i64 x.wit]] ++ us).toArray w' [] (fun u _ => u = .bool (p x))) (hcal : mem calN F = true := by rfl) :
    Fn Tryz.prog 276 [v, .func (.func F) [].toArray us.toArray].toArray w [] (fun u _ => u = .bool (xs.any p)) := by
  refine enter Tryz.func276 ?_
  refine run ?_
  refine callE (fun wc hG => indexPage_e p xs v (h.good hG) (fun x w' ha => hF x w' ?_) hcal) ?_
  · obtain ⟨hp, hg⟩ := ha
    exact ⟨_, hG.trans hg⟩
  refine run ?_
  refine fin1 ?_
  rw [← idxI_ge]

theorem pindexInt_e {w : World} (a : Int) (xs : List Int) (v : Value) (h : SlAt w v 1 (xs.map inV)) :
    Fn Tryz.prog 171 [v, .int .i64 a].toArray w [] (fun u _ => u = .int .i64 (idxI (fun t => decide (t = a)) xs)) := by
  obtain ⟨q, cap, rfl, hne, hle⟩ := h.opened
  refine enter Tryz.func171 ?_
  refine run ?_
  refine loopS (σ := Nat) (fun k => [(8, .int .i64 (k : Int))]) (fun _ => []) (fun k => k ≤ xs.length ∧ ∀ j, j < k → decide (xs.getD j default = a) = false) (fun k => xs.length - k) 0 ⟨Nat.zero_le _, fun j hj => absurd hj (by omega)⟩ ?_
  rintro k m rfl ⟨hk, hno⟩
  refine run ?_
  refine st_cond _ rfl (fun hc => ?_) (fun hc => ?_)
  · have hlt : k < xs.length := by simpa using hc
    obtain ⟨b, o, rfl⟩ := hne (by intro e; subst e; simp at hlt)
    have hr := rangeAt_cell0 (h.row hlt)
    have hr1 := hr
    simp only [Nat.mul_one] at hr1
    refine run ?_
    refine st_cond _ rfl (fun hp => ?_) (fun hp => ?_)
    · refine run ?_
      refine fin1 ?_
      rw [idxI_at hlt (by simpa [eq_comm] using hp) hno]
    · refine run ?_
      refine nextS (k + 1) ⟨hlt, fun j hj => ?_⟩
      rcases Nat.lt_succ_iff_lt_or_eq.1 hj with hj | rfl
      · exact hno j hj
      · simpa [eq_comm] using hp
  · have hge : k = xs.length := by simp at hc; omega
    subst hge
    refine run ?_
    refine fin1 ?_
    rw [idxI_none hno]
theorem pcontainsInt_e {w : World} (a : Int) (xs : List Int) (v : Value) (h : SlAt w v 1 (xs.map inV)) :
    Fn Tryz.prog 85 [v, .int .i64 a].toArray w [] (fun u _ => u = .bool (xs.any fun t => decide (t = a))) := by
  refine enter Tryz.func85 ?_
  refine run ?_
  refine callE (fun wc hG => pindexInt_e a xs v (h.good hG)) ?_
  refine run ?_
  refine fin1 ?_
  rw [← idxI_ge]
end Go.Proofs.YtiaelhhmlbfkmaaGreat

/- Layer 18 (part): what the program asks of a partition. -/
namespace Go.Proofs.YtiaelhhmlbfkmaaGreat
open Go.RowKit
set_option linter.unusedVariables false
set_option linter.unusedSimpArgs false
set_option maxRecDepth 20000
attribute [local irreducible] Hy St Ops DH DHF
section
variable {w : World} {bp : Nat} {L : PtL} {P : PtD}
theorem owns1_e (x : PgD) (who : Int) (B : Nat) (w : World) (hB : w.cell? ⟨B, 0, none⟩ = some (.int .i64 who)) : Fn Tryz.prog 314 [.agg #[.int .i64 x.own, .int .i64 x.wit], .pointer (some ⟨B, 0, none⟩)].toArray w [] (fun u _ => u = .bool (decide (x.own = who))) := by
  refine enter Tryz.func314 ?_
  refine run ?_
  intro b
  exact fin1 rfl
theorem PartV.pages_at (h : PartV w L P) (hp : 0 < P.pages.length) (hle : P.pages.length ≤ 281474976710656) : SlAt w (L.pv P.pages.length) 2 (P.pages.map pgV) := by
  refine ⟨⟨_, L.pc, by rw [List.length_map], fun _ => ⟨L.pb, L.po, rfl, fun i c hc => ?_⟩⟩, by rw [List.length_map]; exact hle⟩
  rw [List.getElem?_map] at hc
  cases hx : P.pages[i]? with
  | none => rw [hx] at hc; cases hc
  | some x =>
    rw [hx] at hc
    simp only [Option.map_some, Option.some.injEq] at hc
    have hi : i < P.pages.length := (List.getElem?_eq_some_iff.1 hx).1
    have := h.pg i hi
    rw [show P.pg i = x by unfold PtD.pg; rw [List.getD_eq_getElem?_getD, hx]; rfl] at this
    rw [← hc]; exact this
theorem owns_e (h : PartQ w bp L P) (who : Int) : Fn Tryz.prog 244 [.pointer (some ⟨bp, 0, none⟩), .int .i64 who].toArray w [] (fun u _ => u = .bool (P.owns who)) := by
  have hp := h.cp
  have h0 := h.n.p0
  have h1 := h.n.p1
  refine enter Tryz.func244 ?_
  refine run ?_
  intro B
  refine callE (fun wc hG => containsPage_e (us := [.pointer (some ⟨B, 0, none⟩)]) (fun x => decide (x.own = who)) P.pages _ ((h.v.good hG).pages_at (by omega) (by omega)) (fun x w' ha => owns1_e x who B w' ?_)) ?_
  · obtain ⟨hp, hg⟩ := ha
    exact hg.cell (by rw [cell_of_block (hG.here _ mh)]; rfl) (by simp)
  refine run ?_
  exact fin1 rfl
theorem lives_e (h : PartQ w bp L P) (n : Int) : Fn Tryz.prog 247 [.pointer (some ⟨bp, 0, none⟩), .int .i64 n].toArray w [] (fun u _ => u = .bool (P.lives n)) := by
  have h4 := h.n.g4
  refine enter Tryz.func247 ?_
  refine run ?_
  refine callE (fun wc hG => between_e _ _ _ wc) ?_
  cases hb : PtD.btw n 1 4
  · refine runG ?_
    refine fin1 ?_
    simp [PtD.lives, hb]
  · have hb' := hb
    simp only [PtD.btw, Bool.and_eq_true, decide_eq_true_eq] at hb'
    have hg0 := h.v.gs0 (i := (n - 1).toNat) (by omega)
    refine runG ?_
    refine callEG (fun hg wc hG => guest_e (h.good hG) (n - 1).toNat (by omega) n (by omega)) ?_
    refine runG ?_
    refine fin1 ?_
    simp [PtD.lives, hb]
theorem tables_e (b o : Nat) (f : Int) (hf : -9223372036854775000 ≤ f) (hf' : f ≤ 9223372036854775000) (w : World) (hc : w.cell? ⟨b, o + 2, none⟩ = some (.int .i64 f)) : Fn Tryz.prog 158 [.pointer (some ⟨b, o, none⟩)].toArray w [] (fun u hp => Acc 3 1 u hp ([f, f + 1, f + 2, f + 3, f + 4].map inV)) := by
  refine enter Tryz.func158 ?_
  refine run ?_
  refine loopS (σ := Nat × Value × Hp) (fun s => [(3, s.2.1), (5, .int .i64 (s.1 : Int))]) (fun s => s.2.2) (fun s => s.1 ≤ 5 ∧ Acc 3 1 s.2.1 s.2.2 ((List.range s.1).map fun (i : Nat) => inV (f + (i : Int)))) (fun s => 5 - s.1) (0, _, []) ⟨by omega, Acc.nil _ _⟩ ?_
  rintro ⟨k, v, ha⟩ m hm ⟨hk, hA⟩
  dsimp only at hm hk hA ⊢
  refine run ?_
  refine st_cond _ rfl (fun hc => ?_) (fun hc => ?_)
  · have hlt : k < 5 := by simp at hc; omega
    refine run ?_
    intro T
    refine appendA (c := inV (f + (k : Int))) hA (fun v' ha' hA' => ?_) (by simp; omega) (news_own (m := 1) mh rfl)
    refine run ?_
    refine nextS (k + 1, v', ha') ⟨by omega, ?_⟩
    rw [List.range_succ, List.map_append]
    exact hA'
  · have : k = 5 := by simp at hc; omega
    subst this
    refine run ?_
    refine fin1 ?_
    simpa [List.range_succ] using hA
theorem paged_e (h : PartQ w bp L P) (f : Nat) (hf : f < P.pages.length) (ts : List Int) (tv : Value) (ht : SlAt w tv 1 (ts.map inV)) : Fn Tryz.prog 159 [.pointer (some ⟨bp, 0, none⟩), .int .i64 f, tv].toArray w [] (fun u _ => u = .bool (P.paged ts f)) := by
  have hp := h.cp
  have hr := h.v.pg f hf
  have hcast : decide (f < 16) = decide ((f : Int) < 16) := by rw [decide_eq_decide]; omega
  refine enter Tryz.func159 ?_
  refine runG ?_
  intro b1
  refine st_cond _ rfl (fun hc => ?_) (fun hc => ?_)
  · refine run ?_
    refine drawN 12 ?_
    refine runDG ?_
    refine callD (fun wc hG => ours_e wc) ?_
    refine runDG ?_
    refine callDGG (fun h0 h1 wc hG => pcontainsInt_e (f : Int) ts tv (ht.good hG)) ?_
    refine runDG ?_
    refine runG ?_
    refine fin1 ?_
    simp [PtD.paged, hcast, hc, eqLeaves, eqLeaf]
  · refine run ?_
    refine st_cond _ rfl (fun hc2 => ?_) (fun hc2 => ?_)
    · refine runG ?_
      refine callEG (fun h1 wc hG => lives_e (h.good hG) (P.pg f).wit) ?_
      refine runG ?_
      refine fin1 ?_
      simp only [decide_eq_true_eq] at hc2
      rw [PtD.paged, hcast, hc]
      simp [hc2]
    · simp only [decide_eq_false_iff_not] at hc2
      refine runG ?_
      refine callE (fun wc hG => between_e _ _ _ wc) ?_
      refine runG ?_
      refine st_cond _ rfl (fun hc3 => ?_) (fun hc3 => ?_)
      · refine runG ?_
        refine callEGG (fun h0 h1 wc hG => lives_e (h.good hG) (P.pg f).own) ?_
        refine runG ?_
        refine fin1 ?_
        simp [PtD.paged, hcast, hc, hc2, hc3]
      · refine runG ?_
        refine fin1 ?_
        simp [PtD.paged, hcast, hc, hc2, hc3]
theorem seated_e (h : PartQ w bp L P) (c : Nat) (hc : c < P.on.length) : Fn Tryz.prog 160 [.pointer (some ⟨bp, 0, none⟩), .int .i64 c].toArray w [] (fun u _ => u = .bool (P.seated c)) := by
  have hp := h.co
  have hr := h.v.st c hc
  refine enter Tryz.func160 ?_
  refine runG ?_
  intro b1
  refine st_cond _ rfl (fun hc0 => ?_) (fun hc0 => ?_)
  · refine run ?_
    refine fin1 ?_
    rw [PtD.seated, hc0]; rfl
  refine run ?_
  refine drawN 33 ?_
  refine runDG ?_
  refine callD (fun wc hG => lives_e (h.good hG) _) ?_
  cases hl : P.lives (P.st c).vm
  · refine runDG ?_
    refine runG ?_
    refine fin1 ?_
    simp [PtD.seated, hc0, hl]
  have hl' := hl
  simp only [PtD.lives, PtD.btw, Bool.and_eq_true, decide_eq_true_eq] at hl'
  obtain ⟨i, hi⟩ : ∃ i, i = ((P.st c).vm - 1).toNat := ⟨_, rfl⟩
  have hi4 : i < P.guests.length := by have := h.n.g4; omega
  have hvm : (P.st c).vm = (i : Int) + 1 := by omega
  obtain ⟨q, cap, hvv, hne, hle⟩ := (h.v.vc i hi4).opened
  have hg3 := h.v.gs3 hi4
  rw [hvv] at hg3
  refine runDG ?_
  refine callDG (fun h1 wc hG => guest_e (h.good hG) i hi4 _ hvm) ?_
  refine runDG ?_
  refine callDG (fun h1 wc hG => between_e _ _ _ wc) ?_
  cases hb : PtD.btw (P.st c).cpu 0 ((P.gs i).vcpus.length - 1)
  · refine runDG ?_
    refine runG ?_
    refine fin1 ?_
    simp [PtD.seated, hc0, hl, ← hi, hb]
  have hb' := hb
  simp only [PtD.btw, Bool.and_eq_true, decide_eq_true_eq] at hb'
  obtain ⟨b, o, rfl⟩ := hne (by intro e; rw [e] at hb'; simp at hb'; omega)
  have hv := h.v.vc i hi4
  rw [hvv] at hv
  have hx := rangeAt_cell0 (hv.row (k := (P.st c).cpu.toNat) (by omega))
  rw [Nat.mul_one] at hx
  refine runDG ?_
  refine callDG (fun h1 wc hG => guest_e (h.good hG) i hi4 _ hvm) ?_
  refine runDG ?_
  refine runG ?_
  refine fin1 ?_
  simp [PtD.seated, hc0, hl, ← hi, hb]
theorem made_one {α : Type} (f : α → Value) (x : α) (n : Nat) : madeCells #[f x] (n * 1) = ((List.replicate n x).map f).toArray := by
  apply Array.ext
  · simp [madeCells]
  · intro i h1 h2
    simp [madeCells, Nat.mod_one]
theorem hprev_of {w : World} {l : List MpD} {b o cap : Nat} (h : SlAt w (.slice (some ⟨b, o, none⟩) l.length cap) 2 (l.map mpV)) {k : Nat} (hk : k < l.length) (h0 : 0 < k) : w.cell? ⟨b, o + ((k : Int) - 1).toNat * 2, none⟩ = some (.int .i64 (l.getD (k - 1) default).mid) := by
  rw [show ((k : Int) - 1).toNat = k - 1 by omega]
  exact rangeAt_cell0 (h.row (k := k - 1) (by omega))
theorem mapped_e (h : PartQ w bp L P) (i : Nat) (hi : i < P.guests.length) (n : Int) (hn : n = (i : Int) + 1) : Fn Tryz.prog 245 [.pointer (some ⟨bp, 0, none⟩), .int .i64 n].toArray w [] (fun u _ => u = .bool (P.mapped i)) := by
  have hp := h.cp
  have hp1 := h.n.p1
  obtain ⟨q, cap, hmv, hne, hle⟩ := (h.v.mp i hi).opened
  have hg4 := h.v.gs4 hi
  rw [hmv] at hg4
  have hrow := h.v.mp i hi
  rw [hmv] at hrow
  refine enter Tryz.func245 ?_
  refine run ?_
  refine callE (fun wc hG => guest_e (h.good hG) i hi n hn) ?_
  refine run ?_
  refine make (m := P.pages.length) (fun b => ?_) (by omega)
  rw [show madeCells (Value.cells (.bool false)) (P.pages.length * 1) = ((List.replicate P.pages.length false).map Value.bool).toArray from made_one _ _ _]
  refine run ?_
  refine loopS (σ := Nat × List Bool) (fun s => [(26, .int .i64 (s.1 : Int))]) (fun s => [⟨b, (s.2.map Value.bool).toArray, 4⟩]) (fun s => s.1 ≤ (P.gs i).maps.length ∧ s.2.length = P.pages.length ∧ (∀ j, j < s.1 → PtD.mapAt (P.gs i).maps P.pages.length j = true) ∧ ∀ f, f < P.pages.length → s.2.getD f false = ((P.gs i).maps.take s.1).any fun x => decide (x.frm = (f : Int))) (fun s => (P.gs i).maps.length - s.1) (0, List.replicate P.pages.length false) ⟨by simp, by simp, fun j hj => absurd hj (by simp), fun f hf => by simp [hf]⟩ ?_
  rintro ⟨k, bs⟩ m hm ⟨hk, hbs, hall, hseen⟩
  dsimp only at hm hk hbs hall hseen ⊢
  refine run ?_
  refine st_cond _ rfl (fun hc => ?_) (fun hc => ?_)
  · have hlt : k < (P.gs i).maps.length := by simp at hc; omega
    obtain ⟨b2, o2, rfl⟩ := hne (by intro e; rw [e] at hlt; simp at hlt)
    have hr := hrow.row hlt
    simp only [mpV] at hr
    have hno : PtD.mapAt (P.gs i).maps P.pages.length k = false → P.mapped i = false := fun h => by
      unfold PtD.mapped
      rw [show allB (P.gs i).maps.length (PtD.mapAt (P.gs i).maps P.pages.length) = false by
        rw [← Bool.not_eq_true, allB_iff]; intro ha; rw [ha k hlt] at h; cases h]
      rfl
    have hmd : PtD.mapAt (P.gs i).maps P.pages.length k = (PtD.btw ((P.gs i).maps.getD k default).mid 0 15 && (decide (k = 0) || decide (((P.gs i).maps.getD (k - 1) default).mid < ((P.gs i).maps.getD k default).mid)) && PtD.btw ((P.gs i).maps.getD k default).frm 0 ((P.pages.length : Int) - 1) && !(((P.gs i).maps.take k).any fun x => decide (x.frm = ((P.gs i).maps.getD k default).frm))) := rfl
    generalize hxd : (P.gs i).maps.getD k default = x at hr hmd
    have hxk : x = (P.gs i).maps[k] := by rw [← hxd, List.getD_eq_getElem?_getD, List.getElem?_eq_getElem hlt]; rfl
    clear hxd
    refine run ?_
    intro X
    refine drawAll ?_
    refine runDG ?_
    refine callD (fun wc hG => between_e _ _ _ wc) ?_
    cases hb1 : PtD.btw x.mid 0 15
    · refine runDG ?_
      refine runG ?_
      refine st_cond _ rfl (fun hc => ?_) (fun hc => absurd hc (by simp))
      refine run ?_
      refine fin1 ?_
      rw [hno (by rw [hmd, hb1]; rfl)]
    rw [hb1] at hmd
    have hload : PtD.btw x.frm 0 ((P.pages.length : Int) - 1) = true → nth (List.map Value.bool bs).toArray.toList x.frm.toNat = some (.bool (((P.gs i).maps.take k).any fun y => decide (y.frm = x.frm))) := fun hb => by
      simp only [PtD.btw, Bool.and_eq_true, decide_eq_true_eq] at hb
      have := hseen x.frm.toNat (by omega)
      rw [show ((x.frm.toNat : Nat) : Int) = x.frm by omega] at this
      rw [← this, nth_eq]
      have hl : x.frm.toNat < bs.length := by omega
      simp [List.getElem?_eq_getElem hl]
    have hjA : PtD.mapAt (P.gs i).maps P.pages.length k = true → ∀ j, j < k + 1 → PtD.mapAt (P.gs i).maps P.pages.length j = true := fun h j hj => by
      rcases Nat.lt_succ_iff_lt_or_eq.1 hj with hj | rfl
      · exact hall j hj
      · exact h
    have hjB : 0 ≤ x.frm → ∀ f, f < P.pages.length → (bs.set x.frm.toNat true).getD f false = ((P.gs i).maps.take (k + 1)).any fun y => decide (y.frm = (f : Int)) := fun h0 f hf => by
      rw [List.take_succ_eq_append_getElem hlt, List.any_append, ← hseen f hf, List.getD_eq_getElem?_getD, List.getElem?_set, ← hxk]
      by_cases e : x.frm.toNat = f
      · simp [e, show x.frm = (f : Int) by omega, hbs, hf]
      · simp [e, show ¬ x.frm = (f : Int) by omega]
    rcases Nat.eq_zero_or_pos k with hk0 | hk0
    · have hk0' : decide (0 < (k : Int)) = false := by simp; omega
      refine runDG ?_
      simp only [hk0']
      refine runDG ?_
      refine callDG (fun h1 wc hG => between_e _ _ _ wc) ?_
      cases hb2 : PtD.btw x.frm 0 ((P.pages.length : Int) - 1)
      · refine runDG ?_
        refine runG ?_
        refine st_cond _ rfl (fun hc => ?_) (fun hc => absurd hc (by simp))
        refine run ?_
        refine fin1 ?_
        rw [hno (by rw [hmd, hb2]; simp)]
      have hb2' := hb2
      simp only [PtD.btw, Bool.and_eq_true, decide_eq_true_eq] at hb2'
      have hs := hload hb2
      refine runDG ?_
      refine runG ?_
      refine st_cond _ rfl (fun hc => ?_) (fun hc => ?_)
      · refine run ?_
        refine fin1 ?_
        rw [hno (by rw [hmd]; simp at hc; simp [hc])]
      · refine run ?_
        rw [← List.map_set]
        refine nextS (k + 1, bs.set x.frm.toNat true) ⟨by omega, by simpa using hbs, hjA (by rw [hmd, hb2, show decide (k = 0) = true by simpa using hk0]; simp at hc; simpa using hc), hjB (by omega)⟩
    have hprev := hprev_of hrow hlt hk0
    have hk0' : decide (0 < (k : Int)) = true := by simp; omega
    refine runDG ?_
    simp only [hk0']
    cases hc2 : decide (x.mid ≤ ((P.gs i).maps.getD (k - 1) default).mid)
    · refine callDG (fun h1 wc hG => between_e _ _ _ wc) ?_
      cases hb2 : PtD.btw x.frm 0 ((P.pages.length : Int) - 1)
      · refine runDG ?_
        refine runG ?_
        refine st_cond _ rfl (fun hc => ?_) (fun hc => absurd hc (by simp))
        refine run ?_
        refine fin1 ?_
        rw [hno (by rw [hmd, hb2]; simp)]
      have hb2' := hb2
      simp only [PtD.btw, Bool.and_eq_true, decide_eq_true_eq] at hb2'
      have hs := hload hb2
      refine runDG ?_
      refine runG ?_
      refine st_cond _ rfl (fun hc => ?_) (fun hc => ?_)
      · refine run ?_
        refine fin1 ?_
        rw [hno (by rw [hmd]; simp at hc; simp [hc])]
      · refine run ?_
        rw [← List.map_set]
        refine nextS (k + 1, bs.set x.frm.toNat true) ⟨by omega, by simpa using hbs, hjA (by rw [hmd, hb2, show decide (((P.gs i).maps.getD (k - 1) default).mid < x.mid) = true by simp at hc2 ⊢; omega]; simp at hc; simpa using hc), hjB (by omega)⟩
    · refine runDG ?_
      refine runG ?_
      refine st_cond _ rfl (fun hc => ?_) (fun hc => absurd hc (by simp))
      refine run ?_
      refine fin1 ?_
      rw [hno (by rw [hmd, show decide (((P.gs i).maps.getD (k - 1) default).mid < x.mid) = false by simp at hc2 ⊢; omega, show decide (k = 0) = false by simp; omega]; simp)]
  · have hge : k = (P.gs i).maps.length := by simp at hc; omega
    subst hge
    rw [List.take_length] at hseen
    have hmaps : P.mapped i = allB P.pages.length fun f => (bs.getD f false) == P.uses ((i : Int) + 1) f := by
      unfold PtD.mapped
      rw [show allB (P.gs i).maps.length (PtD.mapAt (P.gs i).maps P.pages.length) = true from allB_iff.2 hall, Bool.true_and]
      rw [Bool.eq_iff_iff, allB_iff, allB_iff]
      exact ⟨fun h f hf => by rw [hseen f hf]; exact h f hf, fun h f hf => by rw [← hseen f hf]; exact h f hf⟩
    refine run ?_
    refine loopS (σ := Nat) (fun k => [(76, .int .i64 (k : Int))]) (fun _ => [⟨b, (bs.map Value.bool).toArray, 4⟩]) (fun k => k ≤ P.pages.length ∧ ∀ j, j < k → (bs.getD j false == P.uses ((i : Int) + 1) j) = true) (fun k => P.pages.length - k) 0 ⟨by omega, fun j hj => absurd hj (by omega)⟩ ?_
    rintro k m2 hm2 ⟨hk2, hall2⟩
    refine run ?_
    refine st_cond _ rfl (fun hc => ?_) (fun hc => ?_)
    · have hlt : k < P.pages.length := by simp at hc; omega
      have hs : nth (List.map Value.bool bs).toArray.toList k = some (.bool (bs.getD k false)) := by
        rw [nth_eq]
        have hl : k < bs.length := by omega
        simp [List.getElem?_eq_getElem hl]
      refine run ?_
      refine callE (fun wc hG => uses_e (h.good hG) k hlt n) ?_
      refine run ?_
      rw [hn]
      refine st_cond _ rfl (fun hc3 => ?_) (fun hc3 => ?_)
      · refine run ?_
        refine fin1 ?_
        rw [hmaps, show (allB P.pages.length fun f => (bs.getD f false) == P.uses ((i : Int) + 1) f) = false by
          rw [← Bool.not_eq_true, allB_iff]; intro ha; have := ha k hlt; rw [beq_iff_eq] at this; rw [this] at hc3; simp at hc3]
      · refine run ?_
        refine nextS (k + 1) ⟨by omega, fun j hj => ?_⟩
        rcases Nat.lt_succ_iff_lt_or_eq.1 hj with hj | rfl
        · exact hall2 j hj
        · simpa [bne] using hc3
    · have hge : k = P.pages.length := by simp at hc; omega
      subst hge
      refine run ?_
      refine fin1 ?_
      rw [hmaps, allB_iff.2 hall2]
end
end Go.Proofs.YtiaelhhmlbfkmaaGreat

/- Layer 18 (part): what the program asks of a partition: a guest, all. -/
namespace Go.Proofs.YtiaelhhmlbfkmaaGreat
open Go.RowKit
set_option linter.unusedVariables false
set_option linter.unusedSimpArgs false
set_option maxRecDepth 20000
attribute [local irreducible] Hy St Ops DH DHF
section
variable {w : World} {bp : Nat} {L : PtL} {P : PtD}
theorem guested_e (h : PartQ w bp L P) (i : Nat) (hi : i < P.guests.length) (n : Int) (hn : n = (i : Int) + 1) : Fn Tryz.prog 156 [.pointer (some ⟨bp, 0, none⟩), .int .i64 n].toArray w [] (fun u _ => u = .bool (P.guested i)) := by
  have hp := h.cp
  have ho := h.co
  have hp0 := h.n.p0
  have hp1 := h.n.p1
  have ho1 := h.n.o1
  obtain ⟨q, cap, hmv, hne, hle⟩ := (h.v.mp i hi).opened
  obtain ⟨q2, cap2, hvv, hne2, hle2⟩ := (h.v.vc i hi).opened
  obtain ⟨⟨hf0, hf1⟩, _, _⟩ := h.v.wf.gs i hi
  have hg0 := h.v.gs0 hi
  have hg1 := h.v.gs1 hi
  have hg2 := h.v.gs2 hi
  have hg3 := h.v.gs3 hi
  have hg4 := h.v.gs4 hi
  rw [hmv] at hg4
  rw [hvv] at hg3
  have hrow := h.v.vc i hi
  rw [hvv] at hrow
  refine enter Tryz.func156 ?_
  refine run ?_
  refine callE (fun wc hG => guest_e (h.good hG) i hi n hn) ?_
  refine run ?_
  refine st_cond _ rfl (fun hl => ?_) (fun hl => ?_)
  · simp only [Bool.not_eq_true'] at hl
    refine run ?_
    refine drawN 34 ?_
    refine runDG ?_
    refine callDG (fun h1 wc hG => owns_e (h.good hG) n) ?_
    refine runDG ?_
    refine runG ?_
    refine fin1 ?_
    rw [hn]
    simp only [PtD.guested, hl, cond_false]
    by_cases hf : (P.gs i).first = 0
    · have hw : IntKind.i64.wrap ((((P.gs i).vcpus.length : Nat) : Int) + (((P.gs i).maps.length : Nat) : Int) + 0) = (((P.gs i).vcpus.length : Nat) : Int) + (((P.gs i).maps.length : Nat) : Int) + 0 := wrap_in (by omega) (by omega)
      rw [hf, hw]
      have e : decide ((((P.gs i).vcpus.length : Nat) : Int) + (((P.gs i).maps.length : Nat) : Int) + 0 = 0) = (decide ((P.gs i).vcpus.length = 0) && decide ((P.gs i).maps.length = 0)) := by
        rw [Bool.eq_iff_iff]; simp only [Bool.and_eq_true, decide_eq_true_eq]; omega
      rw [e]
    · simp [hf]
  · simp only [Bool.not_eq_false'] at hl
    refine run ?_
    refine drawAll ?_
    refine runDG ?_
    refine callDG (fun h1 wc hG => between_e _ _ _ wc) ?_
    refine runDG ?_
    refine callDG (fun h1 wc hG => mapped_e (h.good hG) i hi n hn) ?_
    refine runDG ?_
    refine runG ?_
    have hgd : P.guested i = (!(P.gs i).dying && PtD.btw (P.gs i).first 16 ((P.pages.length : Int) - 5) && decide ((P.gs i).vcpus.length ≤ 2) && P.mapped i && allB 5 (fun k => decide ((P.pg ((P.gs i).first.toNat + k)).own = -1) && decide ((P.pg ((P.gs i).first.toNat + k)).wit = -2)) && allB (P.gs i).vcpus.length (P.vcpuAt i)) := by simp only [PtD.guested, hl, cond_true]
    refine st_cond _ rfl (fun hc => ?_) (fun hc => ?_)
    · refine run ?_
      refine fin1 ?_
      rw [hgd]
      have e : decide ((P.gs i).vcpus.length ≤ 2) = !decide ((2 : Int) < ((P.gs i).vcpus.length : Nat)) := by rw [Bool.eq_iff_iff]; simp; omega
      rw [e]
      revert hc
      cases (P.gs i).dying <;> cases PtD.btw (P.gs i).first 16 ((P.pages.length : Int) - 5) <;> cases decide ((2 : Int) < ((P.gs i).vcpus.length : Nat)) <;> cases P.mapped i <;> simp
    simp only [Bool.or_eq_false_iff, Bool.not_eq_false', decide_eq_false_iff_not] at hc
    obtain ⟨⟨⟨hdy, hbt⟩, hv2⟩, hmp⟩ := hc
    have hbt' := hbt
    simp only [PtD.btw, Bool.and_eq_true, decide_eq_true_eq] at hbt'
    rw [hdy, hbt, hmp, show decide ((P.gs i).vcpus.length ≤ 2) = true by simp; omega] at hgd
    simp only [Bool.not_false, Bool.true_and] at hgd
    refine run ?_
    refine callB (fun wc hG => tables_e _ _ (P.gs i).first (by omega) (by omega) wc (hG.cell hg2 (by simp))) (fun v hn hA => ?_)
    obtain ⟨T, tc, cur, rfl, rfl, hcur⟩ := hA.open (by simp)
    simp only [List.cons_append, List.nil_append, List.length_map, List.length_cons, List.length_nil, Nat.zero_add, Nat.reduceAdd]
    refine run ?_
    refine loopS (σ := Nat) (fun k => [(88, .int .i64 (k : Int))]) (fun _ => [⟨T, cur, 3⟩]) (fun k => k ≤ 5 ∧ ∀ j, j < k → (decide ((P.pg ((P.gs i).first.toNat + j)).own = -1) && decide ((P.pg ((P.gs i).first.toNat + j)).wit = -2)) = true) (fun k => 5 - k) 0 ⟨by omega, fun j hj => absurd hj (by omega)⟩ ?_
    rintro k m hm ⟨hk, hall⟩
    refine run ?_
    refine st_cond _ rfl (fun hc => ?_) (fun hc => ?_)
    · have hlt : k < 5 := by simp at hc; omega
      have hx : nth cur.toList k = some (.int .i64 ((P.gs i).first + (k : Int))) := by
        have h1 : ([(P.gs i).first, (P.gs i).first + 1, (P.gs i).first + 2, (P.gs i).first + 3, (P.gs i).first + 4].map inV)[k]? = some (inV ((P.gs i).first + (k : Int))) := by
          have : k = 0 ∨ k = 1 ∨ k = 2 ∨ k = 3 ∨ k = 4 := by omega
          rcases this with rfl | rfl | rfl | rfl | rfl <;> simp
        have := nth_of_row (k := 0) (hcur k _ h1) rfl
        simpa using this
      have hr := h.v.pg ((P.gs i).first.toNat + k) (by omega)
      rw [show (P.gs i).first.toNat + k = ((P.gs i).first + (k : Int)).toNat by omega] at hr
      refine run ?_
      refine drawAll ?_
      refine runD ?_
      refine callD (fun wc hG => ours_e wc) ?_
      refine runD ?_
      refine run ?_
      rw [show ((P.gs i).first + (k : Int)).toNat = (P.gs i).first.toNat + k by omega]
      refine st_cond _ rfl (fun hc => ?_) (fun hc => ?_)
      · refine run ?_
        refine fin1 ?_
        rw [hgd]
        rw [show allB 5 (fun k => decide ((P.pg ((P.gs i).first.toNat + k)).own = -1) && decide ((P.pg ((P.gs i).first.toNat + k)).wit = -2)) = false by
          rw [← Bool.not_eq_true, allB_iff]; intro ha; have := ha k hlt; simp [eqLeaves, eqLeaf] at hc this; simp [this] at hc]
        rfl
      · refine run ?_
        refine nextS (k + 1) ⟨by omega, fun j hj => ?_⟩
        rcases Nat.lt_succ_iff_lt_or_eq.1 hj with hj | rfl
        · exact hall j hj
        · simpa [eqLeaves, eqLeaf] using hc
    · have hge : k = 5 := by simp at hc; omega
      subst hge
      rw [show allB 5 (fun k => decide ((P.pg ((P.gs i).first.toNat + k)).own = -1) && decide ((P.pg ((P.gs i).first.toNat + k)).wit = -2)) = true from allB_iff.2 hall, Bool.true_and] at hgd
      refine run ?_
      refine loopS (σ := Nat) (fun k => [(108, .int .i64 (k : Int))]) (fun _ => []) (fun k => k ≤ (P.gs i).vcpus.length ∧ ∀ j, j < k → P.vcpuAt i j = true) (fun k => (P.gs i).vcpus.length - k) 0 ⟨by omega, fun j hj => absurd hj (by omega)⟩ ?_
      rintro k m hm ⟨hk, hall2⟩
      refine run ?_
      refine st_cond _ rfl (fun hc => ?_) (fun hc => ?_)
      · have hlt : k < (P.gs i).vcpus.length := by simp at hc; omega
        obtain ⟨b2, o2, rfl⟩ := hne2 (by intro e; rw [e] at hlt; simp at hlt)
        have hx := rangeAt_cell0 (hrow.row hlt)
        rw [Nat.mul_one] at hx
        have hva : P.vcpuAt i k = (decide ((P.gs i).vcpus.getD k 0 = -1) || (PtD.btw ((P.gs i).vcpus.getD k 0) 0 ((P.on.length : Int) - 1) && (decide ((P.st ((P.gs i).vcpus.getD k 0).toNat).vm = (i : Int) + 1) && decide ((P.st ((P.gs i).vcpus.getD k 0).toNat).cpu = (k : Int))))) := rfl
        rw [show (default : Int) = 0 from rfl] at hx
        generalize (P.gs i).vcpus.getD k 0 = x at hx hva
        have hno : P.vcpuAt i k = false → P.guested i = false := fun h => by
          rw [hgd, ← Bool.not_eq_true, allB_iff]; intro ha; rw [ha k hlt] at h; cases h
        have hyes : P.vcpuAt i k = true → ∀ j, j < k + 1 → P.vcpuAt i j = true := fun h j hj => by
          rcases Nat.lt_succ_iff_lt_or_eq.1 hj with hj | rfl
          · exact hall2 j hj
          · exact h
        refine run ?_
        cases hd : decide (x = -1)
        · refine runG ?_
          refine callEG (fun h1 wc hG => between_e _ _ _ wc) ?_
          cases hb : PtD.btw x 0 ((P.on.length : Int) - 1)
          · refine runG ?_
            refine st_cond _ rfl (fun hc => ?_) (fun hc => absurd hc (by simp))
            refine run ?_
            refine fin1 ?_
            rw [hno (by rw [hva, hd, hb]; rfl)]
          · have hb' := hb
            simp only [PtD.btw, Bool.and_eq_true, decide_eq_true_eq] at hb'
            have hr := h.v.st x.toNat (by omega)
            refine runG ?_
            refine st_cond _ rfl (fun hc => ?_) (fun hc => ?_)
            · refine run ?_
              refine fin1 ?_
              rw [hno (by rw [hva, hd, hb]; rw [hn] at hc; simp [eqLeaves, eqLeaf] at hc; simp; intro h1 h2; rcases hc with hc | hc <;> contradiction)]
            · refine run ?_
              refine nextS (k + 1) ⟨by omega, hyes (by rw [hva, hd, hb]; rw [hn] at hc; simpa [eqLeaves, eqLeaf] using hc)⟩
        · refine runG ?_
          refine st_cond _ rfl (fun hc => absurd hc (by simp)) (fun hc => ?_)
          refine run ?_
          refine nextS (k + 1) ⟨by omega, hyes (by rw [hva, hd]; rfl)⟩
      · have hge : k = (P.gs i).vcpus.length := by simp at hc; omega
        subst hge
        rw [allB_iff.2 hall2] at hgd
        refine run ?_
        refine fin1 ?_
        rw [hgd]
end
end Go.Proofs.YtiaelhhmlbfkmaaGreat

/- Layer 18 (part): whether a partition may be. -/
namespace Go.Proofs.YtiaelhhmlbfkmaaGreat
open Go.RowKit
set_option linter.unusedVariables false
set_option linter.unusedSimpArgs false
set_option maxRecDepth 20000
attribute [local irreducible] Hy St Ops DH DHF
theorem HpLe.of_perm {r : Hp} : ∀ {h h' : Hp}, h.Perm h' → HpLe r h → HpLe r h' := by
  cases r with
  | nil => intros; trivial
  | cons e r =>
    rintro h h' hp ⟨x, h1, h2⟩
    exact ⟨x, h1.trans hp, h2⟩
theorem rows_get {f : Int} {k : Nat} (hlt : k < 5) : ([f, f + 1, f + 2, f + 3, f + 4].map inV)[k]? = some (inV (f + (k : Int))) := by
  have : k = 0 ∨ k = 1 ∨ k = 2 ∨ k = 3 ∨ k = 4 := by omega
  rcases this with rfl | rfl | rfl | rfl | rfl <;> simp
theorem may_e {w : World} {pv gv ov : Value} {P : PtD} {bp : Nat} (h : PartG w pv gv ov P) (c0 : w.cell? ⟨bp, 0, none⟩ = some pv) (c1 : w.cell? ⟨bp, 1, none⟩ = some gv) (c2 : w.cell? ⟨bp, 2, none⟩ = some ov) :
    Fn Tryz.prog 74 [.pointer (some ⟨bp, 0, none⟩)].toArray w [] (fun u _ => u = .bool P.may) := by
  obtain ⟨p, pc, e1, _, hle1⟩ := h.pages.opened
  obtain ⟨o, oc, e3, _, hle3⟩ := h.on.opened
  obtain ⟨g, gc, e2, hle2⟩ : ∃ g gc, gv = .slice g P.guests.length gc ∧ P.guests.length ≤ 281474976710656 := by
    obtain ⟨vv, mv, ⟨⟨g, gc, e, _⟩, hl⟩, _⟩ := h.guests
    simp only [List.length_map, List.length_range] at e hl
    exact ⟨g, gc, e, hl⟩
  have c0' := c0
  have c1' := c1
  have c2' := c2
  rw [e1] at c0'
  rw [e2] at c1'
  rw [e3] at c2'
  refine enter Tryz.func74 ?_
  refine run ?_
  refine callE (fun wc hG => between_e _ _ _ wc) ?_
  refine runG ?_
  refine callEG (fun h1 wc hG => between_e _ _ _ wc) ?_
  refine runG ?_
  have hlen : (!(PtD.btw (P.pages.length : Int) 24 64) || !decide ((P.guests.length : Int) = 4) || !(PtD.btw (P.on.length : Int) 1 3)) = false → P.Len := fun h => by
    simp only [Bool.or_eq_false_iff, Bool.not_eq_false', PtD.btw, Bool.and_eq_true, decide_eq_true_eq] at h
    exact ⟨by omega, by omega, by omega, by omega, by omega⟩
  refine st_cond _ rfl (fun hc => ?_) (fun hc => ?_)
  · refine run ?_
    refine fin1 ?_
    have : P.may = false := by
      rw [← Bool.not_eq_true]
      intro hm
      simp only [PtD.may, Bool.and_eq_true, decide_eq_true_eq] at hm
      obtain ⟨⟨⟨⟨⟨a, b⟩, c, d⟩, _⟩, _⟩, _⟩ := hm
      simp only [PtD.btw, Bool.or_eq_true, Bool.not_eq_true', Bool.and_eq_false_iff, decide_eq_false_iff_not, Bool.not_not] at hc
      omega
    rw [this]
  have hn := hlen (by simpa using hc)
  obtain ⟨L, rfl, rfl, rfl, hv⟩ := h.open hn
  have hQ : PartQ w bp L P := ⟨hv, hn, c0, c1, c2⟩
  cases e1
  cases e2
  cases e3
  have hmay : P.may = (allB 4 P.round && allB P.pages.length (P.paged (P.taken 4)) && allB P.on.length P.seated) := by
    obtain ⟨a, b, c, d, e⟩ := hn
    simp only [PtD.may, a, b, c, d, e, decide_true, Bool.and_self, Bool.true_and]
  have h4 := hn.g4
  refine run ?_
  refine loopS (σ := Nat × Value × Hp) (fun s => [(3, s.2.1), (37, .int .i64 (s.1 : Int))]) (fun s => s.2.2) (fun s => s.1 ≤ 5 ∧ (∀ j, j < s.1 - 1 → P.round j = true) ∧ Acc 3 1 s.2.1 s.2.2 ((P.taken (s.1 - 1)).map inV)) (fun s => 5 - s.1) (0, _, []) ⟨by omega, fun j hj => absurd hj (by omega), Acc.nil _ _⟩ ?_
  rintro ⟨k, tv, ha⟩ m hm ⟨hk, hall, hA⟩
  dsimp only at hm hk hall hA ⊢
  refine run ?_
  refine st_cond _ rfl (fun hc => ?_) (fun hc => ?_)
  · have hlt : k < 5 := by simp at hc; omega
    refine run ?_
    refine st_cond _ rfl (fun hc => ?_) (fun hc => ?_)
    · have hk0 : k = 0 := by simp at hc; omega
      subst hk0
      refine run ?_
      refine nextS (1, tv, ha) ⟨by omega, fun j hj => absurd hj (by simp), hA⟩
    have hk0 : 0 < k := by simp at hc; omega
    obtain ⟨i, rfl⟩ : ∃ i, k = i + 1 := ⟨k - 1, by omega⟩
    rw [Nat.add_sub_cancel] at hall hA
    have hno : P.round i = false → allB 4 P.round = false := fun h => by
      rw [← Bool.not_eq_true, allB_iff]; intro ha; rw [ha i (by omega)] at h; cases h
    have hyes : P.round i = true → ∀ j, j < i + 1 → P.round j = true := fun h j hj => by
      rcases Nat.lt_succ_iff_lt_or_eq.1 hj with hj | rfl
      · exact hall j hj
      · exact h
    refine run ?_
    refine callE (fun wc hG => guested_e (hQ.good hG) i (by omega) ((i + 1 : Nat) : Int) (by omega)) ?_
    refine run ?_
    refine st_cond _ rfl (fun hc => ?_) (fun hc => ?_)
    · refine run ?_
      refine fin1 ?_
      simp only [Bool.not_eq_true'] at hc
      rw [hmay, hno (by rw [PtD.round, hc]; rfl)]
      rfl
    simp only [Bool.not_eq_false'] at hc
    have hg0 := hv.gs0 (i := i) (by omega)
    refine run ?_
    refine callE (fun wc hG => guest_e (hQ.good hG) i (by omega) ((i + 1 : Nat) : Int) (by omega)) ?_
    refine run ?_
    refine st_cond _ rfl (fun hl => ?_) (fun hl => ?_)
    · have hf : 16 ≤ (P.gs i).first ∧ (P.gs i).first ≤ (P.pages.length : Int) - 5 := by
        have := hc
        simp only [PtD.guested, hl, cond_true, PtD.btw, Bool.and_eq_true, decide_eq_true_eq] at this
        exact this.1.1.1.1.2
      have hp1 := hn.p1
      have hrow : P.rows i = [(P.gs i).first, (P.gs i).first + 1, (P.gs i).first + 2, (P.gs i).first + 3, (P.gs i).first + 4] := by rw [PtD.rows, hl]; rfl
      have hrd : P.round i = allB 5 fun k => !((P.taken i).any fun t => decide (t = (P.gs i).first + (k : Int))) := by rw [PtD.round, hc, hl]; rfl
      refine run ?_
      refine callB (fun wc hG => tables_e _ _ (P.gs i).first (by omega) (by omega) wc (hG.cell (hv.gs2 (i := i) (by omega)) (by simp))) (fun v hn hA2 => ?_)
      obtain ⟨T, tc, cur, rfl, rfl, hcur⟩ := hA2.open (by simp)
      simp only [List.cons_append, List.nil_append, List.length_map, List.length_cons, List.length_nil, Nat.zero_add, Nat.reduceAdd]
      refine run ?_
      refine loopS (σ := Nat × Value × Hp) (fun s => [(3, s.2.1), (56, .int .i64 (s.1 : Int))]) (fun s => ⟨T, cur, 3⟩ :: s.2.2) (fun s => s.1 ≤ 5 ∧ (∀ j, j < s.1 → ((P.taken i).any fun t => decide (t = (P.gs i).first + (j : Int))) = false) ∧ Acc 3 1 s.2.1 s.2.2 ((P.taken i ++ (List.range s.1).map fun (j : Nat) => (P.gs i).first + (j : Int)).map inV)) (fun s => 5 - s.1) (0, tv, ha) ⟨by omega, fun j hj => absurd hj (by simp), by simpa using hA⟩ ?_
      rintro ⟨k2, tv2, ha2⟩ m2 hm2 ⟨hk2, hall2, hA3⟩
      dsimp only at hm2 hk2 hall2 hA3 ⊢
      have hlen3 : ((P.taken i ++ (List.range k2).map fun (j : Nat) => (P.gs i).first + (j : Int)).map inV).length ≤ 1000 := by
        have hl : ∀ m, m ≤ 4 → (P.taken m).length ≤ m * 5 := by
          intro m
          induction m with
          | zero => intro _; simp [PtD.taken]
          | succ m ih =>
            intro hm
            have := ih (by omega)
            rw [PtD.taken, List.range_succ, List.flatMap_append, List.length_append]
            have e : (List.flatMap P.rows [m]).length ≤ 5 := by
              simp only [List.flatMap_cons, List.flatMap_nil, List.append_nil, PtD.rows]
              cases (P.gs m).live <;> simp
            unfold PtD.taken at this
            omega
        have := hl i (by omega)
        simp only [List.length_map, List.length_append, List.length_range]
        omega
      refine run ?_
      refine st_cond _ rfl (fun hc => ?_) (fun hc => ?_)
      · have hlt2 : k2 < 5 := by simp at hc; omega
        have hx : nth cur.toList k2 = some (.int .i64 ((P.gs i).first + (k2 : Int))) := by
          have := nth_of_row (k := 0) (hcur k2 _ (rows_get hlt2)) rfl
          simpa using this
        refine run ?_
        refine callE (fun wc hG => pcontainsInt_e ((P.gs i).first + (k2 : Int)) _ tv2 (hA3.slAt hG (fun b hb => List.mem_cons_of_mem _ hb) (by omega))) ?_
        refine run ?_
        have hany : ((P.taken i ++ (List.range k2).map fun (j : Nat) => (P.gs i).first + (j : Int)).any fun t => decide (t = (P.gs i).first + (k2 : Int))) = (P.taken i).any fun t => decide (t = (P.gs i).first + (k2 : Int)) := by
          rw [List.any_append]
          have : ((List.range k2).map fun (j : Nat) => (P.gs i).first + (j : Int)).any (fun t => decide (t = (P.gs i).first + (k2 : Int))) = false := by
            rw [List.any_eq_false]
            intro x hx
            obtain ⟨j, hj, rfl⟩ := List.mem_map.1 hx
            have := List.mem_range.1 hj
            simp
            omega
          rw [this, Bool.or_false]
        rw [hany]
        refine st_cond _ rfl (fun hc => ?_) (fun hc => ?_)
        · refine run ?_
          refine fin1 ?_
          rw [hmay, hno (by rw [hrd, ← Bool.not_eq_true, allB_iff]; intro h; have := h k2 hlt2; rw [hc] at this; cases this)]
          rfl
        · refine run ?_
          intro X
          refine appendA (c := inV ((P.gs i).first + (k2 : Int))) hA3 (fun v' ha' hA' => ?_) (by omega) (news_own (m := 1) mh rfl) (hperm := List.perm_append_comm (l₂ := [_, _]))
          refine run ?_
          refine nextS (k2 + 1, v', ha') ⟨by omega, fun j hj => ?_, ?_⟩ (h2 := HpLe.of_perm (List.perm_append_comm (l₁ := [_, _])) ⟨_, p1, HpLe.skip (HpLe.refl _)⟩)
          · rcases Nat.lt_succ_iff_lt_or_eq.1 hj with hj | rfl
            · exact hall2 j hj
            · exact hc
          · simpa [List.range_succ] using hA'
      · have hk5 : k2 = 5 := by simp at hc; omega
        subst hk5
        refine run ?_
        refine nextS (i + 2, tv2, ha2) ⟨by omega, hyes (by rw [hrd, allB_iff]; intro j hj; rw [hall2 j hj]; rfl), ?_⟩
        have : P.taken (i + 2 - 1) = P.taken i ++ (List.range 5).map fun (j : Nat) => (P.gs i).first + (j : Int) := by
          show P.taken (i + 1) = _
          rw [PtD.taken, List.range_succ, List.flatMap_append]
          simp [hrow, PtD.taken, List.range_succ]
        rw [this]; exact hA3
    · refine run ?_
      refine nextS (i + 2, tv, ha) ⟨by omega, hyes (by rw [PtD.round, hc, hl]; rfl), ?_⟩
      have : P.taken (i + 2 - 1) = P.taken i := by
        show P.taken (i + 1) = _
        rw [PtD.taken, List.range_succ, List.flatMap_append]
        simp [PtD.rows, hl, PtD.taken]
      rw [this]; exact hA
  · have hk5 : k = 5 := by simp at hc; omega
    subst hk5
    rw [show allB 4 P.round = true from allB_iff.2 hall, Bool.true_and] at hmay
    have hlA : ((P.taken (5 - 1)).map inV).length ≤ 281474976710656 := by
      rw [List.length_map]
      have hl : ∀ m, (P.taken m).length ≤ m * 5 := by
        intro m
        induction m with
        | zero => simp [PtD.taken]
        | succ m ih =>
          rw [PtD.taken, List.range_succ, List.flatMap_append, List.length_append]
          have e : (List.flatMap P.rows [m]).length ≤ 5 := by
            simp only [List.flatMap_cons, List.flatMap_nil, List.append_nil, PtD.rows]
            cases (P.gs m).live <;> simp
          unfold PtD.taken at ih
          omega
      have := hl (5 - 1)
      omega
    refine run ?_
    refine loopS (σ := Nat) (fun k => [(75, .int .i64 (k : Int))]) (fun _ => ha) (fun k => k ≤ P.pages.length ∧ ∀ j, j < k → P.paged (P.taken 4) j = true) (fun k => P.pages.length - k) 0 ⟨by omega, fun j hj => absurd hj (by omega)⟩ ?_
    rintro k m2 hm2 ⟨hk2, hall2⟩
    refine run ?_
    refine st_cond _ rfl (fun hc => ?_) (fun hc => ?_)
    · have hlt : k < P.pages.length := by simp at hc; omega
      refine run ?_
      refine callE (fun wc hG => paged_e (hQ.good hG) k hlt (P.taken 4) tv (hA.slAt hG (fun b hb => hb) hlA)) ?_
      refine run ?_
      refine st_cond _ rfl (fun hc3 => ?_) (fun hc3 => ?_)
      · refine run ?_
        refine fin1 ?_
        rw [hmay, show allB P.pages.length (P.paged (P.taken 4)) = false by
          rw [← Bool.not_eq_true, allB_iff]; intro h; rw [h k hlt] at hc3; simp at hc3]
        rfl
      · refine run ?_
        refine nextS (k + 1) ⟨by omega, fun j hj => ?_⟩
        rcases Nat.lt_succ_iff_lt_or_eq.1 hj with hj | rfl
        · exact hall2 j hj
        · simpa using hc3
    have hge : k = P.pages.length := by simp at hc; omega
    subst hge
    rw [show allB P.pages.length (P.paged (P.taken 4)) = true from allB_iff.2 hall2, Bool.true_and] at hmay
    refine run ?_
    refine loopS (σ := Nat) (fun k => [(90, .int .i64 (k : Int))]) (fun _ => []) (fun k => k ≤ P.on.length ∧ ∀ j, j < k → P.seated j = true) (fun k => P.on.length - k) 0 ⟨by omega, fun j hj => absurd hj (by omega)⟩ ?_
    rintro k m3 hm3 ⟨hk3, hall3⟩
    refine run ?_
    refine st_cond _ rfl (fun hc => ?_) (fun hc => ?_)
    · have hlt : k < P.on.length := by simp at hc; omega
      refine run ?_
      refine callE (fun wc hG => seated_e (hQ.good hG) k hlt) ?_
      refine run ?_
      refine st_cond _ rfl (fun hc3 => ?_) (fun hc3 => ?_)
      · refine run ?_
        refine fin1 ?_
        rw [hmay, show allB P.on.length P.seated = false by
          rw [← Bool.not_eq_true, allB_iff]; intro h; rw [h k hlt] at hc3; simp at hc3]
      · refine run ?_
        refine nextS (k + 1) ⟨by omega, fun j hj => ?_⟩
        rcases Nat.lt_succ_iff_lt_or_eq.1 hj with hj | rfl
        · exact hall3 j hj
        · simpa using hc3
    have hge : k = P.on.length := by simp at hc; omega
    subst hge
    refine run ?_
    refine fin1 ?_
    rw [hmay, allB_iff.2 hall3]
end Go.Proofs.YtiaelhhmlbfkmaaGreat

/- Layer 18 (part): what the program tells of a partition; the first one. -/
namespace Go.Proofs.YtiaelhhmlbfkmaaGreat
open Go.RowKit
set_option linter.unusedVariables false
set_option linter.unusedSimpArgs false
set_option maxRecDepth 20000
attribute [local irreducible] Hy St Ops DH DHF
section
variable {w : World} {pv gv ov : Value} {P : PtD}
def pofL (P : PtD) (who : Int) : Int × Int × Int :=
  bif P.may && PtD.btw who (-1) 4 then ((((P.pages.filter fun x => decide (x.own = who)).length : Nat) : Int), ((((List.range P.pages.length).filter (P.uses who)).length : Nat) : Int), 0) else (0, 0, 1)
theorem PartG.agg (h : PartG w pv gv ov P) : pv.oneCell' = true ∧ gv.oneCell' = true ∧ ov.oneCell' = true := by
  obtain ⟨p, pc, rfl, _⟩ := h.pages.opened
  obtain ⟨o, oc, rfl, _⟩ := h.on.opened
  obtain ⟨vv, mv, ⟨⟨g, gc, rfl, _⟩, hl⟩, _⟩ := h.guests
  exact ⟨rfl, rfl, rfl⟩
theorem three_cells {w0 w : World} {mu : List Nat} {hp : Hp} (hG : Good w0 mu hp w) {b t : Nat} {x y z : Value} (hm : (⟨b, #[x, y, z], t⟩ : Blk) ∈ hp) : w.cell? ⟨b, 0, none⟩ = some x ∧ w.cell? ⟨b, 1, none⟩ = some y ∧ w.cell? ⟨b, 2, none⟩ = some z := by
  have h := hG.here _ hm
  refine ⟨?_, ?_, ?_⟩ <;> (rw [cell_of_block h]; rfl)
theorem may_len (h : P.may = true) : P.Len := by
  simp only [PtD.may, Bool.and_eq_true, decide_eq_true_eq] at h
  exact ⟨by omega, by omega, by omega, by omega, by omega⟩
theorem mayB_e (h : PartG w pv gv ov P) {w' : World} {hp : Hp} (hG : Good w [] hp w') {b t : Nat} (hm : (⟨b, #[pv, gv, ov], t⟩ : Blk) ∈ hp) : Fn Tryz.prog 74 [.pointer (some ⟨b, 0, none⟩)].toArray w' [] (fun u _ => u = .bool P.may) := by
  obtain ⟨a, b, c⟩ := three_cells hG hm
  exact may_e (h.good hG) a b c
theorem partQ_of (h : PartG w pv gv ov P) (hn : P.Len) {w' : World} {hp : Hp} (hG : Good w [] hp w') {b t : Nat} (hm : (⟨b, #[pv, gv, ov], t⟩ : Blk) ∈ hp) : ∃ L, PartQ w' b L P := by
  obtain ⟨L, rfl, rfl, rfl, hv⟩ := (h.good hG).open hn
  obtain ⟨a, b, c⟩ := three_cells hG hm
  exact ⟨L, hv, hn, a, b, c⟩
end
end Go.Proofs.YtiaelhhmlbfkmaaGreat

/- Layer 18 (part): the first partition. -/
namespace Go.Proofs.YtiaelhhmlbfkmaaGreat
open Go.RowKit
set_option linter.unusedVariables false
set_option linter.unusedSimpArgs false
set_option maxRecDepth 20000
attribute [local irreducible] Hy St Ops DH DHF
end Go.Proofs.YtiaelhhmlbfkmaaGreat

/- Layer 18 (part): the reference's small functions. -/
namespace Go.Proofs.YtiaelhhmlbfkmaaGreat
open Go.RowKit
set_option linter.unusedVariables false
set_option linter.unusedSimpArgs false
set_option maxRecDepth 20000
attribute [local irreducible] Hy St Ops DH DHF
theorem who_e (n : Int) (w : World) : Fn Tryz.prog 101 [.int .i64 n].toArray w [] (fun u _ => u = .bool (PtD.who n)) := by
  refine enter Tryz.func101 ?_
  refine runG ?_
  exact fin1 rfl
theorem pnum_e (n m : Int) (w : World) : Fn Tryz.prog 138 [.int .i64 n, .int .i64 m].toArray w [] (fun u _ => u = .bool (decide (0 ≤ n) && decide (n ≤ m))) := by
  refine enter Tryz.func138 ?_
  refine runG ?_
  exact fin1 rfl
theorem mappedR_e (xs : List MpD) (v : Value) (w : World) (h : SlAt w v 2 (xs.map mpV)) (f : Int) : Fn Tryz.prog 188 [v, .int .i64 f].toArray w [] (fun u _ => u = .int .i64 (PtD.mappedR xs f)) := by
  obtain ⟨q, cap, rfl, hne, hle⟩ := h.opened
  refine enter Tryz.func188 ?_
  refine run ?_
  refine loopS (σ := Nat) (fun k => [(5, .int .i64 (k : Int))]) (fun _ => []) (fun k => k ≤ xs.length ∧ ∀ j, j < k → decide ((xs.getD j default).frm = f) = false) (fun k => xs.length - k) 0 ⟨Nat.zero_le _, fun j hj => absurd hj (by omega)⟩ ?_
  rintro k m hm ⟨hk, hno⟩
  refine run ?_
  refine st_cond _ rfl (fun hc => ?_) (fun hc => ?_)
  · have hlt : k < xs.length := by simp at hc; omega
    obtain ⟨b, o, rfl⟩ := hne (by intro e; subst e; simp at hlt)
    have h1 := rangeAt_cell (k := 1) (h.row hlt) rfl
    refine run ?_
    refine st_cond _ rfl (fun hp => ?_) (fun hp => ?_)
    · refine run ?_
      refine fin1 ?_
      simp only [PtD.mappedR, (PtD.idx_at (p := fun m => decide (m.frm = f)) hlt hp).2 hno]
    · refine run ?_
      refine nextS (k + 1) ⟨hlt, fun j hj => ?_⟩
      rcases Nat.lt_succ_iff_lt_or_eq.1 hj with hj | rfl
      · exact hno j hj
      · exact hp
  · have hge : k = xs.length := by simp at hc; omega
    subst hge
    refine run ?_
    refine fin1 ?_
    unfold PtD.mappedR
    rw [idx_nope (p := fun (m : MpD) => decide (m.frm = f)) hno]
section
variable {w : World} {L : PtL} {P : PtD}
theorem guestR_e (h : PartV w L P) (n m : Nat) (vm : Int) (hvm : I64 vm) : Fn Tryz.prog 103 [.agg #[L.pv n, L.gv P.guests.length, L.ov m], .int .i64 vm].toArray w [] (fun u _ => u = .bool (P.guestR vm)) := by
  obtain ⟨hv0, hv1⟩ := hvm
  refine enter Tryz.func103 ?_
  refine run ?_
  intro B
  by_cases hin : 1 ≤ vm ∧ vm ≤ P.guests.length
  · have h0 := h.gs0 (i := (vm - 1).toNat) (by omega)
    refine runG ?_
    refine fin1 ?_
    simp only [PtD.guestR]
  · have hf : (decide (1 ≤ vm) && decide (vm ≤ (P.guests.length : Int))) = false := by
      rw [← Bool.not_eq_true]; intro h; simp at h; exact hin h
    refine runG ?_
    rw [hf]
    refine runG ?_
    refine fin1 ?_
    rw [PtD.guestR, hf]; rfl
theorem tablesR_e (h : PartV w L P) (n m : Nat) (hn : P.guests.length ≤ 1000) (f : Int) (hf : I64 f) : Fn Tryz.prog 102 [.agg #[L.pv n, L.gv P.guests.length, L.ov m], .int .i64 f].toArray w [] (fun u _ => u = .int .i64 (P.tablesR f)) := by
  obtain ⟨hv0, hv1⟩ := hf
  refine enter Tryz.func102 ?_
  refine run ?_
  intro B
  refine run ?_
  refine loopS (σ := Nat) (fun k => [(5, .int .i64 (k : Int))]) (fun _ => [⟨B, #[L.pv n, L.gv P.guests.length, L.ov m], 38⟩]) (fun k => k ≤ P.guests.length ∧ ∀ j, j < k → PtD.within f (P.gs j) = false) (fun k => P.guests.length - k) 0 ⟨Nat.zero_le _, fun j hj => absurd hj (by omega)⟩ ?_
  rintro k m hm ⟨hk, hno⟩
  refine run ?_
  refine st_cond _ rfl (fun hc => ?_) (fun hc => ?_)
  · have hlt : k < P.guests.length := by simp at hc; omega
    have hr := h.gs k hlt
    obtain ⟨q, cap, hmv, _⟩ := (h.mp k hlt).opened
    obtain ⟨q2, cap2, hvv, _⟩ := (h.vc k hlt).opened
    rw [hmv, hvv] at hr
    refine run ?_
    intro G
    refine runG ?_
    have hw : ((P.gs k).live && decide ((P.gs k).first ≤ f) && decide (IntKind.i64.wrap (f - (P.gs k).first) < 5)) = PtD.within f (P.gs k) := rfl
    refine st_cond _ rfl (fun hp => ?_) (fun hp => ?_)
    · refine run ?_
      refine fin1 ?_
      unfold PtD.tablesR
      rw [(PtD.idx_at (p := PtD.within f) hlt hp).2 hno]
      simp
    · refine run ?_
      refine nextS (k + 1) ⟨hlt, fun j hj => ?_⟩
      rcases Nat.lt_succ_iff_lt_or_eq.1 hj with hj | rfl
      · exact hno j hj
      · exact hp
  · have hge : k = P.guests.length := by simp at hc; omega
    subst hge
    refine run ?_
    refine fin1 ?_
    unfold PtD.tablesR
    rw [idx_nope (p := PtD.within f) hno]
end
end Go.Proofs.YtiaelhhmlbfkmaaGreat

/- Layer 18 (part): the reference's test of a guest. -/
namespace Go.Proofs.YtiaelhhmlbfkmaaGreat
open Go.RowKit
set_option linter.unusedVariables false
set_option linter.unusedSimpArgs false
set_option maxRecDepth 20000
attribute [local irreducible] Hy St Ops DH DHF
section
variable {w : World} {L : PtL} {P : PtD}
set_option maxHeartbeats 4000000 in
theorem guestOne_e (h : PartV w L P) (hn : P.Len) (i : Nat) (hi : i < P.guests.length) (vm : Int) (hvm : vm = (i : Int) + 1) : Fn Tryz.prog 104 [.agg #[L.pv P.pages.length, L.gv P.guests.length, L.ov P.on.length], .int .i64 vm].toArray w [] (fun u _ => u = .bool (P.oneR i)) := by
  obtain ⟨np0, np1, ng4, no0, no1⟩ := hn
  have hr := h.gs i hi
  obtain ⟨q, cap, hmv, hne, hle⟩ := (h.mp i hi).opened
  obtain ⟨q2, cap2, hvv, hne2, hle2⟩ := (h.vc i hi).opened
  obtain ⟨⟨hf0, hf1⟩, _, _⟩ := h.wf.gs i hi
  have hrow := h.vc i hi
  have hrowm := h.mp i hi
  rw [hvv] at hrow
  rw [hmv] at hrowm
  rw [hmv, hvv] at hr
  obtain rfl : vm = ((i + 1 : Nat) : Int) := by omega
  have hr' : w.rangeAt L.gb (L.go + (((i + 1 : Nat) : Int) - 1).toNat * 5) [.bool (P.gs i).live, .bool (P.gs i).dying, .int .i64 (P.gs i).first, .slice q2 (P.gs i).vcpus.length cap2, .slice q (P.gs i).maps.length cap] := by
    rw [show (((i + 1 : Nat) : Int) - 1).toNat = i by omega]; exact hr
  refine enter Tryz.func104 ?_
  refine run ?_
  intro B G
  refine run ?_
  refine loopS (σ := Nat × Nat) (fun s => [(6, .int .i64 (s.2 : Int)), (7, .int .i64 (s.1 : Int))]) (fun s => [⟨G, #[.bool (P.gs i).live, .bool (P.gs i).dying, .int .i64 (P.gs i).first, .slice q2 (P.gs i).vcpus.length cap2, .slice q (P.gs i).maps.length cap], 129⟩, ⟨B, #[L.pv P.pages.length, L.gv P.guests.length, L.ov P.on.length], 38⟩]) (fun s => s.1 ≤ P.pages.length ∧ s.2 ≤ s.1 ∧ decide (0 < s.2) = (P.pages.take s.1).any fun x => decide (x.own = ((i + 1 : Nat) : Int))) (fun s => P.pages.length - s.1) (0, 0) ⟨by omega, by omega, by simp⟩ ?_
  rintro ⟨k, ow⟩ m hm ⟨hk, hok, how⟩
  dsimp only at hm hk hok how ⊢
  refine run ?_
  refine st_cond _ rfl (fun hc => ?_) (fun hc => ?_)
  · have hlt : k < P.pages.length := by simp at hc; omega
    have h0 := h.pg0 hlt
    have htk : P.pages.take (k + 1) = P.pages.take k ++ [P.pg k] := by
      rw [List.take_succ_eq_append_getElem hlt, PtD.pg, List.getD_eq_getElem?_getD, List.getElem?_eq_getElem hlt]; rfl
    refine run ?_
    refine st_cond _ rfl (fun hp => ?_) (fun hp => ?_)
    · refine run ?_
      exact nextS (k + 1, ow + 1) ⟨by dsimp only; omega, by dsimp only; omega, by dsimp only; rw [htk, List.any_append, ← how]; simp at hp; simp [hp]⟩
    · refine run ?_
      exact nextS (k + 1, ow) ⟨by dsimp only; omega, by dsimp only; omega, by dsimp only; rw [htk, List.any_append, ← how]; simp at hp; simp [hp]⟩
  have hge : k = P.pages.length := by simp at hc; omega
  subst hge
  rw [List.take_length] at how
  have how' : decide (0 < ow) = P.owns ((i : Int) + 1) := how
  refine run ?_
  refine st_cond _ rfl (fun hl => ?_) (fun hl => ?_)
  · simp only [Bool.not_eq_true'] at hl
    refine runG ?_
    refine fin1 ?_
    simp only [PtD.oneR, hl, cond_false, ← how']
    simp
  simp only [Bool.not_eq_false'] at hl
  have hone : P.oneR i = (!((P.gs i).dying || decide ((P.gs i).first < 16) || decide ((P.gs i).first > (P.pages.length : Int) - 5) || decide ((P.gs i).vcpus.length > 2)) &&
    allB 5 (fun k => decide (P.tablesR ((P.gs i).first + k) = (i : Int) + 1)) && allB (P.guests.length - (i + 1)) (fun k => P.apartR i (i + 1 + k)) &&
    allB (P.gs i).vcpus.length (P.vcpuR i) && allB (P.gs i).maps.length (PtD.mapR (P.gs i).maps P.pages.length) && allB P.pages.length (P.useR i)) := by simp only [PtD.oneR, hl, cond_true]
  have hv2 : decide ((P.gs i).vcpus.length > 2) = decide ((2 : Int) < ((P.gs i).vcpus.length : Nat)) := by rw [decide_eq_decide]; omega
  rw [hv2] at hone
  refine runG ?_
  refine st_cond _ rfl (fun hc => ?_) (fun hc => ?_)
  · refine run ?_
    refine fin1 ?_
    rw [hone, show ((P.gs i).dying || decide ((P.gs i).first < 16) || decide ((P.gs i).first > (P.pages.length : Int) - 5) || decide ((2 : Int) < ((P.gs i).vcpus.length : Nat))) = true from hc]
    rfl
  rw [show ((P.gs i).dying || decide ((P.gs i).first < 16) || decide ((P.gs i).first > (P.pages.length : Int) - 5) || decide ((2 : Int) < ((P.gs i).vcpus.length : Nat))) = false from hc] at hone
  simp only [Bool.not_false, Bool.true_and] at hone
  simp only [Bool.or_eq_false_iff, decide_eq_false_iff_not] at hc
  obtain ⟨⟨⟨hdy, hb1⟩, hb2⟩, hb3⟩ := hc
  have hno : ∀ (n : Nat) (p : Nat → Bool) (k : Nat), k < n → p k = false → allB n p = false := fun n p k hk h => by
    rw [← Bool.not_eq_true, allB_iff]; intro ha; rw [ha k hk] at h; cases h
  have hyes : ∀ (p : Nat → Bool) (k : Nat), (∀ j, j < k → p j = true) → p k = true → ∀ j, j < k + 1 → p j = true := fun p k h h2 j hj => by
    rcases Nat.lt_succ_iff_lt_or_eq.1 hj with hj | rfl
    · exact h j hj
    · exact h2
  refine run ?_
  refine loopS (σ := Nat) (fun k => [(8, .int .i64 ((P.gs i).first + (k : Int)))]) (fun s => [⟨G, #[.bool (P.gs i).live, .bool (P.gs i).dying, .int .i64 (P.gs i).first, .slice q2 (P.gs i).vcpus.length cap2, .slice q (P.gs i).maps.length cap], 129⟩, ⟨B, #[L.pv P.pages.length, L.gv P.guests.length, L.ov P.on.length], 38⟩]) (fun k => k ≤ 5 ∧ ∀ j, j < k → decide (P.tablesR ((P.gs i).first + (j : Int)) = (i : Int) + 1) = true) (fun k => 5 - k) 0 ⟨by omega, fun j hj => absurd hj (by omega)⟩ ?_ (hl := by simp only [Int.natCast_zero, Int.add_zero]; (repeat (first | exact True.intro | (refine And.intro (by first | exact Or.inl rfl | exact Or.inr rfl) ?_))))
  rintro k m hm ⟨hk, hall⟩
  refine run ?_
  refine st_cond _ rfl (fun hc => ?_) (fun hc => ?_)
  · have hlt : k < 5 := by simp at hc; omega
    refine run ?_
    refine callE (fun wc hG => tablesR_e (h.good hG) _ _ (by omega) ((P.gs i).first + (k : Int)) ⟨by omega, by omega⟩) ?_
    refine run ?_
    refine st_cond _ rfl (fun hp => ?_) (fun hp => ?_)
    · refine run ?_
      refine fin1 ?_
      rw [hone, hno 5 _ k hlt (by simpa using hp)]
      rfl
    · refine run ?_
      simp only [show (P.gs i).first + (k : Int) + 1 = (P.gs i).first + ((k + 1 : Nat) : Int) by omega]
      exact nextS (k + 1) ⟨by omega, hyes (fun j => decide (P.tablesR ((P.gs i).first + (j : Int)) = (i : Int) + 1)) k hall (by simpa using hp)⟩
  have hge : k = 5 := by simp at hc; omega
  subst hge
  rw [show allB 5 (fun k => decide (P.tablesR ((P.gs i).first + (k : Int)) = (i : Int) + 1)) = true from allB_iff.2 hall, Bool.true_and] at hone
  clear hall hm hk hc
  refine run ?_
  refine loopS (σ := Nat) (fun k => [(9, .int .i64 ((i + 1 + k : Nat) : Int))]) (fun s => [⟨G, #[.bool (P.gs i).live, .bool (P.gs i).dying, .int .i64 (P.gs i).first, .slice q2 (P.gs i).vcpus.length cap2, .slice q (P.gs i).maps.length cap], 129⟩, ⟨B, #[L.pv P.pages.length, L.gv P.guests.length, L.ov P.on.length], 38⟩]) (fun k => k ≤ P.guests.length - (i + 1) ∧ ∀ j, j < k → P.apartR i (i + 1 + j) = true) (fun k => P.guests.length - (i + 1) - k) 0 ⟨by omega, fun j hj => absurd hj (by omega)⟩ ?_
  rintro k m hm ⟨hk, hall⟩
  refine run ?_
  refine st_cond _ rfl (fun hc => ?_) (fun hc => ?_)
  · have hlt : i + 1 + k < P.guests.length := by simp at hc; omega
    have hrj := h.gs (i + 1 + k) hlt
    obtain ⟨qj, capj, hmvj, _⟩ := (h.mp (i + 1 + k) hlt).opened
    obtain ⟨qj2, capj2, hvvj, _⟩ := (h.vc (i + 1 + k) hlt).opened
    rw [hmvj, hvvj] at hrj
    refine run ?_
    intro O
    refine runG ?_
    refine st_cond _ rfl (fun hp => ?_) (fun hp => ?_)
    · refine run ?_
      refine fin1 ?_
      rw [hone, hno _ _ k (by omega) (by rw [PtD.apartR, hp]; rfl)]
      rfl
    · refine run ?_
      exact nextS (k + 1) ⟨by omega, hyes (fun j => P.apartR i (i + 1 + j)) k hall (by show P.apartR i (i + 1 + k) = true; rw [PtD.apartR, hp]; rfl)⟩
  have hge : k = P.guests.length - (i + 1) := by simp at hc; omega
  subst hge
  rw [show allB (P.guests.length - (i + 1)) (fun k => P.apartR i (i + 1 + k)) = true from allB_iff.2 hall, Bool.true_and] at hone
  clear hall hm hk hc
  refine run ?_
  refine loopS (σ := Nat) (fun k => [(11, .int .i64 (k : Int))]) (fun s => [⟨G, #[.bool (P.gs i).live, .bool (P.gs i).dying, .int .i64 (P.gs i).first, .slice q2 (P.gs i).vcpus.length cap2, .slice q (P.gs i).maps.length cap], 129⟩, ⟨B, #[L.pv P.pages.length, L.gv P.guests.length, L.ov P.on.length], 38⟩]) (fun k => k ≤ (P.gs i).vcpus.length ∧ ∀ j, j < k → P.vcpuR i j = true) (fun k => (P.gs i).vcpus.length - k) 0 ⟨by omega, fun j hj => absurd hj (by omega)⟩ ?_
  rintro k m hm ⟨hk, hall⟩
  refine run ?_
  refine st_cond _ rfl (fun hc => ?_) (fun hc => ?_)
  · have hlt : k < (P.gs i).vcpus.length := by simp at hc; omega
    obtain ⟨b2, o2, rfl⟩ := hne2 (by intro e; rw [e] at hlt; simp at hlt)
    have hx := rangeAt_cell0 (hrow.row hlt)
    rw [Nat.mul_one, show (default : Int) = 0 from rfl] at hx
    have hva : P.vcpuR i k = !(decide ((P.gs i).vcpus.getD k 0 < -1) || decide ((P.gs i).vcpus.getD k 0 ≥ P.on.length) || (decide ((P.gs i).vcpus.getD k 0 ≥ 0) && !(decide ((P.st ((P.gs i).vcpus.getD k 0).toNat).vm = (i : Int) + 1) && decide ((P.st ((P.gs i).vcpus.getD k 0).toNat).cpu = (k : Int))))) := rfl
    generalize (P.gs i).vcpus.getD k 0 = x at hx hva
    by_cases hin : 0 ≤ x ∧ x < P.on.length
    · have hst := h.st x.toNat (by omega)
      refine runG ?_
      refine st_cond _ rfl (fun hp => ?_) (fun hp => ?_)
      · refine run ?_
        refine fin1 ?_
        rw [hone, hno _ _ k hlt (by rw [hva, Bool.not_eq_false']; simpa [eqLeaves, eqLeaf] using hp)]
        rfl
      · refine run ?_
        exact nextS (k + 1) ⟨by omega, hyes (P.vcpuR i) k hall (by rw [hva, Bool.not_eq_true']; simpa [eqLeaves, eqLeaf] using hp)⟩
    · rcases (by omega : x < -1 ∨ x = -1 ∨ (P.on.length : Int) ≤ x) with h1 | h1 | h1
      · have e1 : decide (x < -1) = true := by simpa using h1
        refine runG ?_
        simp only [e1]
        refine runG ?_
        refine st_cond _ rfl (fun hp => ?_) (fun hp => absurd hp (by simp))
        refine run ?_
        refine fin1 ?_
        rw [hone, hno _ _ k hlt (by rw [hva, e1]; rfl)]
        rfl
      · have e1 : decide (x < -1) = false := by simp; omega
        have e2 : decide ((P.on.length : Int) ≤ x) = false := by simp; omega
        have e3 : decide (0 ≤ x) = false := by simp; omega
        refine runG ?_
        simp only [e1, e2, e3]
        refine runG ?_
        refine st_cond _ rfl (fun hp => absurd hp (by simp)) (fun hp => ?_)
        refine run ?_
        exact nextS (k + 1) ⟨by omega, hyes (P.vcpuR i) k hall (by rw [hva, e1, show decide (x ≥ (P.on.length : Int)) = false from e2, show decide (x ≥ 0) = false from e3]; rfl)⟩
      · have e1 : decide (x < -1) = false := by simp; omega
        have e2 : decide ((P.on.length : Int) ≤ x) = true := by simpa using h1
        refine runG ?_
        simp only [e1, e2]
        refine runG ?_
        refine st_cond _ rfl (fun hp => ?_) (fun hp => absurd hp (by simp))
        refine run ?_
        refine fin1 ?_
        rw [hone, hno _ _ k hlt (by rw [hva, e1, show decide (x ≥ (P.on.length : Int)) = true from e2]; rfl)]
        rfl
  have hge : k = (P.gs i).vcpus.length := by simp at hc; omega
  subst hge
  rw [show allB (P.gs i).vcpus.length (P.vcpuR i) = true from allB_iff.2 hall, Bool.true_and] at hone
  clear hall hm hk hc
  refine run ?_
  refine loopS (σ := Nat) (fun k => [(13, .int .i64 (k : Int))]) (fun s => [⟨G, #[.bool (P.gs i).live, .bool (P.gs i).dying, .int .i64 (P.gs i).first, .slice q2 (P.gs i).vcpus.length cap2, .slice q (P.gs i).maps.length cap], 129⟩, ⟨B, #[L.pv P.pages.length, L.gv P.guests.length, L.ov P.on.length], 38⟩]) (fun k => k ≤ (P.gs i).maps.length ∧ ∀ j, j < k → PtD.mapR (P.gs i).maps P.pages.length j = true) (fun k => (P.gs i).maps.length - k) 0 ⟨by omega, fun j hj => absurd hj (by omega)⟩ ?_
  rintro k m hm ⟨hk, hall⟩
  refine run ?_
  refine st_cond _ rfl (fun hc => ?_) (fun hc => ?_)
  · have hlt : k < (P.gs i).maps.length := by simp at hc; omega
    obtain ⟨b2, o2, rfl⟩ := hne (by intro e; rw [e] at hlt; simp at hlt)
    have hrm := hrowm.row hlt
    simp only [mpV] at hrm
    have hmd : PtD.mapR (P.gs i).maps P.pages.length k = !(!(decide (0 ≤ ((P.gs i).maps.getD k default).mid) && decide (((P.gs i).maps.getD k default).mid ≤ 15)) || (decide (k > 0) && decide (((P.gs i).maps.getD (k - 1) default).mid ≥ ((P.gs i).maps.getD k default).mid)) || !(decide (0 ≤ ((P.gs i).maps.getD k default).frm) && decide (((P.gs i).maps.getD k default).frm ≤ (P.pages.length : Int) - 1)) || decide (PtD.mappedR (P.gs i).maps ((P.gs i).maps.getD k default).frm ≠ (k : Int))) := rfl
    generalize (P.gs i).maps.getD k default = x at hrm hmd
    refine run ?_
    intro X
    refine drawAll ?_
    refine runDG ?_
    refine callD (fun wc hG => pnum_e _ _ wc) ?_
    cases hb1 : (decide (0 ≤ x.mid) && decide (x.mid ≤ 15))
    · refine runDG ?_
      refine runG ?_
      refine st_cond _ rfl (fun hc => ?_) (fun hc => absurd hc (by simp))
      refine run ?_
      refine fin1 ?_
      rw [hone, hno _ _ k hlt (by rw [hmd, hb1]; rfl)]
      rfl
    rcases Nat.eq_zero_or_pos k with hk0 | hk0
    · have hk0' : decide (0 < (k : Int)) = false := by simp; omega
      refine runDG ?_
      simp only [hk0']
      refine runDG ?_
      refine callDG (fun h1 wc hG => pnum_e _ _ wc) ?_
      cases hb2 : (decide (0 ≤ x.frm) && decide (x.frm ≤ (P.pages.length : Int) - 1))
      · refine runDG ?_
        refine runG ?_
        refine st_cond _ rfl (fun hc => ?_) (fun hc => absurd hc (by simp))
        refine run ?_
        refine fin1 ?_
        rw [hone, hno _ _ k hlt (by rw [hmd, hb2]; simp)]
        rfl
      refine runDG ?_
      refine callDG (fun h1 wc hG => mappedR_e (P.gs i).maps _ wc (hrowm.good hG) x.frm) ?_
      refine runDG ?_
      refine runG ?_
      refine st_cond _ rfl (fun hc => ?_) (fun hc => ?_)
      · refine run ?_
        refine fin1 ?_
        rw [hone, hno _ _ k hlt (by rw [hmd]; simp at hc; simp [hc])]
        rfl
      · refine run ?_
        exact nextS (k + 1) ⟨by omega, hyes (PtD.mapR (P.gs i).maps P.pages.length) k hall (by rw [hmd, hb1, hb2]; rw [show decide (k > 0) = false by simpa using hk0]; simp at hc; simp [hc])⟩
    have hprev := hprev_of hrowm hlt hk0
    have hk0' : decide (0 < (k : Int)) = true := by simp; omega
    refine runDG ?_
    simp only [hk0']
    cases hc2 : decide (x.mid ≤ ((P.gs i).maps.getD (k - 1) default).mid)
    · refine callDG (fun h1 wc hG => pnum_e _ _ wc) ?_
      cases hb2 : (decide (0 ≤ x.frm) && decide (x.frm ≤ (P.pages.length : Int) - 1))
      · refine runDG ?_
        refine runG ?_
        refine st_cond _ rfl (fun hc => ?_) (fun hc => absurd hc (by simp))
        refine run ?_
        refine fin1 ?_
        rw [hone, hno _ _ k hlt (by rw [hmd, hb2]; simp)]
        rfl
      refine runDG ?_
      refine callDG (fun h1 wc hG => mappedR_e (P.gs i).maps _ wc (hrowm.good hG) x.frm) ?_
      refine runDG ?_
      refine runG ?_
      refine st_cond _ rfl (fun hc => ?_) (fun hc => ?_)
      · refine run ?_
        refine fin1 ?_
        rw [hone, hno _ _ k hlt (by rw [hmd]; simp at hc; simp [hc])]
        rfl
      · refine run ?_
        exact nextS (k + 1) ⟨by omega, hyes (PtD.mapR (P.gs i).maps P.pages.length) k hall (by rw [hmd, hb1, hb2]; rw [show decide (((P.gs i).maps.getD (k - 1) default).mid ≥ x.mid) = false from hc2]; simp at hc; simp [hc])⟩
    · refine runDG ?_
      refine runG ?_
      refine st_cond _ rfl (fun hc => ?_) (fun hc => absurd hc (by simp))
      refine run ?_
      refine fin1 ?_
      rw [hone, hno _ _ k hlt (by rw [hmd, show decide (((P.gs i).maps.getD (k - 1) default).mid ≥ x.mid) = true from hc2, show decide (k > 0) = true by simpa using hk0]; simp)]
      rfl
  have hge : k = (P.gs i).maps.length := by simp at hc; omega
  subst hge
  rw [show allB (P.gs i).maps.length (PtD.mapR (P.gs i).maps P.pages.length) = true from allB_iff.2 hall, Bool.true_and] at hone
  clear hall hm hk hc
  refine run ?_
  refine loopS (σ := Nat) (fun k => [(15, .int .i64 (k : Int))]) (fun s => [⟨G, #[.bool (P.gs i).live, .bool (P.gs i).dying, .int .i64 (P.gs i).first, .slice q2 (P.gs i).vcpus.length cap2, .slice q (P.gs i).maps.length cap], 129⟩, ⟨B, #[L.pv P.pages.length, L.gv P.guests.length, L.ov P.on.length], 38⟩]) (fun k => k ≤ P.pages.length ∧ ∀ j, j < k → P.useR i j = true) (fun k => P.pages.length - k) 0 ⟨by omega, fun j hj => absurd hj (by omega)⟩ ?_
  rintro k m hm ⟨hk, hall⟩
  refine run ?_
  refine st_cond _ rfl (fun hc => ?_) (fun hc => ?_)
  · have hlt : k < P.pages.length := by simp at hc; omega
    have hrp := h.pg k hlt
    refine run ?_
    intro X
    refine drawAll ?_
    refine runDG ?_
    refine callD (fun wc hG => mappedR_e (P.gs i).maps _ wc (hrowm.good hG) (k : Int)) ?_
    refine runDG ?_
    refine runG ?_
    refine st_cond _ rfl (fun hp => ?_) (fun hp => ?_)
    · refine run ?_
      refine fin1 ?_
      rw [hone, hno _ _ k hlt (by
        rw [← Bool.not_eq_true]; intro hu
        simp only [PtD.useR, beq_iff_eq] at hu
        rw [bne_iff_ne] at hp
        exact hp hu)]
    · refine run ?_
      exact nextS (k + 1) ⟨by omega, hyes (P.useR i) k hall (by simp only [PtD.useR, beq_iff_eq]; exact bne_eq_false_iff_eq.1 hp)⟩
  have hge : k = P.pages.length := by simp at hc; omega
  subst hge
  rw [show allB P.pages.length (P.useR i) = true from allB_iff.2 hall] at hone
  refine run ?_
  refine fin1 ?_
  rw [hone]
end
end Go.Proofs.YtiaelhhmlbfkmaaGreat

/- Layer 18 (part): the reference's test of a partition. -/
namespace Go.Proofs.YtiaelhhmlbfkmaaGreat
open Go.RowKit
set_option linter.unusedVariables false
set_option linter.unusedSimpArgs false
set_option maxRecDepth 20000
attribute [local irreducible] Hy St Ops DH DHF
set_option maxHeartbeats 4000000 in
theorem partR_e {w : World} {pv gv ov : Value} {P : PtD} (h : PartG w pv gv ov P) : Fn Tryz.prog 51 [.agg #[pv, gv, ov]].toArray w [] (fun u _ => u = .bool P.mayR) := by
  obtain ⟨p, pc, e1, _, hle1⟩ := h.pages.opened
  obtain ⟨o, oc, e3, _, hle3⟩ := h.on.opened
  obtain ⟨g, gc, e2, hle2⟩ : ∃ g gc, gv = .slice g P.guests.length gc ∧ P.guests.length ≤ 281474976710656 := by
    obtain ⟨vv, mv, ⟨⟨g, gc, e, _⟩, hl⟩, _⟩ := h.guests
    simp only [List.length_map, List.length_range] at e hl
    exact ⟨g, gc, e, hl⟩
  rw [e1, e2, e3]
  refine enter Tryz.func51 ?_
  refine run ?_
  intro B
  refine runG ?_
  have hlen : (decide ((P.pages.length : Int) < 24) || decide ((64 : Int) < (P.pages.length : Int)) || !decide ((P.guests.length : Int) = 4) || decide ((P.on.length : Int) < 1) || decide ((3 : Int) < (P.on.length : Int))) = (decide (P.pages.length < 24) || decide (P.pages.length > 64) || decide (P.guests.length ≠ 4) || decide (P.on.length < 1) || decide (P.on.length > 3)) := by
    rw [Bool.eq_iff_iff]
    simp only [Bool.or_eq_true, decide_eq_true_eq, Bool.not_eq_true', decide_eq_false_iff_not]
    omega
  refine st_cond _ rfl (fun hc => ?_) (fun hc => ?_)
  · refine run ?_
    refine fin1 ?_
    rw [hlen] at hc
    rw [PtD.mayR, hc]
    rfl
  rw [hlen] at hc
  have hmay : P.mayR = (allB P.pages.length P.pageR && allB 4 P.oneR && allB P.on.length P.seatR) := by rw [PtD.mayR, hc]; rfl
  have hn : P.Len := by
    simp only [Bool.or_eq_false_iff, decide_eq_false_iff_not] at hc
    exact ⟨by omega, by omega, by omega, by omega, by omega⟩
  have hno : ∀ (n : Nat) (p : Nat → Bool) (k : Nat), k < n → p k = false → allB n p = false := fun n p k hk h => by
    rw [← Bool.not_eq_true, allB_iff]; intro ha; rw [ha k hk] at h; cases h
  have hyes : ∀ (p : Nat → Bool) (k : Nat), (∀ j, j < k → p j = true) → p k = true → ∀ j, j < k + 1 → p j = true := fun p k h h2 j hj => by
    rcases Nat.lt_succ_iff_lt_or_eq.1 hj with hj | rfl
    · exact h j hj
    · exact h2
  obtain ⟨L, rfl, rfl, rfl, hv⟩ := h.open hn
  cases e1
  cases e2
  cases e3
  obtain ⟨np0, np1, ng4, no0, no1⟩ := hn
  refine run ?_
  refine loopS (σ := Nat) (fun k => [(4, .int .i64 (k : Int))]) (fun s => [⟨B, #[L.pv P.pages.length, L.gv P.guests.length, L.ov P.on.length], 38⟩]) (fun k => k ≤ P.pages.length ∧ ∀ j, j < k → P.pageR j = true) (fun k => P.pages.length - k) 0 ⟨by omega, fun j hj => absurd hj (by omega)⟩ ?_
  rintro k m hm ⟨hk, hall⟩
  refine run ?_
  refine st_cond _ rfl (fun hc => ?_) (fun hc => ?_)
  · have hlt : k < P.pages.length := by simp at hc; omega
    have hrp := hv.pg k hlt
    have hpr : P.pageR k = (!(!PtD.who (P.pg k).own || (!decide ((P.pg k).wit = -2) && !PtD.who (P.pg k).wit) || decide ((P.pg k).wit = (P.pg k).own)) &&
      !((P.hypR k != decide ((P.pg k).own = -1)) || (P.hypR k && !decide ((P.pg k).wit = -2))) &&
      !((decide ((P.pg k).own = 0) && decide (0 < (P.pg k).wit) && !P.guestR (P.pg k).wit) || (decide (0 < (P.pg k).own) && !decide ((P.pg k).wit = -2) && !decide ((P.pg k).wit = 0))) &&
      !(decide (0 < (P.pg k).own) && !(P.gs ((P.pg k).own - 1).toNat).live && (!(P.gs ((P.pg k).own - 1).toNat).dying || !decide ((P.pg k).wit = -2)))) := by
      simp only [PtD.pageR, ne_eq, decide_not, gt_iff_lt]
    have hbad : P.pageR k = false → P.mayR = false := fun h => by rw [hmay, hno _ _ k hlt h]; rfl
    have hcast : decide (k < 16) = decide ((k : Int) < 16) := by rw [decide_eq_decide]; omega
    have hhyp : P.hypR k = (decide ((k : Int) < 16) || decide (0 < P.tablesR (k : Int))) := by rw [PtD.hypR, hcast]
    have hwf := (hv.wf.pg k hlt).2
    generalize P.pg k = x at hrp hpr hwf
    refine run ?_
    intro X
    refine callE (fun wc hG => who_e _ wc) ?_
    refine runG ?_
    refine callEGG (fun h0 h1 wc hG => who_e x.wit wc) ?_
    refine runG ?_
    refine st_cond _ rfl (fun hc1 => ?_) (fun hc1 => ?_)
    · refine run ?_
      refine fin1 ?_
      rw [hbad (by rw [hpr, hc1]; rfl)]
    rw [hc1] at hpr
    refine runG ?_
    refine callEG (fun h1 wc hG => tablesR_e (hv.good hG) _ _ (by omega) (k : Int) ⟨by omega, by omega⟩) ?_
    refine runG ?_
    rw [← hhyp]
    refine st_cond _ rfl (fun hc2 => ?_) (fun hc2 => ?_)
    · refine run ?_
      refine fin1 ?_
      rw [hbad (by rw [hpr, hc2]; rfl)]
    rw [hc2] at hpr
    have hown : -1 ≤ x.own ∧ x.own ≤ 4 := by
      simp only [Bool.or_eq_false_iff, Bool.not_eq_false', PtD.who, Bool.and_eq_true, decide_eq_true_eq] at hc1
      exact hc1.1.1
    refine runG ?_
    refine callEG (fun h1 wc hG => guestR_e (hv.good hG) _ _ x.wit hwf) ?_
    refine runG ?_
    refine st_cond _ rfl (fun hc3 => ?_) (fun hc3 => ?_)
    · refine run ?_
      refine fin1 ?_
      rw [hbad (by rw [hpr, hc3]; rfl)]
    rw [hc3] at hpr
    cases hpos : decide (0 < x.own)
    · refine runG ?_
      simp only [hpos]
      refine runG ?_
      refine st_cond _ rfl (fun hc4 => absurd hc4 (by simp)) (fun hc4 => ?_)
      refine run ?_
      exact nextS (k + 1) ⟨by omega, hyes P.pageR k hall (by rw [hpr, hpos]; rfl)⟩
    · have hpos' : 0 < x.own := by simpa using hpos
      have hg0 := hv.gs0 (i := (x.own - 1).toNat) (by omega)
      have hg1 := hv.gs1 (i := (x.own - 1).toNat) (by omega)
      refine runG ?_
      refine st_cond _ rfl (fun hc4 => ?_) (fun hc4 => ?_)
      · refine run ?_
        refine fin1 ?_
        rw [hbad (by rw [hpr, hc4]; rfl)]
      · refine run ?_
        exact nextS (k + 1) ⟨by omega, hyes P.pageR k hall (by rw [hpr, hc4]; rfl)⟩
  have hge : k = P.pages.length := by simp at hc; omega
  subst hge
  rw [show allB P.pages.length P.pageR = true from allB_iff.2 hall, Bool.true_and] at hmay
  clear hall hm hk hc
  refine run ?_
  refine loopS (σ := Nat) (fun k => [(7, .int .i64 (k : Int))]) (fun s => [⟨B, #[L.pv P.pages.length, L.gv P.guests.length, L.ov P.on.length], 38⟩]) (fun k => k ≤ 4 ∧ ∀ j, j < k → P.oneR j = true) (fun k => 4 - k) 0 ⟨by omega, fun j hj => absurd hj (by omega)⟩ ?_
  rintro k m hm ⟨hk, hall⟩
  refine run ?_
  refine st_cond _ rfl (fun hc => ?_) (fun hc => ?_)
  · have hlt : k < 4 := by simp at hc; omega
    refine run ?_
    refine callE (fun wc hG => guestOne_e (hv.good hG) ⟨np0, np1, ng4, no0, no1⟩ k (by omega) ((k : Int) + 1) rfl) ?_
    refine run ?_
    refine st_cond _ rfl (fun hp => ?_) (fun hp => ?_)
    · refine run ?_
      refine fin1 ?_
      rw [hmay, hno 4 _ k hlt (by simpa using hp)]
      rfl
    · refine run ?_
      exact nextS (k + 1) ⟨by omega, hyes P.oneR k hall (by simpa using hp)⟩
  have hge : k = 4 := by simp at hc; omega
  subst hge
  rw [show allB 4 P.oneR = true from allB_iff.2 hall, Bool.true_and] at hmay
  clear hall hm hk hc
  refine run ?_
  refine loopS (σ := Nat) (fun k => [(8, .int .i64 (k : Int))]) (fun s => [⟨B, #[L.pv P.pages.length, L.gv P.guests.length, L.ov P.on.length], 38⟩]) (fun k => k ≤ P.on.length ∧ ∀ j, j < k → P.seatR j = true) (fun k => P.on.length - k) 0 ⟨by omega, fun j hj => absurd hj (by omega)⟩ ?_
  rintro k m hm ⟨hk, hall⟩
  refine run ?_
  refine st_cond _ rfl (fun hc => ?_) (fun hc => ?_)
  · have hlt : k < P.on.length := by simp at hc; omega
    have hrs := hv.st k hlt
    have hsr : P.seatR k = !((decide ((P.st k).vm = 0) && !decide ((P.st k).cpu = 0)) || (!decide ((P.st k).vm = 0) && (!P.guestR (P.st k).vm || decide ((P.st k).cpu < 0) || decide ((((P.gs ((P.st k).vm - 1).toNat).vcpus.length : Nat) : Int) ≤ (P.st k).cpu) || !decide ((P.gs ((P.st k).vm - 1).toNat).vcpus.getD (P.st k).cpu.toNat 0 = (k : Int))))) := by
      simp only [PtD.seatR, ne_eq, decide_not, ge_iff_le]
    have hbad : P.seatR k = false → P.mayR = false := fun h => by rw [hmay, hno _ _ k hlt h]
    obtain ⟨hwf, hwf2⟩ := hv.wf.st k hlt
    generalize P.st k = x at hrs hsr hwf hwf2
    refine run ?_
    intro X
    refine drawAll ?_
    refine runDG ?_
    cases h0 : decide (x.vm = 0)
    case true =>
      rw [h0] at hsr
      cases hz : decide (x.cpu = 0)
      · refine runDG ?_
        refine runG ?_
        refine st_cond _ rfl (fun hp => ?_) (fun hp => absurd hp (by simp))
        refine run ?_
        refine fin1 ?_
        rw [hbad (by rw [hsr, hz]; rfl)]
      · refine runDG ?_
        refine runG ?_
        refine st_cond _ rfl (fun hp => absurd hp (by simp)) (fun hp => ?_)
        refine run ?_
        exact nextS (k + 1) ⟨by omega, hyes P.seatR k hall (by rw [hsr, hz]; rfl)⟩
    rw [h0] at hsr
    refine callDGG (fun h0 h1 wc hG => guestR_e (hv.good hG) _ _ x.vm hwf) ?_
    cases hgu : P.guestR x.vm
    case false =>
      rw [hgu] at hsr
      refine runDG ?_
      refine runG ?_
      refine st_cond _ rfl (fun hp => ?_) (fun hp => absurd hp (by simp))
      refine run ?_
      refine fin1 ?_
      rw [hbad (by rw [hsr]; simp)]
    rw [hgu] at hsr
    have hgu' := hgu
    simp only [PtD.guestR, Bool.and_eq_true, decide_eq_true_eq] at hgu'
    have hi4 : (x.vm - 1).toNat < P.guests.length := by omega
    obtain ⟨q2, cap2, hvv, hne2, hle2⟩ := (hv.vc _ hi4).opened
    have hg3 := hv.gs3 hi4
    have hrow := hv.vc _ hi4
    rw [hvv] at hg3 hrow
    refine runDG ?_
    cases hlo : decide (x.cpu < 0)
    case true =>
      rw [hlo] at hsr
      refine runDG ?_
      refine runG ?_
      refine st_cond _ rfl (fun hp => ?_) (fun hp => absurd hp (by simp))
      refine run ?_
      refine fin1 ?_
      rw [hbad (by rw [hsr]; simp)]
    rw [hlo] at hsr
    refine runDG ?_
    cases hhi : decide ((((P.gs (x.vm - 1).toNat).vcpus.length : Nat) : Int) ≤ x.cpu)
    case true =>
      rw [hhi] at hsr
      refine runDG ?_
      refine runG ?_
      refine st_cond _ rfl (fun hp => ?_) (fun hp => absurd hp (by simp))
      refine run ?_
      refine fin1 ?_
      rw [hbad (by rw [hsr]; simp)]
    rw [hhi] at hsr
    simp only [decide_eq_false_iff_not] at hlo hhi
    obtain ⟨b2, o2, rfl⟩ := hne2 (by intro e; rw [e] at hhi; simp at hhi; omega)
    have hx := rangeAt_cell0 (hrow.row (k := x.cpu.toNat) (by omega))
    rw [Nat.mul_one, show (default : Int) = 0 from rfl] at hx
    refine runDG ?_
    refine runG ?_
    refine st_cond _ rfl (fun hp => ?_) (fun hp => ?_)
    · refine run ?_
      refine fin1 ?_
      rw [hbad (by rw [hsr]; simp at hp; simp [hp])]
    · refine run ?_
      exact nextS (k + 1) ⟨by omega, hyes P.seatR k hall (by rw [hsr]; simp at hp; simp [hp])⟩
  have hge : k = P.on.length := by simp at hc; omega
  subst hge
  rw [show allB P.on.length P.seatR = true from allB_iff.2 hall] at hmay
  refine run ?_
  refine fin1 ?_
  rw [hmay]
end Go.Proofs.YtiaelhhmlbfkmaaGreat

/- Layer 18 (part): are two partitions the same? -/
namespace Go.Proofs.YtiaelhhmlbfkmaaGreat
open Go.RowKit
set_option linter.unusedVariables false
set_option linter.unusedSimpArgs false
set_option maxRecDepth 20000
attribute [local irreducible] Hy St Ops DH DHF
theorem eqPages_e {w : World} (xs : List PgD) (u v : Value) (hu : SlAt w u 2 (xs.map pgV)) (hv : SlAt w v 2 (xs.map pgV)) : Fn Tryz.prog 36 [u, v].toArray w [] (fun r _ => r = .bool true) := by
  obtain ⟨q, cap, rfl, hne, hle⟩ := hu.opened
  obtain ⟨q2, cap2, rfl, hne2, _⟩ := hv.opened
  refine enter Tryz.func36 ?_
  refine run ?_
  refine st_cond _ rfl (fun hc => absurd hc (by simp)) (fun hc => ?_)
  refine run ?_
  refine loopS (σ := Nat) (fun k => [(5, .int .i64 (k : Int))]) (fun _ => []) (fun k => k ≤ xs.length) (fun k => xs.length - k) 0 (Nat.zero_le _) ?_
  rintro k m hm hk
  refine run ?_
  refine st_cond _ rfl (fun hc => ?_) (fun hc => ?_)
  · have hlt : k < xs.length := by simp at hc; omega
    obtain ⟨b, o, rfl⟩ := hne (by intro e; subst e; simp at hlt)
    obtain ⟨b2, o2, rfl⟩ := hne2 (by intro e; subst e; simp at hlt)
    have h1 := (hu.row hlt)
    have h2 := (hv.row hlt)
    simp only [pgV] at h1 h2
    refine run ?_
    refine drawAll ?_
    refine runD ?_
    refine run ?_
    refine st_cond _ rfl (fun hp => ?_) (fun hp => ?_)
    · simp [eqLeaves, eqLeaf] at hp
    · refine run ?_
      exact nextS (k + 1) hlt
  · refine run ?_
    exact fin1 rfl
theorem eqSeats_e {w : World} (xs : List StD) (u v : Value) (hu : SlAt w u 2 (xs.map stV)) (hv : SlAt w v 2 (xs.map stV)) : Fn Tryz.prog 38 [u, v].toArray w [] (fun r _ => r = .bool true) := by
  obtain ⟨q, cap, rfl, hne, hle⟩ := hu.opened
  obtain ⟨q2, cap2, rfl, hne2, _⟩ := hv.opened
  refine enter Tryz.func38 ?_
  refine run ?_
  refine st_cond _ rfl (fun hc => absurd hc (by simp)) (fun hc => ?_)
  refine run ?_
  refine loopS (σ := Nat) (fun k => [(5, .int .i64 (k : Int))]) (fun _ => []) (fun k => k ≤ xs.length) (fun k => xs.length - k) 0 (Nat.zero_le _) ?_
  rintro k m hm hk
  refine run ?_
  refine st_cond _ rfl (fun hc => ?_) (fun hc => ?_)
  · have hlt : k < xs.length := by simp at hc; omega
    obtain ⟨b, o, rfl⟩ := hne (by intro e; subst e; simp at hlt)
    obtain ⟨b2, o2, rfl⟩ := hne2 (by intro e; subst e; simp at hlt)
    have h1 := (hu.row hlt)
    have h2 := (hv.row hlt)
    simp only [stV] at h1 h2
    refine run ?_
    refine drawAll ?_
    refine runD ?_
    refine run ?_
    refine st_cond _ rfl (fun hp => ?_) (fun hp => ?_)
    · simp [eqLeaves, eqLeaf] at hp
    · refine run ?_
      exact nextS (k + 1) hlt
  · refine run ?_
    exact fin1 rfl
theorem eqMaps_e {w : World} (xs : List MpD) (u v : Value) (hu : SlAt w u 2 (xs.map mpV)) (hv : SlAt w v 2 (xs.map mpV)) : Fn Tryz.prog 155 [u, v].toArray w [] (fun r _ => r = .bool true) := by
  obtain ⟨q, cap, rfl, hne, hle⟩ := hu.opened
  obtain ⟨q2, cap2, rfl, hne2, _⟩ := hv.opened
  refine enter Tryz.func155 ?_
  refine run ?_
  refine st_cond _ rfl (fun hc => absurd hc (by simp)) (fun hc => ?_)
  refine run ?_
  refine loopS (σ := Nat) (fun k => [(5, .int .i64 (k : Int))]) (fun _ => []) (fun k => k ≤ xs.length) (fun k => xs.length - k) 0 (Nat.zero_le _) ?_
  rintro k m hm hk
  refine run ?_
  refine st_cond _ rfl (fun hc => ?_) (fun hc => ?_)
  · have hlt : k < xs.length := by simp at hc; omega
    obtain ⟨b, o, rfl⟩ := hne (by intro e; subst e; simp at hlt)
    obtain ⟨b2, o2, rfl⟩ := hne2 (by intro e; subst e; simp at hlt)
    have h1 := (hu.row hlt)
    have h2 := (hv.row hlt)
    simp only [mpV] at h1 h2
    refine run ?_
    refine drawAll ?_
    refine runD ?_
    refine run ?_
    refine st_cond _ rfl (fun hp => ?_) (fun hp => ?_)
    · simp [eqLeaves, eqLeaf] at hp
    · refine run ?_
      exact nextS (k + 1) hlt
  · refine run ?_
    exact fin1 rfl
theorem peqNumbers_e {w : World} (xs : List Int) (u v : Value) (hu : SlAt w u 1 (xs.map inV)) (hv : SlAt w v 1 (xs.map inV)) : Fn Tryz.prog 154 [u, v].toArray w [] (fun r _ => r = .bool true) := by
  obtain ⟨q, cap, rfl, hne, hle⟩ := hu.opened
  obtain ⟨q2, cap2, rfl, hne2, _⟩ := hv.opened
  refine enter Tryz.func154 ?_
  refine run ?_
  refine st_cond _ rfl (fun hc => absurd hc (by simp)) (fun hc => ?_)
  refine run ?_
  refine loopS (σ := Nat) (fun k => [(5, .int .i64 (k : Int))]) (fun _ => []) (fun k => k ≤ xs.length) (fun k => xs.length - k) 0 (Nat.zero_le _) ?_
  rintro k m hm hk
  refine run ?_
  refine st_cond _ rfl (fun hc => ?_) (fun hc => ?_)
  · have hlt : k < xs.length := by simp at hc; omega
    obtain ⟨b, o, rfl⟩ := hne (by intro e; subst e; simp at hlt)
    obtain ⟨b2, o2, rfl⟩ := hne2 (by intro e; subst e; simp at hlt)
    have h1 := rangeAt_cell0 (hu.row hlt)
    have h2 := rangeAt_cell0 (hv.row hlt)
    simp only [inV, Nat.mul_one] at h1 h2
    refine run ?_
    refine drawAll ?_
    refine runD ?_
    refine run ?_
    refine st_cond _ rfl (fun hp => ?_) (fun hp => ?_)
    · simp [eqLeaves, eqLeaf] at hp
    · refine run ?_
      exact nextS (k + 1) hlt
  · refine run ?_
    exact fin1 rfl
/-- What a guest's cells are. -/
abbrev gsV (g : GsD) (vv mv : Value) : List Value := [.bool g.live, .bool g.dying, .int .i64 g.first, vv, mv]
theorem eqGuest_e {w : World} (g g' : GsD) (e : g' = g) (a b c d : Value) (ha : SlAt w a 1 (g.vcpus.map inV)) (hb : SlAt w b 2 (g.maps.map mpV)) (hc : SlAt w c 1 (g.vcpus.map inV)) (hd : SlAt w d 2 (g.maps.map mpV)) :
    Fn Tryz.prog 73 [.agg #[.bool g.live, .bool g.dying, .int .i64 g.first, a, b], .agg #[.bool g'.live, .bool g'.dying, .int .i64 g'.first, c, d]].toArray w [] (fun r _ => r = .bool true) := by
  refine enter Tryz.func73 ?_
  refine run ?_
  intro B C
  refine runG ?_
  refine callEG (fun hg wc hG => peqNumbers_e _ _ _ (ha.good hG) (hc.good hG)) ?_
  refine runG ?_
  refine callEG (fun hg wc hG => eqMaps_e _ _ _ (hb.good hG) (hd.good hG)) ?_
  refine runG ?_
  refine fin1 ?_
  subst e
  simp
theorem eqGuests_e {w : World} {u v : Value} {P : PtD} (hl : P.guests.length ≤ 281474976710656) (vv mv vv' mv' : Nat → Value) (hu : SlAt w u 5 ((List.range P.guests.length).map fun i => [.bool (P.gs i).live, .bool (P.gs i).dying, .int .i64 (P.gs i).first, vv i, mv i])) (hu2 : ∀ i, i < P.guests.length → SlAt w (vv i) 1 ((P.gs i).vcpus.map inV) ∧ SlAt w (mv i) 2 ((P.gs i).maps.map mpV))
    (hv : SlAt w v 5 ((List.range P.guests.length).map fun i => [.bool (P.gs i).live, .bool (P.gs i).dying, .int .i64 (P.gs i).first, vv' i, mv' i])) (hv2 : ∀ i, i < P.guests.length → SlAt w (vv' i) 1 ((P.gs i).vcpus.map inV) ∧ SlAt w (mv' i) 2 ((P.gs i).maps.map mpV)) :
    Fn Tryz.prog 37 [u, v].toArray w [] (fun r _ => r = .bool true) := by
  obtain ⟨⟨q, cap, rfl, hne⟩, _⟩ := hu
  obtain ⟨⟨q2, cap2, rfl, hne2⟩, _⟩ := hv
  simp only [List.length_map, List.length_range]
  refine enter Tryz.func37 ?_
  refine run ?_
  refine st_cond _ rfl (fun hc => absurd hc (by simp)) (fun hc => ?_)
  refine run ?_
  refine loopS (σ := Nat) (fun k => [(5, .int .i64 (k : Int))]) (fun _ => []) (fun k => k ≤ P.guests.length) (fun k => P.guests.length - k) 0 (Nat.zero_le _) ?_
  rintro k m hm hk
  refine run ?_
  refine st_cond _ rfl (fun hc => ?_) (fun hc => ?_)
  · have hlt : k < P.guests.length := by simp at hc; omega
    have hnn : ∀ f : Nat → List Value, (List.range P.guests.length).map f ≠ [] := fun f e => by rw [List.map_eq_nil_iff, List.range_eq_nil] at e; omega
    obtain ⟨b, o, rfl, h1⟩ := hne (hnn _)
    obtain ⟨b2, o2, rfl, h2⟩ := hne2 (hnn _)
    have h1 := h1 k _ (getD_range_map _ hlt)
    have h2 := h2 k _ (getD_range_map _ hlt)
    obtain ⟨a1, a2⟩ := hu2 k hlt
    obtain ⟨a3, a4⟩ := hv2 k hlt
    refine run ?_
    refine drawAll ?_
    refine runD ?_
    refine callD (fun wc hG => eqGuest_e (P.gs k) (P.gs k) rfl _ _ _ _ (a1.good hG) (a2.good hG) (a3.good hG) (a4.good hG)) ?_
    refine runD ?_
    refine run ?_
    refine st_cond _ rfl (fun hp => absurd hp (by simp)) (fun hp => ?_)
    refine run ?_
    exact nextS (k + 1) hlt
  · refine run ?_
    exact fin1 rfl
theorem eqPart_e {w : World} {pv gv ov pv' gv' ov' : Value} {P : PtD} (h : PartG w pv gv ov P) (h' : PartG w pv' gv' ov' P) : Fn Tryz.prog 18 [.agg #[pv, gv, ov], .agg #[pv', gv', ov']].toArray w [] (fun r _ => r = .bool true) := by
  obtain ⟨a1, a2, a3⟩ := h.agg
  obtain ⟨b1, b2, b3⟩ := h'.agg
  obtain ⟨p1, ⟨vv, mv, g1, g2⟩, o1, wf⟩ := h
  obtain ⟨p1', ⟨vv', mv', g1', g2'⟩, o1', _⟩ := h'
  obtain ⟨p, pc, rfl, _⟩ := p1.opened
  obtain ⟨o, oc, rfl, _⟩ := o1.opened
  obtain ⟨g, gc, rfl, hl⟩ : ∃ g gc, gv = .slice g P.guests.length gc ∧ P.guests.length ≤ 281474976710656 := by
    obtain ⟨⟨g, gc, e, _⟩, hl⟩ := g1
    simp only [List.length_map, List.length_range] at e hl
    exact ⟨g, gc, e, hl⟩
  refine enter Tryz.func18 ?_
  refine run ?_
  intro B C
  refine run ?_
  refine callE (fun wc hG => eqPages_e _ _ _ (p1.good hG) (p1'.good hG)) ?_
  refine runG ?_
  refine callEG (fun hg wc hG => eqGuests_e hl _ _ _ _ (g1.good hG) (fun i hi => ⟨(g2 i hi).1.good hG, (g2 i hi).2.good hG⟩) (g1'.good hG) (fun i hi => ⟨(g2' i hi).1.good hG, (g2' i hi).2.good hG⟩)) ?_
  refine runG ?_
  refine callEG (fun hg wc hG => eqSeats_e _ _ _ (o1.good hG) (o1'.good hG)) ?_
  refine runG ?_
  refine fin1 ?_
  rfl
end Go.Proofs.YtiaelhhmlbfkmaaGreat

/- Layer 18 (part): how much a partition is; the reference's first one. -/
namespace Go.Proofs.YtiaelhhmlbfkmaaGreat
open Go.RowKit
set_option linter.unusedVariables false
set_option linter.unusedSimpArgs false
set_option maxRecDepth 20000
attribute [local irreducible] Hy St Ops DH DHF
/-- It is small. -/
structure PtD.Small (P : PtD) (n : Nat) : Prop where
  pg : P.pages.length ≤ n
  gs : P.guests.length ≤ n
  on : P.on.length ≤ n
  vc : ∀ i, i < P.guests.length → (P.gs i).vcpus.length ≤ n ∧ (P.gs i).maps.length ≤ n
section
variable {w : World} {pv gv ov : Value} {P : PtD}
end
end Go.Proofs.YtiaelhhmlbfkmaaGreat

/- Layer 18 (part): the reference's first partition. -/
namespace Go.Proofs.YtiaelhhmlbfkmaaGreat
open Go.RowKit
set_option linter.unusedVariables false
set_option linter.unusedSimpArgs false
set_option maxRecDepth 20000
attribute [local irreducible] Hy St Ops DH DHF
end Go.Proofs.YtiaelhhmlbfkmaaGreat

/- Layer 18 (part): wakes. -/
namespace Go.Proofs.YtiaelhhmlbfkmaaGreat
open Go.RowKit
set_option linter.unusedVariables false
set_option linter.unusedSimpArgs false
set_option maxRecDepth 20000
attribute [local irreducible] Hy St Ops DH DHF
/-- Three slices. -/
theorem PartG.slices {w : World} {pv gv ov : Value} {P : PtD} (h : PartG w pv gv ov P) : ∃ p pc g gc o oc, pv = .slice p P.pages.length pc ∧ gv = .slice g P.guests.length gc ∧ ov = .slice o P.on.length oc ∧ P.pages.length ≤ 281474976710656 ∧ P.guests.length ≤ 281474976710656 ∧ P.on.length ≤ 281474976710656 := by
  obtain ⟨p1, ⟨vv, mv, ⟨⟨g, gc, e2, hg⟩, hl⟩, g2⟩, o1, wf⟩ := h
  obtain ⟨p, pc, rfl, _, hl1⟩ := p1.opened
  obtain ⟨o, oc, rfl, _, hl2⟩ := o1.opened
  simp only [List.length_map, List.length_range] at e2 hl
  exact ⟨p, pc, g, gc, o, oc, rfl, e2, rfl, hl1, hl, hl2⟩
theorem ofBoot : pofL (bootL 24 1) 0 = (8, 8, 0) := by kernel_rfl
end Go.Proofs.YtiaelhhmlbfkmaaGreat
