/- Layer 18 (part): the small functions. -/
import Derived.Test.YtjnndchkblnkgaaRun
import Derived.Test.YtjnndchkblnkgaaLay1
import Derived.Lib.Overlaps
import Derived.Lib.AppendZerosOnto
import Derived.Lib.SliceRun
namespace Go.Proofs.Ytjnndchkblnkgaa
open Go.RowKit
set_option linter.unusedVariables false
set_option linter.unusedSimpArgs false
set_option maxRecDepth 20000
attribute [local irreducible] Hy St Ops DH DHF
theorem between_e (n a b : Int) (w : World) : Fn Try.prog 22 [.int .i64 n, .int .i64 a, .int .i64 b].toArray w [] (fun u _ => u = .bool (PtD.btw n a b)) := by
  refine enter Try.func22 ?_
  refine runG ?_
  exact fin1 rfl
theorem free_e (w : World) : Fn Try.prog 28 [].toArray w [] (fun u _ => u = .agg #[.int .i64 0, .int .i64 (-2)]) := by
  refine enter (args := []) Try.func28 ?_
  refine runG ?_
  intro B
  exact finA rfl
theorem ours_e (w : World) : Fn Try.prog 29 [].toArray w [] (fun u _ => u = .agg #[.int .i64 (-1), .int .i64 (-2)]) := by
  refine enter (args := []) Try.func29 ?_
  refine runG ?_
  intro B
  exact finA rfl
/-- The first place where p holds; -1: none. -/
def idxI {α : Type} (p : α → Bool) (xs : List α) : Int := match PtD.idx p xs 0 with | some i => (i : Int) | none => -1
theorem idx_nope {α : Type} [Inhabited α] {p : α → Bool} {l : List α} (h : ∀ j, j < l.length → p (l.getD j default) = false) : PtD.idx p l 0 = none := by
  cases e : PtD.idx p l 0 with
  | none => rfl
  | some k =>
    obtain ⟨_, h2, h3, _⟩ := PtD.idx_some e
    simp only [Nat.sub_zero] at h2 h3
    rw [h k h2] at h3; cases h3
theorem idxI_at {α : Type} [Inhabited α] {p : α → Bool} {l : List α} {k : Nat} (hk : k < l.length) (h : p (l.getD k default) = true) (hn : ∀ j, j < k → p (l.getD j default) = false) : idxI p l = k := by
  unfold idxI
  rw [(PtD.idx_at hk h).2 hn]
theorem idxI_none {α : Type} [Inhabited α] {p : α → Bool} {l : List α} (h : ∀ j, j < l.length → p (l.getD j default) = false) : idxI p l = -1 := by
  unfold idxI
  rw [idx_nope h]
theorem idxI_ge {α : Type} [Inhabited α] {p : α → Bool} {l : List α} : decide (0 ≤ idxI p l) = l.any p := by
  rw [← PtD.idx_any]
  unfold idxI
  cases PtD.idx p l 0 <;> simp
/-- A world behind another one, in which nothing has turned. -/
def Aft (w w' : World) : Prop := ∃ hp, Good w [] hp w'
theorem SlAt.row {w : World} {α : Type} [Inhabited α] {f : α → List Value} {xs : List α} {b o cap sz n : Nat} (h : SlAt w (.slice (some ⟨b, o, none⟩) n cap) sz (xs.map f)) {k : Nat} (hk : k < xs.length) : w.rangeAt b (o + k * sz) (f (xs.getD k default)) := by
  obtain ⟨⟨p, cap, e, hp⟩, hl⟩ := h
  cases e
  obtain ⟨b, off, e, hr⟩ := hp (by intro e; rw [List.map_eq_nil_iff] at e; subst e; simp at hk)
  cases e
  refine hr k _ ?_
  rw [List.getElem?_map, List.getD_eq_getElem?_getD, List.getElem?_eq_getElem hk]
  rfl
/-- A slice is nil, or somewhere. -/
theorem SlAt.opened {w : World} {α : Type} {f : α → List Value} {xs : List α} {v : Value} {sz : Nat} (h : SlAt w v sz (xs.map f)) : ∃ p cap, v = .slice p xs.length cap ∧ (xs ≠ [] → ∃ b o, p = some ⟨b, o, none⟩) ∧ xs.length ≤ 281474976710656 := by
  obtain ⟨⟨p, cap, rfl, hp⟩, hl⟩ := h
  rw [List.length_map] at *
  refine ⟨p, cap, rfl, fun hne => ?_, hl⟩
  obtain ⟨b, o, rfl, _⟩ := hp (by simpa using hne)
  exact ⟨b, o, rfl⟩
section
variable {w : World} {bp : Nat} {L : PtL} {P : PtD}
theorem guest_e (h : PartQ w bp L P) (i : Nat) (hi : i < P.guests.length) (n : Int) (hn : n = (i : Int) + 1) : Fn Try.prog 51 [.pointer (some ⟨bp, 0, none⟩), .int .i64 n].toArray w [] (fun u _ => u = .pointer (some ⟨L.gb, L.go + i * 5, none⟩)) := by
  have hg := h.cg
  have h4 := h.n.g4
  refine enter Try.func51 ?_
  refine runG ?_
  refine fin1 ?_
  rw [show (n - 1).toNat = i by omega]
theorem uses_e (h : PartQ w bp L P) (f : Nat) (hf : f < P.pages.length) (who : Int) : Fn Try.prog 27 [.pointer (some ⟨bp, 0, none⟩), .int .i64 who, .int .i64 f].toArray w [] (fun u _ => u = .bool (P.uses who f)) := by
  have hp := h.cp
  have h0 := h.v.pg0 hf
  have h1 := h.v.pg1 hf
  refine enter Try.func27 ?_
  refine runG ?_
  exact fin1 rfl
end
end Go.Proofs.Ytjnndchkblnkgaa

/- Library: the search functions of slices. -/
namespace Go.Proofs.Ytjnndchkblnkgaa
open Go.RowKit
set_option linter.unusedVariables false
set_option linter.unusedSimpArgs false
set_option maxRecDepth 20000
attribute [local irreducible] Hy St Ops DH DHF

theorem indexPage_e {w : World} {F : Nat} {us : List Value} (p : PgD → Bool) (xs : List PgD) (v : Value) (h : SlAt w v 2 (xs.map pgV)) (hF : ∀ x, ∀ w', Aft w w' → Fn Try.prog F ([] ++ [Value.agg #[.int .i64 x.own, .int .i64 x.wit]] ++ us).toArray w' [] (fun u _ => u = .bool (p x))) (hcal : mem calN F = true := by rfl) :
    Fn Try.prog 84 [v, .func (.func F) [].toArray us.toArray].toArray w [] (fun u _ => u = .int .i64 (idxI p xs)) := by
  obtain ⟨q, cap, rfl, hne, hle⟩ := h.opened
  refine enter Try.func84 ?_
  refine run ?_
  refine loopS (σ := Nat) (fun k => [(8, .int .i64 (k : Int))]) (fun _ => []) (fun k => k ≤ xs.length ∧ ∀ j, j < k → p (xs.getD j default) = false) (fun k => xs.length - k) 0 ⟨Nat.zero_le _, fun j hj => absurd hj (by omega)⟩ ?_
  rintro k m rfl ⟨hk, hno⟩
  refine run ?_
  refine st_cond _ rfl (fun hc => ?_) (fun hc => ?_)
  · have hlt : k < xs.length := by simpa using hc
    obtain ⟨b, o, rfl⟩ := hne (by intro e; subst e; simp at hlt)
    have hr := h.row hlt
    simp only [pgV] at hr
    refine run ?_
    refine callF (fun wc hG => hF (xs.getD k default) wc ⟨_, hG⟩) (hcal := hcal) ?_
    refine run ?_
    refine st_cond _ rfl (fun hp => ?_) (fun hp => ?_)
    · refine run ?_
      refine fin1 ?_
      rw [idxI_at hlt hp hno]
    · refine run ?_
      refine nextS (k + 1) ⟨hlt, fun j hj => ?_⟩
      rcases Nat.lt_succ_iff_lt_or_eq.1 hj with hj | rfl
      · exact hno j hj
      · exact hp
  · have hge : k = xs.length := by simp at hc; omega
    subst hge
    refine run ?_
    refine fin1 ?_
    rw [idxI_none hno]
theorem containsPage_e {w : World} {F : Nat} {us : List Value} (p : PgD → Bool) (xs : List PgD) (v : Value) (h : SlAt w v 2 (xs.map pgV)) (hF : ∀ x, ∀ w', Aft w w' → Fn Try.prog F ([] ++ [Value.agg #[.int .i64 x.own, .int .i64 x.wit]] ++ us).toArray w' [] (fun u _ => u = .bool (p x))) (hcal : mem calN F = true := by rfl) :
    Fn Try.prog 68 [v, .func (.func F) [].toArray us.toArray].toArray w [] (fun u _ => u = .bool (xs.any p)) := by
  refine enter Try.func68 ?_
  refine run ?_
  refine callE (fun wc hG => indexPage_e p xs v (h.good hG) (fun x w' ha => hF x w' ?_) hcal) ?_
  · obtain ⟨hp, hg⟩ := ha
    exact ⟨_, hG.trans hg⟩
  refine run ?_
  refine fin1 ?_
  rw [← idxI_ge]

theorem indexInt_e {w : World} (a : Int) (xs : List Int) (v : Value) (h : SlAt w v 1 (xs.map inV)) :
    Fn Try.prog 74 [v, .int .i64 a].toArray w [] (fun u _ => u = .int .i64 (idxI (fun t => decide (t = a)) xs)) := by
  obtain ⟨q, cap, rfl, hne, hle⟩ := h.opened
  refine enter Try.func74 ?_
  refine run ?_
  refine loopS (σ := Nat) (fun k => [(8, .int .i64 (k : Int))]) (fun _ => []) (fun k => k ≤ xs.length ∧ ∀ j, j < k → decide (xs.getD j default = a) = false) (fun k => xs.length - k) 0 ⟨Nat.zero_le _, fun j hj => absurd hj (by omega)⟩ ?_
  rintro k m rfl ⟨hk, hno⟩
  refine run ?_
  refine st_cond _ rfl (fun hc => ?_) (fun hc => ?_)
  · have hlt : k < xs.length := by simpa using hc
    obtain ⟨b, o, rfl⟩ := hne (by intro e; subst e; simp at hlt)
    have hr := rangeAt_cell0 (h.row hlt)
    have hr1 := hr
    simp only [Nat.mul_one] at hr1
    refine run ?_
    refine st_cond _ rfl (fun hp => ?_) (fun hp => ?_)
    · refine run ?_
      refine fin1 ?_
      rw [idxI_at hlt (by simpa [eq_comm] using hp) hno]
    · refine run ?_
      refine nextS (k + 1) ⟨hlt, fun j hj => ?_⟩
      rcases Nat.lt_succ_iff_lt_or_eq.1 hj with hj | rfl
      · exact hno j hj
      · simpa [eq_comm] using hp
  · have hge : k = xs.length := by simp at hc; omega
    subst hge
    refine run ?_
    refine fin1 ?_
    rw [idxI_none hno]
theorem containsInt_e {w : World} (a : Int) (xs : List Int) (v : Value) (h : SlAt w v 1 (xs.map inV)) :
    Fn Try.prog 53 [v, .int .i64 a].toArray w [] (fun u _ => u = .bool (xs.any fun t => decide (t = a))) := by
  refine enter Try.func53 ?_
  refine run ?_
  refine callE (fun wc hG => indexInt_e a xs v (h.good hG)) ?_
  refine run ?_
  refine fin1 ?_
  rw [← idxI_ge]
end Go.Proofs.Ytjnndchkblnkgaa

/- Layer 18 (part): what the program asks of a partition. -/
namespace Go.Proofs.Ytjnndchkblnkgaa
open Go.RowKit
set_option linter.unusedVariables false
set_option linter.unusedSimpArgs false
set_option maxRecDepth 20000
attribute [local irreducible] Hy St Ops DH DHF
section
variable {w : World} {bp : Nat} {L : PtL} {P : PtD}
theorem owns1_e (x : PgD) (who : Int) (B : Nat) (w : World) (hB : w.cell? ⟨B, 0, none⟩ = some (.int .i64 who)) : Fn Try.prog 83 [.agg #[.int .i64 x.own, .int .i64 x.wit], .pointer (some ⟨B, 0, none⟩)].toArray w [] (fun u _ => u = .bool (decide (x.own = who))) := by
  refine enter Try.func83 ?_
  refine run ?_
  intro b
  exact fin1 rfl
theorem PartV.pages_at (h : PartV w L P) (hp : 0 < P.pages.length) (hle : P.pages.length ≤ 281474976710656) : SlAt w (L.pv P.pages.length) 2 (P.pages.map pgV) := by
  refine ⟨⟨_, L.pc, by rw [List.length_map], fun _ => ⟨L.pb, L.po, rfl, fun i c hc => ?_⟩⟩, by rw [List.length_map]; exact hle⟩
  rw [List.getElem?_map] at hc
  cases hx : P.pages[i]? with
  | none => rw [hx] at hc; cases hc
  | some x =>
    rw [hx] at hc
    simp only [Option.map_some, Option.some.injEq] at hc
    have hi : i < P.pages.length := (List.getElem?_eq_some_iff.1 hx).1
    have := h.pg i hi
    rw [show P.pg i = x by unfold PtD.pg; rw [List.getD_eq_getElem?_getD, hx]; rfl] at this
    rw [← hc]; exact this
theorem owns_e (h : PartQ w bp L P) (who : Int) : Fn Try.prog 65 [.pointer (some ⟨bp, 0, none⟩), .int .i64 who].toArray w [] (fun u _ => u = .bool (P.owns who)) := by
  have hp := h.cp
  have h0 := h.n.p0
  have h1 := h.n.p1
  refine enter Try.func65 ?_
  refine run ?_
  intro B
  refine callE (fun wc hG => containsPage_e (us := [.pointer (some ⟨B, 0, none⟩)]) (fun x => decide (x.own = who)) P.pages _ ((h.v.good hG).pages_at (by omega) (by omega)) (fun x w' ha => owns1_e x who B w' ?_)) ?_
  · obtain ⟨hp, hg⟩ := ha
    exact hg.cell (by rw [cell_of_block (hG.here _ mh)]; rfl) (by simp)
  refine run ?_
  exact fin1 rfl
theorem lives_e (h : PartQ w bp L P) (n : Int) : Fn Try.prog 75 [.pointer (some ⟨bp, 0, none⟩), .int .i64 n].toArray w [] (fun u _ => u = .bool (P.lives n)) := by
  have h4 := h.n.g4
  refine enter Try.func75 ?_
  refine run ?_
  refine callE (fun wc hG => between_e _ _ _ wc) ?_
  cases hb : PtD.btw n 1 4
  · refine runG ?_
    refine fin1 ?_
    simp [PtD.lives, hb]
  · have hb' := hb
    simp only [PtD.btw, Bool.and_eq_true, decide_eq_true_eq] at hb'
    have hg0 := h.v.gs0 (i := (n - 1).toNat) (by omega)
    refine runG ?_
    refine callEG (fun hg wc hG => guest_e (h.good hG) (n - 1).toNat (by omega) n (by omega)) ?_
    refine runG ?_
    refine fin1 ?_
    simp [PtD.lives, hb]
theorem tables_e (b o : Nat) (f : Int) (hf : -9223372036854775000 ≤ f) (hf' : f ≤ 9223372036854775000) (w : World) (hc : w.cell? ⟨b, o + 2, none⟩ = some (.int .i64 f)) : Fn Try.prog 52 [.pointer (some ⟨b, o, none⟩)].toArray w [] (fun u hp => Acc 3 1 u hp ([f, f + 1, f + 2, f + 3, f + 4].map inV)) := by
  refine enter Try.func52 ?_
  refine run ?_
  refine loopS (σ := Nat × Value × Hp) (fun s => [(3, s.2.1), (5, .int .i64 (s.1 : Int))]) (fun s => s.2.2) (fun s => s.1 ≤ 5 ∧ Acc 3 1 s.2.1 s.2.2 ((List.range s.1).map fun (i : Nat) => inV (f + (i : Int)))) (fun s => 5 - s.1) (0, _, []) ⟨by omega, Acc.nil _ _⟩ ?_
  rintro ⟨k, v, ha⟩ m hm ⟨hk, hA⟩
  dsimp only at hm hk hA ⊢
  refine run ?_
  refine st_cond _ rfl (fun hc => ?_) (fun hc => ?_)
  · have hlt : k < 5 := by simp at hc; omega
    refine run ?_
    intro T
    refine appendA (c := inV (f + (k : Int))) hA (fun v' ha' hA' => ?_) (by simp; omega) (news_own (m := 1) mh rfl)
    refine run ?_
    refine nextS (k + 1, v', ha') ⟨by omega, ?_⟩
    rw [List.range_succ, List.map_append]
    exact hA'
  · have : k = 5 := by simp at hc; omega
    subst this
    refine run ?_
    refine fin1 ?_
    simpa [List.range_succ] using hA
theorem paged_e (h : PartQ w bp L P) (f : Nat) (hf : f < P.pages.length) (ts : List Int) (tv : Value) (ht : SlAt w tv 1 (ts.map inV)) : Fn Try.prog 54 [.pointer (some ⟨bp, 0, none⟩), .int .i64 f, tv].toArray w [] (fun u _ => u = .bool (P.paged ts f)) := by
  have hp := h.cp
  have hr := h.v.pg f hf
  have hcast : decide (f < 16) = decide ((f : Int) < 16) := by rw [decide_eq_decide]; omega
  refine enter Try.func54 ?_
  refine runG ?_
  intro b1
  refine st_cond _ rfl (fun hc => ?_) (fun hc => ?_)
  · refine run ?_
    refine drawN 12 ?_
    refine runDG ?_
    refine callD (fun wc hG => ours_e wc) ?_
    refine runDG ?_
    refine callDGG (fun h0 h1 wc hG => containsInt_e (f : Int) ts tv (ht.good hG)) ?_
    refine runDG ?_
    refine runG ?_
    refine fin1 ?_
    simp [PtD.paged, hcast, hc, eqLeaves, eqLeaf]
  · refine run ?_
    refine st_cond _ rfl (fun hc2 => ?_) (fun hc2 => ?_)
    · refine runG ?_
      refine callEG (fun h1 wc hG => lives_e (h.good hG) (P.pg f).wit) ?_
      refine runG ?_
      refine fin1 ?_
      simp only [decide_eq_true_eq] at hc2
      rw [PtD.paged, hcast, hc]
      simp [hc2]
    · simp only [decide_eq_false_iff_not] at hc2
      refine runG ?_
      refine callE (fun wc hG => between_e _ _ _ wc) ?_
      refine runG ?_
      refine st_cond _ rfl (fun hc3 => ?_) (fun hc3 => ?_)
      · refine runG ?_
        refine callEGG (fun h0 h1 wc hG => lives_e (h.good hG) (P.pg f).own) ?_
        refine runG ?_
        refine fin1 ?_
        simp [PtD.paged, hcast, hc, hc2, hc3]
      · refine runG ?_
        refine fin1 ?_
        simp [PtD.paged, hcast, hc, hc2, hc3]
theorem seated_e (h : PartQ w bp L P) (c : Nat) (hc : c < P.on.length) : Fn Try.prog 55 [.pointer (some ⟨bp, 0, none⟩), .int .i64 c].toArray w [] (fun u _ => u = .bool (P.seated c)) := by
  have hp := h.co
  have hr := h.v.st c hc
  refine enter Try.func55 ?_
  refine runG ?_
  intro b1
  refine st_cond _ rfl (fun hc0 => ?_) (fun hc0 => ?_)
  · refine run ?_
    refine fin1 ?_
    rw [PtD.seated, hc0]; rfl
  refine run ?_
  refine drawN 33 ?_
  refine runDG ?_
  refine callD (fun wc hG => lives_e (h.good hG) _) ?_
  cases hl : P.lives (P.st c).vm
  · refine runDG ?_
    refine runG ?_
    refine fin1 ?_
    simp [PtD.seated, hc0, hl]
  have hl' := hl
  simp only [PtD.lives, PtD.btw, Bool.and_eq_true, decide_eq_true_eq] at hl'
  obtain ⟨i, hi⟩ : ∃ i, i = ((P.st c).vm - 1).toNat := ⟨_, rfl⟩
  have hi4 : i < P.guests.length := by have := h.n.g4; omega
  have hvm : (P.st c).vm = (i : Int) + 1 := by omega
  obtain ⟨q, cap, hvv, hne, hle⟩ := (h.v.vc i hi4).opened
  have hg3 := h.v.gs3 hi4
  rw [hvv] at hg3
  refine runDG ?_
  refine callDG (fun h1 wc hG => guest_e (h.good hG) i hi4 _ hvm) ?_
  refine runDG ?_
  refine callDG (fun h1 wc hG => between_e _ _ _ wc) ?_
  cases hb : PtD.btw (P.st c).cpu 0 ((P.gs i).vcpus.length - 1)
  · refine runDG ?_
    refine runG ?_
    refine fin1 ?_
    simp [PtD.seated, hc0, hl, ← hi, hb]
  have hb' := hb
  simp only [PtD.btw, Bool.and_eq_true, decide_eq_true_eq] at hb'
  obtain ⟨b, o, rfl⟩ := hne (by intro e; rw [e] at hb'; simp at hb'; omega)
  have hv := h.v.vc i hi4
  rw [hvv] at hv
  have hx := rangeAt_cell0 (hv.row (k := (P.st c).cpu.toNat) (by omega))
  rw [Nat.mul_one] at hx
  refine runDG ?_
  refine callDG (fun h1 wc hG => guest_e (h.good hG) i hi4 _ hvm) ?_
  refine runDG ?_
  refine runG ?_
  refine fin1 ?_
  simp [PtD.seated, hc0, hl, ← hi, hb]
theorem made_one {α : Type} (f : α → Value) (x : α) (n : Nat) : madeCells #[f x] (n * 1) = ((List.replicate n x).map f).toArray := by
  apply Array.ext
  · simp [madeCells]
  · intro i h1 h2
    simp [madeCells, Nat.mod_one]
theorem hprev_of {w : World} {l : List MpD} {b o cap : Nat} (h : SlAt w (.slice (some ⟨b, o, none⟩) l.length cap) 2 (l.map mpV)) {k : Nat} (hk : k < l.length) (h0 : 0 < k) : w.cell? ⟨b, o + ((k : Int) - 1).toNat * 2, none⟩ = some (.int .i64 (l.getD (k - 1) default).mid) := by
  rw [show ((k : Int) - 1).toNat = k - 1 by omega]
  exact rangeAt_cell0 (h.row (k := k - 1) (by omega))
theorem mapped_e (h : PartQ w bp L P) (i : Nat) (hi : i < P.guests.length) (n : Int) (hn : n = (i : Int) + 1) : Fn Try.prog 73 [.pointer (some ⟨bp, 0, none⟩), .int .i64 n].toArray w [] (fun u _ => u = .bool (P.mapped i)) := by
  have hp := h.cp
  have hp1 := h.n.p1
  obtain ⟨q, cap, hmv, hne, hle⟩ := (h.v.mp i hi).opened
  have hg4 := h.v.gs4 hi
  rw [hmv] at hg4
  have hrow := h.v.mp i hi
  rw [hmv] at hrow
  refine enter Try.func73 ?_
  refine run ?_
  refine callE (fun wc hG => guest_e (h.good hG) i hi n hn) ?_
  refine run ?_
  refine make (m := P.pages.length) (fun b => ?_) (by omega)
  rw [show madeCells (Value.cells (.bool false)) (P.pages.length * 1) = ((List.replicate P.pages.length false).map Value.bool).toArray from made_one _ _ _]
  refine run ?_
  refine loopS (σ := Nat × List Bool) (fun s => [(26, .int .i64 (s.1 : Int))]) (fun s => [⟨b, (s.2.map Value.bool).toArray, 4⟩]) (fun s => s.1 ≤ (P.gs i).maps.length ∧ s.2.length = P.pages.length ∧ (∀ j, j < s.1 → PtD.mapAt (P.gs i).maps P.pages.length j = true) ∧ ∀ f, f < P.pages.length → s.2.getD f false = ((P.gs i).maps.take s.1).any fun x => decide (x.frm = (f : Int))) (fun s => (P.gs i).maps.length - s.1) (0, List.replicate P.pages.length false) ⟨by simp, by simp, fun j hj => absurd hj (by simp), fun f hf => by simp [hf]⟩ ?_
  rintro ⟨k, bs⟩ m hm ⟨hk, hbs, hall, hseen⟩
  dsimp only at hm hk hbs hall hseen ⊢
  refine run ?_
  refine st_cond _ rfl (fun hc => ?_) (fun hc => ?_)
  · have hlt : k < (P.gs i).maps.length := by simp at hc; omega
    obtain ⟨b2, o2, rfl⟩ := hne (by intro e; rw [e] at hlt; simp at hlt)
    have hr := hrow.row hlt
    simp only [mpV] at hr
    have hno : PtD.mapAt (P.gs i).maps P.pages.length k = false → P.mapped i = false := fun h => by
      unfold PtD.mapped
      rw [show allB (P.gs i).maps.length (PtD.mapAt (P.gs i).maps P.pages.length) = false by
        rw [← Bool.not_eq_true, allB_iff]; intro ha; rw [ha k hlt] at h; cases h]
      rfl
    have hmd : PtD.mapAt (P.gs i).maps P.pages.length k = (PtD.btw ((P.gs i).maps.getD k default).mid 0 15 && (decide (k = 0) || decide (((P.gs i).maps.getD (k - 1) default).mid < ((P.gs i).maps.getD k default).mid)) && PtD.btw ((P.gs i).maps.getD k default).frm 0 ((P.pages.length : Int) - 1) && !(((P.gs i).maps.take k).any fun x => decide (x.frm = ((P.gs i).maps.getD k default).frm))) := rfl
    generalize hxd : (P.gs i).maps.getD k default = x at hr hmd
    have hxk : x = (P.gs i).maps[k] := by rw [← hxd, List.getD_eq_getElem?_getD, List.getElem?_eq_getElem hlt]; rfl
    clear hxd
    refine run ?_
    intro X
    refine drawAll ?_
    refine runDG ?_
    refine callD (fun wc hG => between_e _ _ _ wc) ?_
    cases hb1 : PtD.btw x.mid 0 15
    · refine runDG ?_
      refine runG ?_
      refine st_cond _ rfl (fun hc => ?_) (fun hc => absurd hc (by simp))
      refine run ?_
      refine fin1 ?_
      rw [hno (by rw [hmd, hb1]; rfl)]
    rw [hb1] at hmd
    have hload : PtD.btw x.frm 0 ((P.pages.length : Int) - 1) = true → nth (List.map Value.bool bs).toArray.toList x.frm.toNat = some (.bool (((P.gs i).maps.take k).any fun y => decide (y.frm = x.frm))) := fun hb => by
      simp only [PtD.btw, Bool.and_eq_true, decide_eq_true_eq] at hb
      have := hseen x.frm.toNat (by omega)
      rw [show ((x.frm.toNat : Nat) : Int) = x.frm by omega] at this
      rw [← this, nth_eq]
      have hl : x.frm.toNat < bs.length := by omega
      simp [List.getElem?_eq_getElem hl]
    have hjA : PtD.mapAt (P.gs i).maps P.pages.length k = true → ∀ j, j < k + 1 → PtD.mapAt (P.gs i).maps P.pages.length j = true := fun h j hj => by
      rcases Nat.lt_succ_iff_lt_or_eq.1 hj with hj | rfl
      · exact hall j hj
      · exact h
    have hjB : 0 ≤ x.frm → ∀ f, f < P.pages.length → (bs.set x.frm.toNat true).getD f false = ((P.gs i).maps.take (k + 1)).any fun y => decide (y.frm = (f : Int)) := fun h0 f hf => by
      rw [List.take_succ_eq_append_getElem hlt, List.any_append, ← hseen f hf, List.getD_eq_getElem?_getD, List.getElem?_set, ← hxk]
      by_cases e : x.frm.toNat = f
      · simp [e, show x.frm = (f : Int) by omega, hbs, hf]
      · simp [e, show ¬ x.frm = (f : Int) by omega]
    rcases Nat.eq_zero_or_pos k with hk0 | hk0
    · have hk0' : decide (0 < (k : Int)) = false := by simp; omega
      refine runDG ?_
      simp only [hk0']
      refine runDG ?_
      refine callDG (fun h1 wc hG => between_e _ _ _ wc) ?_
      cases hb2 : PtD.btw x.frm 0 ((P.pages.length : Int) - 1)
      · refine runDG ?_
        refine runG ?_
        refine st_cond _ rfl (fun hc => ?_) (fun hc => absurd hc (by simp))
        refine run ?_
        refine fin1 ?_
        rw [hno (by rw [hmd, hb2]; simp)]
      have hb2' := hb2
      simp only [PtD.btw, Bool.and_eq_true, decide_eq_true_eq] at hb2'
      have hs := hload hb2
      refine runDG ?_
      refine runG ?_
      refine st_cond _ rfl (fun hc => ?_) (fun hc => ?_)
      · refine run ?_
        refine fin1 ?_
        rw [hno (by rw [hmd]; simp at hc; simp [hc])]
      · refine run ?_
        rw [← List.map_set]
        refine nextS (k + 1, bs.set x.frm.toNat true) ⟨by omega, by simpa using hbs, hjA (by rw [hmd, hb2, show decide (k = 0) = true by simpa using hk0]; simp at hc; simpa using hc), hjB (by omega)⟩
    have hprev := hprev_of hrow hlt hk0
    have hk0' : decide (0 < (k : Int)) = true := by simp; omega
    refine runDG ?_
    simp only [hk0']
    cases hc2 : decide (x.mid ≤ ((P.gs i).maps.getD (k - 1) default).mid)
    · refine callDG (fun h1 wc hG => between_e _ _ _ wc) ?_
      cases hb2 : PtD.btw x.frm 0 ((P.pages.length : Int) - 1)
      · refine runDG ?_
        refine runG ?_
        refine st_cond _ rfl (fun hc => ?_) (fun hc => absurd hc (by simp))
        refine run ?_
        refine fin1 ?_
        rw [hno (by rw [hmd, hb2]; simp)]
      have hb2' := hb2
      simp only [PtD.btw, Bool.and_eq_true, decide_eq_true_eq] at hb2'
      have hs := hload hb2
      refine runDG ?_
      refine runG ?_
      refine st_cond _ rfl (fun hc => ?_) (fun hc => ?_)
      · refine run ?_
        refine fin1 ?_
        rw [hno (by rw [hmd]; simp at hc; simp [hc])]
      · refine run ?_
        rw [← List.map_set]
        refine nextS (k + 1, bs.set x.frm.toNat true) ⟨by omega, by simpa using hbs, hjA (by rw [hmd, hb2, show decide (((P.gs i).maps.getD (k - 1) default).mid < x.mid) = true by simp at hc2 ⊢; omega]; simp at hc; simpa using hc), hjB (by omega)⟩
    · refine runDG ?_
      refine runG ?_
      refine st_cond _ rfl (fun hc => ?_) (fun hc => absurd hc (by simp))
      refine run ?_
      refine fin1 ?_
      rw [hno (by rw [hmd, show decide (((P.gs i).maps.getD (k - 1) default).mid < x.mid) = false by simp at hc2 ⊢; omega, show decide (k = 0) = false by simp; omega]; simp)]
  · have hge : k = (P.gs i).maps.length := by simp at hc; omega
    subst hge
    rw [List.take_length] at hseen
    have hmaps : P.mapped i = allB P.pages.length fun f => (bs.getD f false) == P.uses ((i : Int) + 1) f := by
      unfold PtD.mapped
      rw [show allB (P.gs i).maps.length (PtD.mapAt (P.gs i).maps P.pages.length) = true from allB_iff.2 hall, Bool.true_and]
      rw [Bool.eq_iff_iff, allB_iff, allB_iff]
      exact ⟨fun h f hf => by rw [hseen f hf]; exact h f hf, fun h f hf => by rw [← hseen f hf]; exact h f hf⟩
    refine run ?_
    refine loopS (σ := Nat) (fun k => [(76, .int .i64 (k : Int))]) (fun _ => [⟨b, (bs.map Value.bool).toArray, 4⟩]) (fun k => k ≤ P.pages.length ∧ ∀ j, j < k → (bs.getD j false == P.uses ((i : Int) + 1) j) = true) (fun k => P.pages.length - k) 0 ⟨by omega, fun j hj => absurd hj (by omega)⟩ ?_
    rintro k m2 hm2 ⟨hk2, hall2⟩
    refine run ?_
    refine st_cond _ rfl (fun hc => ?_) (fun hc => ?_)
    · have hlt : k < P.pages.length := by simp at hc; omega
      have hs : nth (List.map Value.bool bs).toArray.toList k = some (.bool (bs.getD k false)) := by
        rw [nth_eq]
        have hl : k < bs.length := by omega
        simp [List.getElem?_eq_getElem hl]
      refine run ?_
      refine callE (fun wc hG => uses_e (h.good hG) k hlt n) ?_
      refine run ?_
      rw [hn]
      refine st_cond _ rfl (fun hc3 => ?_) (fun hc3 => ?_)
      · refine run ?_
        refine fin1 ?_
        rw [hmaps, show (allB P.pages.length fun f => (bs.getD f false) == P.uses ((i : Int) + 1) f) = false by
          rw [← Bool.not_eq_true, allB_iff]; intro ha; have := ha k hlt; rw [beq_iff_eq] at this; rw [this] at hc3; simp at hc3]
      · refine run ?_
        refine nextS (k + 1) ⟨by omega, fun j hj => ?_⟩
        rcases Nat.lt_succ_iff_lt_or_eq.1 hj with hj | rfl
        · exact hall2 j hj
        · simpa [bne] using hc3
    · have hge : k = P.pages.length := by simp at hc; omega
      subst hge
      refine run ?_
      refine fin1 ?_
      rw [hmaps, allB_iff.2 hall2]
end
end Go.Proofs.Ytjnndchkblnkgaa

/- Layer 18 (part): what the program asks of a partition: a guest, all. -/
namespace Go.Proofs.Ytjnndchkblnkgaa
open Go.RowKit
set_option linter.unusedVariables false
set_option linter.unusedSimpArgs false
set_option maxRecDepth 20000
attribute [local irreducible] Hy St Ops DH DHF
section
variable {w : World} {bp : Nat} {L : PtL} {P : PtD}
theorem guested_e (h : PartQ w bp L P) (i : Nat) (hi : i < P.guests.length) (n : Int) (hn : n = (i : Int) + 1) : Fn Try.prog 50 [.pointer (some ⟨bp, 0, none⟩), .int .i64 n].toArray w [] (fun u _ => u = .bool (P.guested i)) := by
  have hp := h.cp
  have ho := h.co
  have hp0 := h.n.p0
  have hp1 := h.n.p1
  have ho1 := h.n.o1
  obtain ⟨q, cap, hmv, hne, hle⟩ := (h.v.mp i hi).opened
  obtain ⟨q2, cap2, hvv, hne2, hle2⟩ := (h.v.vc i hi).opened
  obtain ⟨⟨hf0, hf1⟩, _, _⟩ := h.v.wf.gs i hi
  have hg0 := h.v.gs0 hi
  have hg1 := h.v.gs1 hi
  have hg2 := h.v.gs2 hi
  have hg3 := h.v.gs3 hi
  have hg4 := h.v.gs4 hi
  rw [hmv] at hg4
  rw [hvv] at hg3
  have hrow := h.v.vc i hi
  rw [hvv] at hrow
  refine enter Try.func50 ?_
  refine run ?_
  refine callE (fun wc hG => guest_e (h.good hG) i hi n hn) ?_
  refine run ?_
  refine st_cond _ rfl (fun hl => ?_) (fun hl => ?_)
  · simp only [Bool.not_eq_true'] at hl
    refine run ?_
    refine drawN 34 ?_
    refine runDG ?_
    refine callDG (fun h1 wc hG => owns_e (h.good hG) n) ?_
    refine runDG ?_
    refine runG ?_
    refine fin1 ?_
    rw [hn]
    simp only [PtD.guested, hl, cond_false]
    by_cases hf : (P.gs i).first = 0
    · have hw : IntKind.i64.wrap ((((P.gs i).vcpus.length : Nat) : Int) + (((P.gs i).maps.length : Nat) : Int) + 0) = (((P.gs i).vcpus.length : Nat) : Int) + (((P.gs i).maps.length : Nat) : Int) + 0 := wrap_in (by omega) (by omega)
      rw [hf, hw]
      have e : decide ((((P.gs i).vcpus.length : Nat) : Int) + (((P.gs i).maps.length : Nat) : Int) + 0 = 0) = (decide ((P.gs i).vcpus.length = 0) && decide ((P.gs i).maps.length = 0)) := by
        rw [Bool.eq_iff_iff]; simp only [Bool.and_eq_true, decide_eq_true_eq]; omega
      rw [e]
    · simp [hf]
  · simp only [Bool.not_eq_false'] at hl
    refine run ?_
    refine drawAll ?_
    refine runDG ?_
    refine callDG (fun h1 wc hG => between_e _ _ _ wc) ?_
    refine runDG ?_
    refine callDG (fun h1 wc hG => mapped_e (h.good hG) i hi n hn) ?_
    refine runDG ?_
    refine runG ?_
    have hgd : P.guested i = (!(P.gs i).dying && PtD.btw (P.gs i).first 16 ((P.pages.length : Int) - 5) && decide ((P.gs i).vcpus.length ≤ 2) && P.mapped i && allB 5 (fun k => decide ((P.pg ((P.gs i).first.toNat + k)).own = -1) && decide ((P.pg ((P.gs i).first.toNat + k)).wit = -2)) && allB (P.gs i).vcpus.length (P.vcpuAt i)) := by simp only [PtD.guested, hl, cond_true]
    refine st_cond _ rfl (fun hc => ?_) (fun hc => ?_)
    · refine run ?_
      refine fin1 ?_
      rw [hgd]
      have e : decide ((P.gs i).vcpus.length ≤ 2) = !decide ((2 : Int) < ((P.gs i).vcpus.length : Nat)) := by rw [Bool.eq_iff_iff]; simp; omega
      rw [e]
      revert hc
      cases (P.gs i).dying <;> cases PtD.btw (P.gs i).first 16 ((P.pages.length : Int) - 5) <;> cases decide ((2 : Int) < ((P.gs i).vcpus.length : Nat)) <;> cases P.mapped i <;> simp
    simp only [Bool.or_eq_false_iff, Bool.not_eq_false', decide_eq_false_iff_not] at hc
    obtain ⟨⟨⟨hdy, hbt⟩, hv2⟩, hmp⟩ := hc
    have hbt' := hbt
    simp only [PtD.btw, Bool.and_eq_true, decide_eq_true_eq] at hbt'
    rw [hdy, hbt, hmp, show decide ((P.gs i).vcpus.length ≤ 2) = true by simp; omega] at hgd
    simp only [Bool.not_false, Bool.true_and] at hgd
    refine run ?_
    refine callB (fun wc hG => tables_e _ _ (P.gs i).first (by omega) (by omega) wc (hG.cell hg2 (by simp))) (fun v hn hA => ?_)
    obtain ⟨T, tc, cur, rfl, rfl, hcur⟩ := hA.open (by simp)
    simp only [List.cons_append, List.nil_append, List.length_map, List.length_cons, List.length_nil, Nat.zero_add, Nat.reduceAdd]
    refine run ?_
    refine loopS (σ := Nat) (fun k => [(88, .int .i64 (k : Int))]) (fun _ => [⟨T, cur, 3⟩]) (fun k => k ≤ 5 ∧ ∀ j, j < k → (decide ((P.pg ((P.gs i).first.toNat + j)).own = -1) && decide ((P.pg ((P.gs i).first.toNat + j)).wit = -2)) = true) (fun k => 5 - k) 0 ⟨by omega, fun j hj => absurd hj (by omega)⟩ ?_
    rintro k m hm ⟨hk, hall⟩
    refine run ?_
    refine st_cond _ rfl (fun hc => ?_) (fun hc => ?_)
    · have hlt : k < 5 := by simp at hc; omega
      have hx : nth cur.toList k = some (.int .i64 ((P.gs i).first + (k : Int))) := by
        have h1 : ([(P.gs i).first, (P.gs i).first + 1, (P.gs i).first + 2, (P.gs i).first + 3, (P.gs i).first + 4].map inV)[k]? = some (inV ((P.gs i).first + (k : Int))) := by
          have : k = 0 ∨ k = 1 ∨ k = 2 ∨ k = 3 ∨ k = 4 := by omega
          rcases this with rfl | rfl | rfl | rfl | rfl <;> simp
        have := nth_of_row (k := 0) (hcur k _ h1) rfl
        simpa using this
      have hr := h.v.pg ((P.gs i).first.toNat + k) (by omega)
      rw [show (P.gs i).first.toNat + k = ((P.gs i).first + (k : Int)).toNat by omega] at hr
      refine run ?_
      refine drawAll ?_
      refine runD ?_
      refine callD (fun wc hG => ours_e wc) ?_
      refine runD ?_
      refine run ?_
      rw [show ((P.gs i).first + (k : Int)).toNat = (P.gs i).first.toNat + k by omega]
      refine st_cond _ rfl (fun hc => ?_) (fun hc => ?_)
      · refine run ?_
        refine fin1 ?_
        rw [hgd]
        rw [show allB 5 (fun k => decide ((P.pg ((P.gs i).first.toNat + k)).own = -1) && decide ((P.pg ((P.gs i).first.toNat + k)).wit = -2)) = false by
          rw [← Bool.not_eq_true, allB_iff]; intro ha; have := ha k hlt; simp [eqLeaves, eqLeaf] at hc this; simp [this] at hc]
        rfl
      · refine run ?_
        refine nextS (k + 1) ⟨by omega, fun j hj => ?_⟩
        rcases Nat.lt_succ_iff_lt_or_eq.1 hj with hj | rfl
        · exact hall j hj
        · simpa [eqLeaves, eqLeaf] using hc
    · have hge : k = 5 := by simp at hc; omega
      subst hge
      rw [show allB 5 (fun k => decide ((P.pg ((P.gs i).first.toNat + k)).own = -1) && decide ((P.pg ((P.gs i).first.toNat + k)).wit = -2)) = true from allB_iff.2 hall, Bool.true_and] at hgd
      refine run ?_
      refine loopS (σ := Nat) (fun k => [(108, .int .i64 (k : Int))]) (fun _ => []) (fun k => k ≤ (P.gs i).vcpus.length ∧ ∀ j, j < k → P.vcpuAt i j = true) (fun k => (P.gs i).vcpus.length - k) 0 ⟨by omega, fun j hj => absurd hj (by omega)⟩ ?_
      rintro k m hm ⟨hk, hall2⟩
      refine run ?_
      refine st_cond _ rfl (fun hc => ?_) (fun hc => ?_)
      · have hlt : k < (P.gs i).vcpus.length := by simp at hc; omega
        obtain ⟨b2, o2, rfl⟩ := hne2 (by intro e; rw [e] at hlt; simp at hlt)
        have hx := rangeAt_cell0 (hrow.row hlt)
        rw [Nat.mul_one] at hx
        have hva : P.vcpuAt i k = (decide ((P.gs i).vcpus.getD k 0 = -1) || (PtD.btw ((P.gs i).vcpus.getD k 0) 0 ((P.on.length : Int) - 1) && (decide ((P.st ((P.gs i).vcpus.getD k 0).toNat).vm = (i : Int) + 1) && decide ((P.st ((P.gs i).vcpus.getD k 0).toNat).cpu = (k : Int))))) := rfl
        rw [show (default : Int) = 0 from rfl] at hx
        generalize (P.gs i).vcpus.getD k 0 = x at hx hva
        have hno : P.vcpuAt i k = false → P.guested i = false := fun h => by
          rw [hgd, ← Bool.not_eq_true, allB_iff]; intro ha; rw [ha k hlt] at h; cases h
        have hyes : P.vcpuAt i k = true → ∀ j, j < k + 1 → P.vcpuAt i j = true := fun h j hj => by
          rcases Nat.lt_succ_iff_lt_or_eq.1 hj with hj | rfl
          · exact hall2 j hj
          · exact h
        refine run ?_
        cases hd : decide (x = -1)
        · refine runG ?_
          refine callEG (fun h1 wc hG => between_e _ _ _ wc) ?_
          cases hb : PtD.btw x 0 ((P.on.length : Int) - 1)
          · refine runG ?_
            refine st_cond _ rfl (fun hc => ?_) (fun hc => absurd hc (by simp))
            refine run ?_
            refine fin1 ?_
            rw [hno (by rw [hva, hd, hb]; rfl)]
          · have hb' := hb
            simp only [PtD.btw, Bool.and_eq_true, decide_eq_true_eq] at hb'
            have hr := h.v.st x.toNat (by omega)
            refine runG ?_
            refine st_cond _ rfl (fun hc => ?_) (fun hc => ?_)
            · refine run ?_
              refine fin1 ?_
              rw [hno (by rw [hva, hd, hb]; rw [hn] at hc; simp [eqLeaves, eqLeaf] at hc; simp; intro h1 h2; rcases hc with hc | hc <;> contradiction)]
            · refine run ?_
              refine nextS (k + 1) ⟨by omega, hyes (by rw [hva, hd, hb]; rw [hn] at hc; simpa [eqLeaves, eqLeaf] using hc)⟩
        · refine runG ?_
          refine st_cond _ rfl (fun hc => absurd hc (by simp)) (fun hc => ?_)
          refine run ?_
          refine nextS (k + 1) ⟨by omega, hyes (by rw [hva, hd]; rfl)⟩
      · have hge : k = (P.gs i).vcpus.length := by simp at hc; omega
        subst hge
        rw [allB_iff.2 hall2] at hgd
        refine run ?_
        refine fin1 ?_
        rw [hgd]
end
end Go.Proofs.Ytjnndchkblnkgaa

/- Layer 18 (part): whether a partition may be. -/
namespace Go.Proofs.Ytjnndchkblnkgaa
open Go.RowKit
set_option linter.unusedVariables false
set_option linter.unusedSimpArgs false
set_option maxRecDepth 20000
attribute [local irreducible] Hy St Ops DH DHF
/-- A partition by its three slices. -/
structure PartG (w : World) (pv gv ov : Value) (P : PtD) : Prop where
  pages : SlAt w pv 2 (P.pages.map pgV)
  guests : ∃ vv mv : Nat → Value, SlAt w gv 5 ((List.range P.guests.length).map fun i => [.bool (P.gs i).live, .bool (P.gs i).dying, .int .i64 (P.gs i).first, vv i, mv i]) ∧ ∀ i, i < P.guests.length → SlAt w (vv i) 1 ((P.gs i).vcpus.map inV) ∧ SlAt w (mv i) 2 ((P.gs i).maps.map mpV)
  on : SlAt w ov 2 (P.on.map stV)
  wf : P.Wf
theorem PartG.good {w w' : World} {hp : Hp} {pv gv ov : Value} {P : PtD} (h : PartG w pv gv ov P) (hG : Good w [] hp w') : PartG w' pv gv ov P := by
  obtain ⟨h1, ⟨vv, mv, h2, h3⟩, h4, h5⟩ := h
  exact ⟨h1.good hG, ⟨vv, mv, h2.good hG, fun i hi => ⟨(h3 i hi).1.good hG, (h3 i hi).2.good hG⟩⟩, h4.good hG, h5⟩
theorem getD_range_map {α : Type} [Inhabited α] (f : Nat → α) {n i : Nat} (hi : i < n) : ((List.range n).map f)[i]? = some (f i) := by simp [hi]
theorem PartG.open {w : World} {pv gv ov : Value} {P : PtD} (h : PartG w pv gv ov P) (hn : P.Len) : ∃ L : PtL, pv = L.pv P.pages.length ∧ gv = L.gv P.guests.length ∧ ov = L.ov P.on.length ∧ PartV w L P := by
  obtain ⟨⟨⟨p, pc, e1, hp⟩, _⟩, ⟨vv, mv, ⟨⟨g, gc, e2, hg⟩, _⟩, h3⟩, ⟨⟨o, oc, e4, ho⟩, _⟩, h5⟩ := h
  obtain ⟨a, b, c, d, e⟩ := hn
  obtain ⟨pb, po, rfl, hp2⟩ := hp (by intro h; rw [List.map_eq_nil_iff] at h; rw [h] at a; simp at a)
  obtain ⟨gb, go, rfl, hg2⟩ := hg (by intro h; rw [List.map_eq_nil_iff, List.range_eq_nil] at h; omega)
  obtain ⟨ob, oo, rfl, ho2⟩ := ho (by intro h; rw [List.map_eq_nil_iff] at h; rw [h] at d; simp at d)
  simp only [List.length_map, List.length_range] at e1 e2 e4
  refine ⟨⟨pb, po, pc, gb, go, gc, ob, oo, oc, vv, mv⟩, e1, e2, e4, ⟨fun i hi => ?_, fun i hi => ?_, fun i hi => (h3 i hi).1, fun i hi => (h3 i hi).2, fun i hi => ?_, h5⟩⟩
  · refine hp2 i _ ?_
    rw [List.getElem?_map, PtD.pg, List.getD_eq_getElem?_getD, List.getElem?_eq_getElem hi]; rfl
  · exact hg2 i _ (getD_range_map _ hi)
  · refine ho2 i _ ?_
    rw [List.getElem?_map, PtD.st, List.getD_eq_getElem?_getD, List.getElem?_eq_getElem hi]; rfl
theorem HpLe.of_perm {r : Hp} : ∀ {h h' : Hp}, h.Perm h' → HpLe r h → HpLe r h' := by
  cases r with
  | nil => intros; trivial
  | cons e r =>
    rintro h h' hp ⟨x, h1, h2⟩
    exact ⟨x, h1.trans hp, h2⟩
theorem rows_get {f : Int} {k : Nat} (hlt : k < 5) : ([f, f + 1, f + 2, f + 3, f + 4].map inV)[k]? = some (inV (f + (k : Int))) := by
  have : k = 0 ∨ k = 1 ∨ k = 2 ∨ k = 3 ∨ k = 4 := by omega
  rcases this with rfl | rfl | rfl | rfl | rfl <;> simp
theorem may_e {w : World} {pv gv ov : Value} {P : PtD} {bp : Nat} (h : PartG w pv gv ov P) (c0 : w.cell? ⟨bp, 0, none⟩ = some pv) (c1 : w.cell? ⟨bp, 1, none⟩ = some gv) (c2 : w.cell? ⟨bp, 2, none⟩ = some ov) :
    Fn Try.prog 26 [.pointer (some ⟨bp, 0, none⟩)].toArray w [] (fun u _ => u = .bool P.may) := by
  obtain ⟨p, pc, e1, _, hle1⟩ := h.pages.opened
  obtain ⟨o, oc, e3, _, hle3⟩ := h.on.opened
  obtain ⟨g, gc, e2, hle2⟩ : ∃ g gc, gv = .slice g P.guests.length gc ∧ P.guests.length ≤ 281474976710656 := by
    obtain ⟨vv, mv, ⟨⟨g, gc, e, _⟩, hl⟩, _⟩ := h.guests
    simp only [List.length_map, List.length_range] at e hl
    exact ⟨g, gc, e, hl⟩
  have c0' := c0
  have c1' := c1
  have c2' := c2
  rw [e1] at c0'
  rw [e2] at c1'
  rw [e3] at c2'
  refine enter Try.func26 ?_
  refine run ?_
  refine callE (fun wc hG => between_e _ _ _ wc) ?_
  refine runG ?_
  refine callEG (fun h1 wc hG => between_e _ _ _ wc) ?_
  refine runG ?_
  have hlen : (!(PtD.btw (P.pages.length : Int) 24 64) || !decide ((P.guests.length : Int) = 4) || !(PtD.btw (P.on.length : Int) 1 3)) = false → P.Len := fun h => by
    simp only [Bool.or_eq_false_iff, Bool.not_eq_false', PtD.btw, Bool.and_eq_true, decide_eq_true_eq] at h
    exact ⟨by omega, by omega, by omega, by omega, by omega⟩
  refine st_cond _ rfl (fun hc => ?_) (fun hc => ?_)
  · refine run ?_
    refine fin1 ?_
    have : P.may = false := by
      rw [← Bool.not_eq_true]
      intro hm
      simp only [PtD.may, Bool.and_eq_true, decide_eq_true_eq] at hm
      obtain ⟨⟨⟨⟨⟨a, b⟩, c, d⟩, _⟩, _⟩, _⟩ := hm
      simp only [PtD.btw, Bool.or_eq_true, Bool.not_eq_true', Bool.and_eq_false_iff, decide_eq_false_iff_not, Bool.not_not] at hc
      omega
    rw [this]
  have hn := hlen (by simpa using hc)
  obtain ⟨L, rfl, rfl, rfl, hv⟩ := h.open hn
  have hQ : PartQ w bp L P := ⟨hv, hn, c0, c1, c2⟩
  cases e1
  cases e2
  cases e3
  have hmay : P.may = (allB 4 P.round && allB P.pages.length (P.paged (P.taken 4)) && allB P.on.length P.seated) := by
    obtain ⟨a, b, c, d, e⟩ := hn
    simp only [PtD.may, a, b, c, d, e, decide_true, Bool.and_self, Bool.true_and]
  have h4 := hn.g4
  refine run ?_
  refine loopS (σ := Nat × Value × Hp) (fun s => [(3, s.2.1), (37, .int .i64 (s.1 : Int))]) (fun s => s.2.2) (fun s => s.1 ≤ 5 ∧ (∀ j, j < s.1 - 1 → P.round j = true) ∧ Acc 3 1 s.2.1 s.2.2 ((P.taken (s.1 - 1)).map inV)) (fun s => 5 - s.1) (0, _, []) ⟨by omega, fun j hj => absurd hj (by omega), Acc.nil _ _⟩ ?_
  rintro ⟨k, tv, ha⟩ m hm ⟨hk, hall, hA⟩
  dsimp only at hm hk hall hA ⊢
  refine run ?_
  refine st_cond _ rfl (fun hc => ?_) (fun hc => ?_)
  · have hlt : k < 5 := by simp at hc; omega
    refine run ?_
    refine st_cond _ rfl (fun hc => ?_) (fun hc => ?_)
    · have hk0 : k = 0 := by simp at hc; omega
      subst hk0
      refine run ?_
      refine nextS (1, tv, ha) ⟨by omega, fun j hj => absurd hj (by simp), hA⟩
    have hk0 : 0 < k := by simp at hc; omega
    obtain ⟨i, rfl⟩ : ∃ i, k = i + 1 := ⟨k - 1, by omega⟩
    rw [Nat.add_sub_cancel] at hall hA
    have hno : P.round i = false → allB 4 P.round = false := fun h => by
      rw [← Bool.not_eq_true, allB_iff]; intro ha; rw [ha i (by omega)] at h; cases h
    have hyes : P.round i = true → ∀ j, j < i + 1 → P.round j = true := fun h j hj => by
      rcases Nat.lt_succ_iff_lt_or_eq.1 hj with hj | rfl
      · exact hall j hj
      · exact h
    refine run ?_
    refine callE (fun wc hG => guested_e (hQ.good hG) i (by omega) ((i + 1 : Nat) : Int) (by omega)) ?_
    refine run ?_
    refine st_cond _ rfl (fun hc => ?_) (fun hc => ?_)
    · refine run ?_
      refine fin1 ?_
      simp only [Bool.not_eq_true'] at hc
      rw [hmay, hno (by rw [PtD.round, hc]; rfl)]
      rfl
    simp only [Bool.not_eq_false'] at hc
    have hg0 := hv.gs0 (i := i) (by omega)
    refine run ?_
    refine callE (fun wc hG => guest_e (hQ.good hG) i (by omega) ((i + 1 : Nat) : Int) (by omega)) ?_
    refine run ?_
    refine st_cond _ rfl (fun hl => ?_) (fun hl => ?_)
    · have hf : 16 ≤ (P.gs i).first ∧ (P.gs i).first ≤ (P.pages.length : Int) - 5 := by
        have := hc
        simp only [PtD.guested, hl, cond_true, PtD.btw, Bool.and_eq_true, decide_eq_true_eq] at this
        exact this.1.1.1.1.2
      have hp1 := hn.p1
      have hrow : P.rows i = [(P.gs i).first, (P.gs i).first + 1, (P.gs i).first + 2, (P.gs i).first + 3, (P.gs i).first + 4] := by rw [PtD.rows, hl]; rfl
      have hrd : P.round i = allB 5 fun k => !((P.taken i).any fun t => decide (t = (P.gs i).first + (k : Int))) := by rw [PtD.round, hc, hl]; rfl
      refine run ?_
      refine callB (fun wc hG => tables_e _ _ (P.gs i).first (by omega) (by omega) wc (hG.cell (hv.gs2 (i := i) (by omega)) (by simp))) (fun v hn hA2 => ?_)
      obtain ⟨T, tc, cur, rfl, rfl, hcur⟩ := hA2.open (by simp)
      simp only [List.cons_append, List.nil_append, List.length_map, List.length_cons, List.length_nil, Nat.zero_add, Nat.reduceAdd]
      refine run ?_
      refine loopS (σ := Nat × Value × Hp) (fun s => [(3, s.2.1), (56, .int .i64 (s.1 : Int))]) (fun s => ⟨T, cur, 3⟩ :: s.2.2) (fun s => s.1 ≤ 5 ∧ (∀ j, j < s.1 → ((P.taken i).any fun t => decide (t = (P.gs i).first + (j : Int))) = false) ∧ Acc 3 1 s.2.1 s.2.2 ((P.taken i ++ (List.range s.1).map fun (j : Nat) => (P.gs i).first + (j : Int)).map inV)) (fun s => 5 - s.1) (0, tv, ha) ⟨by omega, fun j hj => absurd hj (by simp), by simpa using hA⟩ ?_
      rintro ⟨k2, tv2, ha2⟩ m2 hm2 ⟨hk2, hall2, hA3⟩
      dsimp only at hm2 hk2 hall2 hA3 ⊢
      have hlen3 : ((P.taken i ++ (List.range k2).map fun (j : Nat) => (P.gs i).first + (j : Int)).map inV).length ≤ 1000 := by
        have hl : ∀ m, m ≤ 4 → (P.taken m).length ≤ m * 5 := by
          intro m
          induction m with
          | zero => intro _; simp [PtD.taken]
          | succ m ih =>
            intro hm
            have := ih (by omega)
            rw [PtD.taken, List.range_succ, List.flatMap_append, List.length_append]
            have e : (List.flatMap P.rows [m]).length ≤ 5 := by
              simp only [List.flatMap_cons, List.flatMap_nil, List.append_nil, PtD.rows]
              cases (P.gs m).live <;> simp
            unfold PtD.taken at this
            omega
        have := hl i (by omega)
        simp only [List.length_map, List.length_append, List.length_range]
        omega
      refine run ?_
      refine st_cond _ rfl (fun hc => ?_) (fun hc => ?_)
      · have hlt2 : k2 < 5 := by simp at hc; omega
        have hx : nth cur.toList k2 = some (.int .i64 ((P.gs i).first + (k2 : Int))) := by
          have := nth_of_row (k := 0) (hcur k2 _ (rows_get hlt2)) rfl
          simpa using this
        refine run ?_
        refine callE (fun wc hG => containsInt_e ((P.gs i).first + (k2 : Int)) _ tv2 (hA3.slAt hG (fun b hb => List.mem_cons_of_mem _ hb) (by omega))) ?_
        refine run ?_
        have hany : ((P.taken i ++ (List.range k2).map fun (j : Nat) => (P.gs i).first + (j : Int)).any fun t => decide (t = (P.gs i).first + (k2 : Int))) = (P.taken i).any fun t => decide (t = (P.gs i).first + (k2 : Int)) := by
          rw [List.any_append]
          have : ((List.range k2).map fun (j : Nat) => (P.gs i).first + (j : Int)).any (fun t => decide (t = (P.gs i).first + (k2 : Int))) = false := by
            rw [List.any_eq_false]
            intro x hx
            obtain ⟨j, hj, rfl⟩ := List.mem_map.1 hx
            have := List.mem_range.1 hj
            simp
            omega
          rw [this, Bool.or_false]
        rw [hany]
        refine st_cond _ rfl (fun hc => ?_) (fun hc => ?_)
        · refine run ?_
          refine fin1 ?_
          rw [hmay, hno (by rw [hrd, ← Bool.not_eq_true, allB_iff]; intro h; have := h k2 hlt2; rw [hc] at this; cases this)]
          rfl
        · refine run ?_
          intro X
          refine appendA (c := inV ((P.gs i).first + (k2 : Int))) hA3 (fun v' ha' hA' => ?_) (by omega) (news_own (m := 1) mh rfl) (hperm := List.perm_append_comm (l₂ := [_, _]))
          refine run ?_
          refine nextS (k2 + 1, v', ha') ⟨by omega, fun j hj => ?_, ?_⟩ (h2 := HpLe.of_perm (List.perm_append_comm (l₁ := [_, _])) ⟨_, p1, HpLe.skip (HpLe.refl _)⟩)
          · rcases Nat.lt_succ_iff_lt_or_eq.1 hj with hj | rfl
            · exact hall2 j hj
            · exact hc
          · simpa [List.range_succ] using hA'
      · have hk5 : k2 = 5 := by simp at hc; omega
        subst hk5
        refine run ?_
        refine nextS (i + 2, tv2, ha2) ⟨by omega, hyes (by rw [hrd, allB_iff]; intro j hj; rw [hall2 j hj]; rfl), ?_⟩
        have : P.taken (i + 2 - 1) = P.taken i ++ (List.range 5).map fun (j : Nat) => (P.gs i).first + (j : Int) := by
          show P.taken (i + 1) = _
          rw [PtD.taken, List.range_succ, List.flatMap_append]
          simp [hrow, PtD.taken, List.range_succ]
        rw [this]; exact hA3
    · refine run ?_
      refine nextS (i + 2, tv, ha) ⟨by omega, hyes (by rw [PtD.round, hc, hl]; rfl), ?_⟩
      have : P.taken (i + 2 - 1) = P.taken i := by
        show P.taken (i + 1) = _
        rw [PtD.taken, List.range_succ, List.flatMap_append]
        simp [PtD.rows, hl, PtD.taken]
      rw [this]; exact hA
  · have hk5 : k = 5 := by simp at hc; omega
    subst hk5
    rw [show allB 4 P.round = true from allB_iff.2 hall, Bool.true_and] at hmay
    have hlA : ((P.taken (5 - 1)).map inV).length ≤ 281474976710656 := by
      rw [List.length_map]
      have hl : ∀ m, (P.taken m).length ≤ m * 5 := by
        intro m
        induction m with
        | zero => simp [PtD.taken]
        | succ m ih =>
          rw [PtD.taken, List.range_succ, List.flatMap_append, List.length_append]
          have e : (List.flatMap P.rows [m]).length ≤ 5 := by
            simp only [List.flatMap_cons, List.flatMap_nil, List.append_nil, PtD.rows]
            cases (P.gs m).live <;> simp
          unfold PtD.taken at ih
          omega
      have := hl (5 - 1)
      omega
    refine run ?_
    refine loopS (σ := Nat) (fun k => [(75, .int .i64 (k : Int))]) (fun _ => ha) (fun k => k ≤ P.pages.length ∧ ∀ j, j < k → P.paged (P.taken 4) j = true) (fun k => P.pages.length - k) 0 ⟨by omega, fun j hj => absurd hj (by omega)⟩ ?_
    rintro k m2 hm2 ⟨hk2, hall2⟩
    refine run ?_
    refine st_cond _ rfl (fun hc => ?_) (fun hc => ?_)
    · have hlt : k < P.pages.length := by simp at hc; omega
      refine run ?_
      refine callE (fun wc hG => paged_e (hQ.good hG) k hlt (P.taken 4) tv (hA.slAt hG (fun b hb => hb) hlA)) ?_
      refine run ?_
      refine st_cond _ rfl (fun hc3 => ?_) (fun hc3 => ?_)
      · refine run ?_
        refine fin1 ?_
        rw [hmay, show allB P.pages.length (P.paged (P.taken 4)) = false by
          rw [← Bool.not_eq_true, allB_iff]; intro h; rw [h k hlt] at hc3; simp at hc3]
        rfl
      · refine run ?_
        refine nextS (k + 1) ⟨by omega, fun j hj => ?_⟩
        rcases Nat.lt_succ_iff_lt_or_eq.1 hj with hj | rfl
        · exact hall2 j hj
        · simpa using hc3
    have hge : k = P.pages.length := by simp at hc; omega
    subst hge
    rw [show allB P.pages.length (P.paged (P.taken 4)) = true from allB_iff.2 hall2, Bool.true_and] at hmay
    refine run ?_
    refine loopS (σ := Nat) (fun k => [(90, .int .i64 (k : Int))]) (fun _ => []) (fun k => k ≤ P.on.length ∧ ∀ j, j < k → P.seated j = true) (fun k => P.on.length - k) 0 ⟨by omega, fun j hj => absurd hj (by omega)⟩ ?_
    rintro k m3 hm3 ⟨hk3, hall3⟩
    refine run ?_
    refine st_cond _ rfl (fun hc => ?_) (fun hc => ?_)
    · have hlt : k < P.on.length := by simp at hc; omega
      refine run ?_
      refine callE (fun wc hG => seated_e (hQ.good hG) k hlt) ?_
      refine run ?_
      refine st_cond _ rfl (fun hc3 => ?_) (fun hc3 => ?_)
      · refine run ?_
        refine fin1 ?_
        rw [hmay, show allB P.on.length P.seated = false by
          rw [← Bool.not_eq_true, allB_iff]; intro h; rw [h k hlt] at hc3; simp at hc3]
      · refine run ?_
        refine nextS (k + 1) ⟨by omega, fun j hj => ?_⟩
        rcases Nat.lt_succ_iff_lt_or_eq.1 hj with hj | rfl
        · exact hall3 j hj
        · simpa using hc3
    have hge : k = P.on.length := by simp at hc; omega
    subst hge
    refine run ?_
    refine fin1 ?_
    rw [hmay, allB_iff.2 hall3]
end Go.Proofs.Ytjnndchkblnkgaa

/- Layer 18 (part): what the program tells of a partition; the first one. -/
namespace Go.Proofs.Ytjnndchkblnkgaa
open Go.RowKit
set_option linter.unusedVariables false
set_option linter.unusedSimpArgs false
set_option maxRecDepth 20000
attribute [local irreducible] Hy St Ops DH DHF
section
variable {w : World} {pv gv ov : Value} {P : PtD}
def ofL (P : PtD) (who : Int) : Int × Int × Int :=
  bif P.may && PtD.btw who (-1) 4 then ((((P.pages.filter fun x => decide (x.own = who)).length : Nat) : Int), ((((List.range P.pages.length).filter (P.uses who)).length : Nat) : Int), 0) else (0, 0, 1)
theorem PartG.agg (h : PartG w pv gv ov P) : pv.oneCell' = true ∧ gv.oneCell' = true ∧ ov.oneCell' = true := by
  obtain ⟨p, pc, rfl, _⟩ := h.pages.opened
  obtain ⟨o, oc, rfl, _⟩ := h.on.opened
  obtain ⟨vv, mv, ⟨⟨g, gc, rfl, _⟩, hl⟩, _⟩ := h.guests
  exact ⟨rfl, rfl, rfl⟩
theorem three_cells {w0 w : World} {mu : List Nat} {hp : Hp} (hG : Good w0 mu hp w) {b t : Nat} {x y z : Value} (hm : (⟨b, #[x, y, z], t⟩ : Blk) ∈ hp) : w.cell? ⟨b, 0, none⟩ = some x ∧ w.cell? ⟨b, 1, none⟩ = some y ∧ w.cell? ⟨b, 2, none⟩ = some z := by
  have h := hG.here _ hm
  refine ⟨?_, ?_, ?_⟩ <;> (rw [cell_of_block h]; rfl)
theorem may_len (h : P.may = true) : P.Len := by
  simp only [PtD.may, Bool.and_eq_true, decide_eq_true_eq] at h
  exact ⟨by omega, by omega, by omega, by omega, by omega⟩
theorem mayB_e (h : PartG w pv gv ov P) {w' : World} {hp : Hp} (hG : Good w [] hp w') {b t : Nat} (hm : (⟨b, #[pv, gv, ov], t⟩ : Blk) ∈ hp) : Fn Try.prog 26 [.pointer (some ⟨b, 0, none⟩)].toArray w' [] (fun u _ => u = .bool P.may) := by
  obtain ⟨a, b, c⟩ := three_cells hG hm
  exact may_e (h.good hG) a b c
theorem partQ_of (h : PartG w pv gv ov P) (hn : P.Len) {w' : World} {hp : Hp} (hG : Good w [] hp w') {b t : Nat} (hm : (⟨b, #[pv, gv, ov], t⟩ : Blk) ∈ hp) : ∃ L, PartQ w' b L P := by
  obtain ⟨L, rfl, rfl, rfl, hv⟩ := (h.good hG).open hn
  obtain ⟨a, b, c⟩ := three_cells hG hm
  exact ⟨L, hv, hn, a, b, c⟩
theorem of_e (h : PartG w pv gv ov P) (who : Int) : Fn Try.prog 11 [.agg #[pv, gv, ov], .int .i64 who].toArray w [] (fun u _ => u = .tuple #[.int .i64 (ofL P who).1, .int .i64 (ofL P who).2.1, .int .i64 (ofL P who).2.2]) := by
  obtain ⟨p, pc, rfl, hne, hle⟩ := h.pages.opened
  obtain ⟨o, oc, rfl, _⟩ := h.on.opened
  obtain ⟨g, gc, rfl, hl⟩ : ∃ g gc, gv = .slice g P.guests.length gc ∧ P.guests.length ≤ 281474976710656 := by
    obtain ⟨vv, mv, ⟨⟨g, gc, e, _⟩, hl⟩, _⟩ := h.guests
    simp only [List.length_map, List.length_range] at e hl
    exact ⟨g, gc, e, hl⟩
  refine enter Try.func11 ?_
  refine run ?_
  intro B1 B2
  refine run ?_
  refine callE (fun wc hG => mayB_e h hG mh) ?_
  refine runG ?_
  refine callEG (fun h1 wc hG => between_e _ _ _ wc) ?_
  refine runG ?_
  refine st_cond _ rfl (fun hc => ?_) (fun hc => ?_)
  · refine run ?_
    refine fin3 ?_
    unfold ofL
    revert hc
    cases P.may <;> cases PtD.btw who (-1) 4 <;> simp
  · simp only [Bool.or_eq_false_iff, Bool.not_eq_false'] at hc
    obtain ⟨hm, h1⟩ := hc
    have hn := may_len hm
    have hp1 := hn.p1
    have htk : ∀ k, k < P.pages.length → P.pages.take (k + 1) = P.pages.take k ++ [P.pg k] := fun k hk => by
      rw [List.take_succ_eq_append_getElem hk, PtD.pg, List.getD_eq_getElem?_getD, List.getElem?_eq_getElem hk]; rfl
    have cA : ∀ k, k < P.pages.length → ((P.pages.take (k + 1)).filter fun x => decide (x.own = who)).length = ((P.pages.take k).filter fun x => decide (x.own = who)).length + (bif decide ((P.pg k).own = who) then 1 else 0) := fun k hk => by
      rw [htk k hk, List.filter_append, List.length_append]
      cases hd : decide ((P.pg k).own = who) <;> simp [List.filter_cons, hd]
    have cB : ∀ k, ((List.range (k + 1)).filter (P.uses who)).length = ((List.range k).filter (P.uses who)).length + (bif P.uses who k then 1 else 0) := fun k => by
      rw [List.range_succ, List.filter_append, List.length_append]
      cases hd : P.uses who k <;> simp [List.filter_cons, hd]
    refine run ?_
    refine loopS (σ := Nat × Nat × Nat) (fun s => [(4, .int .i64 (s.2.1 : Int)), (5, .int .i64 (s.2.2 : Int)), (24, .int .i64 (s.1 : Int))]) (fun _ => [⟨B2, #[.slice p P.pages.length pc, .slice g P.guests.length gc, .slice o P.on.length oc], 66⟩]) (fun s => s.1 ≤ P.pages.length ∧ s.2.1 = ((P.pages.take s.1).filter fun x => decide (x.own = who)).length ∧ s.2.2 = ((List.range s.1).filter (P.uses who)).length ∧ s.2.1 ≤ s.1 ∧ s.2.2 ≤ s.1) (fun s => P.pages.length - s.1) (0, 0, 0) ⟨by omega, by simp, by simp, by simp, by simp⟩ ?_
    rintro ⟨k, a, b⟩ m hm2 ⟨hk, ha, hb, ha2, hb2⟩
    dsimp only at hm2 hk ha hb ha2 hb2 ⊢
    refine run ?_
    refine st_cond _ rfl (fun hc => ?_) (fun hc => ?_)
    · have hlt : k < P.pages.length := by simp at hc; omega
      obtain ⟨b2, o2, rfl⟩ := hne (by intro e; rw [e] at hlt; simp at hlt)
      have hr := h.pages.row hlt
      simp only [pgV] at hr
      rw [show P.pages.getD k default = P.pg k from rfl] at hr
      have cAk := cA k hlt
      have cBk := cB k
      refine run ?_
      intro X
      refine run ?_
      refine st_cond _ rfl (fun hc2 => ?_) (fun hc2 => ?_)
      all_goals
        rw [hc2] at cAk
        refine run ?_
        refine callE (fun wc hG => by
          obtain ⟨L, hQ⟩ := partQ_of h hn hG (mt mh)
          exact uses_e hQ k hlt who) ?_
        refine run ?_
        refine st_cond _ rfl (fun hc3 => ?_) (fun hc3 => ?_)
        all_goals
          rw [hc3] at cBk
          simp only [cond_true, cond_false, Nat.add_zero] at cAk cBk
          refine run ?_
      · exact nextS (k + 1, a + 1, b + 1) (by refine ⟨?_, ?_, ?_, ?_, ?_⟩ <;> (dsimp only; omega))
      · exact nextS (k + 1, a + 1, b) (by refine ⟨?_, ?_, ?_, ?_, ?_⟩ <;> (dsimp only; omega))
      · exact nextS (k + 1, a, b + 1) (by refine ⟨?_, ?_, ?_, ?_, ?_⟩ <;> (dsimp only; omega))
      · exact nextS (k + 1, a, b) (by refine ⟨?_, ?_, ?_, ?_, ?_⟩ <;> (dsimp only; omega))
    · have hge : k = P.pages.length := by simp at hc; omega
      subst hge
      refine run ?_
      refine fin3 ?_
      rw [List.take_length] at ha
      simp only [ofL, hm, h1, Bool.and_self, cond_true, ha, hb]
end
end Go.Proofs.Ytjnndchkblnkgaa

/- Layer 18 (part): the first partition. -/
namespace Go.Proofs.Ytjnndchkblnkgaa
open Go.RowKit
set_option linter.unusedVariables false
set_option linter.unusedSimpArgs false
set_option maxRecDepth 20000
attribute [local irreducible] Hy St Ops DH DHF
/-- The blocks lie in a world. -/
def Here (hn : Hp) (w : World) : Prop := ∀ e ∈ hn, w.heap[e.b]? = some (.cells e.cs e.t (0, 0))
theorem Good.lie {w0 w : World} {mu : List Nat} {hp hn : Hp} (hG : Good w0 mu hp w) (hm : ∀ e ∈ hn, e ∈ hp) : Here hn w := fun e he => hG.here e (hm e he)
theorem Here.sub {hn hm : Hp} {w : World} (h : Here hn w) (hs : ∀ e ∈ hm, e ∈ hn) : Here hm w := fun e he => h e (hs e he)
theorem Acc.lie {e sz : Nat} {v : Value} {ha : Hp} {xs : List (List Value)} {w : World} (hA : Acc e sz v ha xs) (h : Here ha w) (hle : xs.length ≤ 281474976710656) : SlAt w v sz xs := by
  rcases hA.2 with ⟨rfl, rfl, rfl⟩ | ⟨hne, g, cap, cur, rfl, rfl, hrow⟩
  · exact ⟨⟨none, 0, rfl, fun h => absurd rfl h⟩, hle⟩
  · refine ⟨⟨_, _, rfl, fun _ => ⟨g, 0, rfl, fun i c hc j u hj => ?_⟩⟩, hle⟩
    have hb := h _ (List.mem_singleton.2 rfl)
    rw [cell_of_block hb]
    have hcl := (hA.1 c (List.mem_of_getElem? hc)).1
    have hi : i < xs.length := (List.getElem?_eq_some_iff.1 hc).1
    have hjl : j < sz := by rw [← hcl]; exact (List.getElem?_eq_some_iff.1 hj).1
    have hf := flatten_row (fun c hc => (hA.1 c hc).1) hc
    rw [← hrow.take] at hf
    have hle : i * sz + j < xs.length * sz := by
      calc i * sz + j < i * sz + sz := by omega
        _ = (i + 1) * sz := by rw [Nat.succ_mul]
        _ ≤ _ := Nat.mul_le_mul_right _ hi
    rw [← hf, List.getElem?_take, if_pos hjl, List.getElem?_drop, List.getElem?_take, if_pos hle] at hj
    rw [Nat.zero_add]
    simpa using hj
/-- A row of cells that lies in a block of its own. -/
theorem lie_rows {w : World} {b t cap sz : Nat} {xs : List (List Value)} (h : w.heap[b]? = some (.cells xs.flatten.toArray t (0, 0))) (hs : ∀ c ∈ xs, c.length = sz) (hle : xs.length ≤ 281474976710656) : SlAt w (.slice (some ⟨b, 0, none⟩) xs.length cap) sz xs := by
  refine ⟨⟨_, _, rfl, fun _ => ⟨b, 0, rfl, fun i c hc j u hj => ?_⟩⟩, hle⟩
  rw [cell_of_block h]
  have hf := flatten_row hs hc
  have hcl := hs c (List.mem_of_getElem? hc)
  have hjl : j < sz := by rw [← hcl]; exact (List.getElem?_eq_some_iff.1 hj).1
  rw [← hf, List.getElem?_take, if_pos hjl, List.getElem?_drop] at hj
  rw [Nat.zero_add]
  simpa using hj
def bootL (frames cpus : Nat) : PtD := ⟨(List.range frames).map fun f => ⟨bif decide (f < 16) then -1 else 0, -2⟩, List.replicate 4 ⟨false, false, 0, [], []⟩, List.replicate cpus ⟨0, 0⟩⟩
def mayBoot (frames cpus : Int) : Bool := PtD.btw frames 24 64 && PtD.btw cpus 1 3
/-- What Boot answers. -/
def BootR (frames cpus : Int) (u : Value) (hn : Hp) : Prop :=
  bif mayBoot frames cpus then ∃ pv gv ov, u = .tuple #[.agg #[pv, gv, ov], .int .i64 0] ∧ ∀ w, Here hn w → PartG w pv gv ov (bootL frames.toNat cpus.toNat)
  else u = .tuple #[.agg #[.slice none 0 0, .slice none 0 0, .slice none 0 0], .int .i64 1]
theorem made_rows (zl : List Value) (n sz : Nat) (hs : zl.length = sz) (h0 : 0 < sz) : madeCells zl.toArray (n * sz) = ((List.replicate n zl).flatten).toArray := by
  have h := rep_eq zl.toArray (by simpa [hs] using h0) n
  have e : ∀ n, rep zl n = (List.replicate n zl).flatten := by
    intro n
    induction n with
    | zero => rfl
    | succ n ih => rw [rep, ih, List.replicate_succ', List.flatten_append]; simp
  rw [← e]
  simpa [madeCells, hs] using h
theorem bootG {w : World} {F C : Nat} {pv : Value} {ha : Hp} {Bg Bo tg tq : Nat} (hA : Acc 51 2 pv ha ((bootL F C).pages.map pgV)) (hF : F ≤ 64) (hC : C ≤ 3) (h : Here (⟨Bg, ((List.replicate 4 [Value.bool false, .bool false, .int .i64 0, .slice none 0 0, .slice none 0 0]).flatten).toArray, tg⟩ :: ⟨Bo, ((List.replicate C [Value.int .i64 0, .int .i64 0]).flatten).toArray, tq⟩ :: ha) w) :
    PartG w pv (.slice (some ⟨Bg, 0, none⟩) 4 4) (.slice (some ⟨Bo, 0, none⟩) C C) (bootL F C) := by
  have hnil : ∀ sz, SlAt w (.slice none 0 0) sz [] := fun sz => ⟨⟨none, 0, rfl, fun h => absurd rfl h⟩, by simp⟩
  have hg : ∀ i, (bootL F C).gs i = ⟨false, false, 0, [], []⟩ := fun i => by
    simp only [bootL, PtD.gs, List.getD_eq_getElem?_getD, List.getElem?_replicate]
    split <;> rfl
  refine ⟨hA.lie (h.sub fun e he => List.mem_cons_of_mem _ (List.mem_cons_of_mem _ he)) (by simp [bootL]; omega), ⟨fun _ => .slice none 0 0, fun _ => .slice none 0 0, ?_, fun i _ => by rw [hg i]; exact ⟨hnil 1, hnil 2⟩⟩, ?_, ?_⟩
  · have := lie_rows (w := w) (b := Bg) (t := tg) (cap := 4) (sz := 5) (xs := List.replicate 4 [Value.bool false, .bool false, .int .i64 0, .slice none 0 0, .slice none 0 0]) (h _ (List.mem_cons_self ..)) (by intro c hc; rw [List.eq_of_mem_replicate hc]; rfl) (by simp)
    have e : ((List.range (bootL F C).guests.length).map fun i => [Value.bool ((bootL F C).gs i).live, .bool ((bootL F C).gs i).dying, .int .i64 ((bootL F C).gs i).first, .slice none 0 0, .slice none 0 0]) = List.replicate 4 [Value.bool false, .bool false, .int .i64 0, .slice none 0 0, .slice none 0 0] := by simp only [hg]; rfl
    rw [e]
    simpa using this
  · have := lie_rows (w := w) (b := Bo) (t := tq) (cap := C) (sz := 2) (xs := List.replicate C [Value.int .i64 0, .int .i64 0]) (h _ (List.mem_cons_of_mem _ (List.mem_cons_self ..))) (by intro c hc; rw [List.eq_of_mem_replicate hc]; rfl) (by simp; omega)
    simpa [bootL, stV] using this
  · refine ⟨fun f hf => ?_, fun i _ => by rw [hg i]; exact ⟨⟨by decide, by decide⟩, by simp, by simp⟩, fun c hc => ?_⟩
    · simp only [bootL, List.length_map, List.length_range] at hf
      simp only [bootL, PtD.pg, List.getD_eq_getElem?_getD, List.getElem?_map, List.getElem?_range hf, Option.map_some, Option.getD_some]
      refine ⟨?_, by decide, by decide⟩
      cases decide (f < 16) <;> exact ⟨by decide, by decide⟩
    · simp only [bootL, List.length_replicate] at hc
      simp only [bootL, PtD.st, List.getD_eq_getElem?_getD, List.getElem?_replicate, hc, if_true, Option.getD_some]
      exact ⟨⟨by decide, by decide⟩, by decide, by decide⟩
theorem boot_e (frames cpus : Int) (w : World) : Fn Try.prog 13 [.int .i64 frames, .int .i64 cpus].toArray w [] (BootR frames cpus) := by
  refine enter Try.func13 ?_
  refine run ?_
  intro Rb
  refine callE (fun wc hG => between_e _ _ _ wc) ?_
  refine runG ?_
  refine callEG (fun h1 wc hG => between_e _ _ _ wc) ?_
  refine runG ?_
  refine st_cond _ rfl (fun hc => ?_) (fun hc => ?_)
  · refine run ?_
    refine finA1 ?_
    simp only [BootR, mayBoot]
    revert hc
    cases PtD.btw frames 24 64 <;> cases PtD.btw cpus 1 3 <;> simp
  simp only [Bool.or_eq_false_iff, Bool.not_eq_false'] at hc
  obtain ⟨h1, h2⟩ := hc
  have h1' := h1
  have h2' := h2
  simp only [PtD.btw, Bool.and_eq_true, decide_eq_true_eq] at h1' h2'
  obtain ⟨F, rfl⟩ : ∃ k : Nat, frames = (k : Int) := ⟨frames.toNat, by omega⟩
  obtain ⟨C, rfl⟩ : ∃ k : Nat, cpus = (k : Int) := ⟨cpus.toNat, by omega⟩
  refine run ?_
  refine drawM 5 [1] [0, 2, 4] [3] ?_
  refine runS ?_
  refine eMake (m := 4) (sz := 5) (z := .agg #[.bool false, .bool false, .int .i64 0, .slice none 0 0, .slice none 0 0]) ?_ (by omega) (hcs := by exact made_rows [.bool false, .bool false, .int .i64 0, .slice none 0 0, .slice none 0 0] 4 5 rfl (by omega))
  refine eMake (m := C) (sz := 2) (z := .agg #[.int .i64 0, .int .i64 0]) ?_ (by omega) (hcs := by exact made_rows [.int .i64 0, .int .i64 0] C 2 rfl (by omega))
  refine eAlloc ?_
  refine eNil ?_
  rintro _ _ ⟨Bp, rfl, rfl⟩ _ _ ⟨Bo, rfl, rfl⟩ _ _ ⟨Bg, rfl, rfl⟩
  refine dBuild ?_
  refine dNil ?_
  refine opsF ?_
  simp only [List.cons_append, List.nil_append]
  obtain ⟨GC, hGC⟩ : ∃ G : Array Value, G = ((List.replicate 4 [Value.bool false, .bool false, .int .i64 0, .slice none 0 0, .slice none 0 0]).flatten).toArray := ⟨_, rfl⟩
  obtain ⟨OC, hOC⟩ : ∃ G : Array Value, G = ((List.replicate C [Value.int .i64 0, .int .i64 0]).flatten).toArray := ⟨_, rfl⟩
  rw [← hGC, ← hOC]
  refine run ?_
  refine loopS (σ := Nat × Value × Hp) (fun s => [(23, .int .i64 (s.1 : Int))]) (fun s => ⟨Bp, #[s.2.1, .slice (some ⟨Bg, 0, none⟩) 4 4, .slice (some ⟨Bo, 0, none⟩) C C], 26⟩ :: ⟨Rb, #[.slice none 0 0, .slice none 0 0, .slice none 0 0], 26⟩ :: ⟨Bg, GC, 57⟩ :: ⟨Bo, OC, 59⟩ :: s.2.2) (fun s => s.1 ≤ F ∧ Acc 51 2 s.2.1 s.2.2 ((bootL s.1 C).pages.map pgV)) (fun s => F - s.1) (0, _, []) ⟨by omega, Acc.nil _ _⟩ ?_
  rintro ⟨k, pv, ha⟩ m hm ⟨hk, hA⟩
  dsimp only at hm hk hA ⊢
  have hpl : (bootL k C).pages.length = k := by simp [bootL]
  refine run ?_
  refine st_cond _ rfl (fun hc => ?_) (fun hc => ?_)
  · have hlt : k < F := by simp at hc; omega
    have hstep : ∀ (x : PgD) (v' : Value) (ha' : Hp), x = ⟨bif decide (k < 16) then -1 else 0, -2⟩ → Acc 51 2 v' ha' ((bootL k C).pages.map pgV ++ [pgV x]) → Acc 51 2 v' ha' ((bootL (k + 1) C).pages.map pgV) := by
      rintro x v' ha' rfl h
      simpa [bootL, List.range_succ] using h
    refine run ?_
    refine callE (fun wc hG => free_e wc) ?_
    refine run ?_
    intro X
    refine st_cond _ rfl (fun hc2 => ?_) (fun hc2 => ?_)
    · have hc2' : decide (k < 16) = true := by simp at hc2 ⊢; omega
      refine run ?_
      refine callE (fun wc hG => ours_e wc) ?_
      refine run ?_
      intro T
      refine appendR (c := pgV ⟨-1, -2⟩) [_, _, _, _, _, _] hA (fun v' ha' hA' => ?_) (by simp [hpl]; omega) (news_own (m := 2) mh rfl)
      obtain ⟨g, gc, cur, rfl, hha, _⟩ := hA'.open (by simp)
      simp only [List.cons_append, List.nil_append]
      refine run ?_
      refine nextS (k + 1, _, ha') ⟨by omega, hstep _ _ _ (by rw [hc2']; rfl) hA'⟩
    · have hc2' : decide (k < 16) = false := by simp at hc2 ⊢; omega
      refine run ?_
      intro T
      refine appendR (c := pgV ⟨0, -2⟩) [_, _, _, _, _, _] hA (fun v' ha' hA' => ?_) (by simp [hpl]; omega) (news_own (m := 2) mh rfl)
      obtain ⟨g, gc, cur, rfl, hha, _⟩ := hA'.open (by simp)
      simp only [List.cons_append, List.nil_append]
      refine run ?_
      refine nextS (k + 1, _, ha') ⟨by omega, hstep _ _ _ (by rw [hc2']; rfl) hA'⟩
  have hge : k = F := by simp at hc; omega
  subst hge
  subst hGC hOC
  obtain ⟨q, qc, hq, _⟩ : ∃ q qc, pv = .slice q (bootL k C).pages.length qc ∧ True := by
    rcases hA.2 with ⟨h, _⟩ | ⟨_, g, cap, cur, rfl, _, _⟩
    · rw [List.map_eq_nil_iff] at h; rw [h] at hpl; simp at hpl; omega
    · exact ⟨_, cap, by rw [List.length_map], trivial⟩
  subst hq
  refine run ?_
  refine finA1 ?_
  simp only [BootR, mayBoot, h1, h2, Bool.and_self, cond_true, Int.toNat_natCast]
  refine ⟨_, _, _, rfl, fun w' hw' => bootG (tg := 57) (tq := 59) hA (by omega) (by omega) (hw'.sub ?_)⟩
  intro e he
  simp only [List.mem_cons] at he ⊢
  rcases he with rfl | rfl | he
  · simp
  · simp
  · simp [he]
end Go.Proofs.Ytjnndchkblnkgaa

/- Layer 18 (part): the reference's small functions. -/
namespace Go.Proofs.Ytjnndchkblnkgaa
open Go.RowKit
set_option linter.unusedVariables false
set_option linter.unusedSimpArgs false
set_option maxRecDepth 20000
attribute [local irreducible] Hy St Ops DH DHF
theorem who_e (n : Int) (w : World) : Fn Try.prog 17 [.int .i64 n].toArray w [] (fun u _ => u = .bool (PtD.who n)) := by
  refine enter Try.func17 ?_
  refine runG ?_
  exact fin1 rfl
theorem num_e (n m : Int) (w : World) : Fn Try.prog 34 [.int .i64 n, .int .i64 m].toArray w [] (fun u _ => u = .bool (decide (0 ≤ n) && decide (n ≤ m))) := by
  refine enter Try.func34 ?_
  refine runG ?_
  exact fin1 rfl
theorem num18_e (n : Int) (w : World) : Fn Try.prog 10 [.int .i64 n].toArray w [] (fun u _ => u = .int .i64 n) := by
  refine enter Try.func10 ?_
  refine run ?_
  exact fin1 rfl
theorem mappedR_e (xs : List MpD) (v : Value) (w : World) (h : SlAt w v 2 (xs.map mpV)) (f : Int) : Fn Try.prog 35 [v, .int .i64 f].toArray w [] (fun u _ => u = .int .i64 (PtD.mappedR xs f)) := by
  obtain ⟨q, cap, rfl, hne, hle⟩ := h.opened
  refine enter Try.func35 ?_
  refine run ?_
  refine loopS (σ := Nat) (fun k => [(5, .int .i64 (k : Int))]) (fun _ => []) (fun k => k ≤ xs.length ∧ ∀ j, j < k → decide ((xs.getD j default).frm = f) = false) (fun k => xs.length - k) 0 ⟨Nat.zero_le _, fun j hj => absurd hj (by omega)⟩ ?_
  rintro k m hm ⟨hk, hno⟩
  refine run ?_
  refine st_cond _ rfl (fun hc => ?_) (fun hc => ?_)
  · have hlt : k < xs.length := by simp at hc; omega
    obtain ⟨b, o, rfl⟩ := hne (by intro e; subst e; simp at hlt)
    have h1 := rangeAt_cell (k := 1) (h.row hlt) rfl
    refine run ?_
    refine st_cond _ rfl (fun hp => ?_) (fun hp => ?_)
    · refine run ?_
      refine fin1 ?_
      simp only [PtD.mappedR, (PtD.idx_at (p := fun m => decide (m.frm = f)) hlt hp).2 hno]
    · refine run ?_
      refine nextS (k + 1) ⟨hlt, fun j hj => ?_⟩
      rcases Nat.lt_succ_iff_lt_or_eq.1 hj with hj | rfl
      · exact hno j hj
      · exact hp
  · have hge : k = xs.length := by simp at hc; omega
    subst hge
    refine run ?_
    refine fin1 ?_
    unfold PtD.mappedR
    rw [idx_nope (p := fun (m : MpD) => decide (m.frm = f)) hno]
section
variable {w : World} {L : PtL} {P : PtD}
theorem guestR_e (h : PartV w L P) (n m : Nat) (vm : Int) (hvm : I64 vm) : Fn Try.prog 19 [.agg #[L.pv n, L.gv P.guests.length, L.ov m], .int .i64 vm].toArray w [] (fun u _ => u = .bool (P.guestR vm)) := by
  obtain ⟨hv0, hv1⟩ := hvm
  refine enter Try.func19 ?_
  refine run ?_
  intro B
  by_cases hin : 1 ≤ vm ∧ vm ≤ P.guests.length
  · have h0 := h.gs0 (i := (vm - 1).toNat) (by omega)
    refine runG ?_
    refine fin1 ?_
    simp only [PtD.guestR]
  · have hf : (decide (1 ≤ vm) && decide (vm ≤ (P.guests.length : Int))) = false := by
      rw [← Bool.not_eq_true]; intro h; simp at h; exact hin h
    refine runG ?_
    rw [hf]
    refine runG ?_
    refine fin1 ?_
    rw [PtD.guestR, hf]; rfl
theorem tablesR_e (h : PartV w L P) (n m : Nat) (hn : P.guests.length ≤ 1000) (f : Int) (hf : I64 f) : Fn Try.prog 18 [.agg #[L.pv n, L.gv P.guests.length, L.ov m], .int .i64 f].toArray w [] (fun u _ => u = .int .i64 (P.tablesR f)) := by
  obtain ⟨hv0, hv1⟩ := hf
  refine enter Try.func18 ?_
  refine run ?_
  intro B
  refine run ?_
  refine loopS (σ := Nat) (fun k => [(5, .int .i64 (k : Int))]) (fun _ => [⟨B, #[L.pv n, L.gv P.guests.length, L.ov m], 26⟩]) (fun k => k ≤ P.guests.length ∧ ∀ j, j < k → PtD.within f (P.gs j) = false) (fun k => P.guests.length - k) 0 ⟨Nat.zero_le _, fun j hj => absurd hj (by omega)⟩ ?_
  rintro k m hm ⟨hk, hno⟩
  refine run ?_
  refine st_cond _ rfl (fun hc => ?_) (fun hc => ?_)
  · have hlt : k < P.guests.length := by simp at hc; omega
    have hr := h.gs k hlt
    obtain ⟨q, cap, hmv, _⟩ := (h.mp k hlt).opened
    obtain ⟨q2, cap2, hvv, _⟩ := (h.vc k hlt).opened
    rw [hmv, hvv] at hr
    refine run ?_
    intro G
    refine runG ?_
    have hw : ((P.gs k).live && decide ((P.gs k).first ≤ f) && decide (IntKind.i64.wrap (f - (P.gs k).first) < 5)) = PtD.within f (P.gs k) := rfl
    refine st_cond _ rfl (fun hp => ?_) (fun hp => ?_)
    · refine run ?_
      refine fin1 ?_
      unfold PtD.tablesR
      rw [(PtD.idx_at (p := PtD.within f) hlt hp).2 hno]
      simp
    · refine run ?_
      refine nextS (k + 1) ⟨hlt, fun j hj => ?_⟩
      rcases Nat.lt_succ_iff_lt_or_eq.1 hj with hj | rfl
      · exact hno j hj
      · exact hp
  · have hge : k = P.guests.length := by simp at hc; omega
    subst hge
    refine run ?_
    refine fin1 ?_
    unfold PtD.tablesR
    rw [idx_nope (p := PtD.within f) hno]
end
end Go.Proofs.Ytjnndchkblnkgaa

/- Layer 18 (part): the reference's test of a guest. -/
namespace Go.Proofs.Ytjnndchkblnkgaa
open Go.RowKit
set_option linter.unusedVariables false
set_option linter.unusedSimpArgs false
set_option maxRecDepth 20000
attribute [local irreducible] Hy St Ops DH DHF
section
variable {w : World} {L : PtL} {P : PtD}
set_option maxHeartbeats 4000000 in
theorem guestOne_e (h : PartV w L P) (hn : P.Len) (i : Nat) (hi : i < P.guests.length) (vm : Int) (hvm : vm = (i : Int) + 1) : Fn Try.prog 20 [.agg #[L.pv P.pages.length, L.gv P.guests.length, L.ov P.on.length], .int .i64 vm].toArray w [] (fun u _ => u = .bool (P.oneR i)) := by
  obtain ⟨np0, np1, ng4, no0, no1⟩ := hn
  have hr := h.gs i hi
  obtain ⟨q, cap, hmv, hne, hle⟩ := (h.mp i hi).opened
  obtain ⟨q2, cap2, hvv, hne2, hle2⟩ := (h.vc i hi).opened
  obtain ⟨⟨hf0, hf1⟩, _, _⟩ := h.wf.gs i hi
  have hrow := h.vc i hi
  have hrowm := h.mp i hi
  rw [hvv] at hrow
  rw [hmv] at hrowm
  rw [hmv, hvv] at hr
  obtain rfl : vm = ((i + 1 : Nat) : Int) := by omega
  have hr' : w.rangeAt L.gb (L.go + (((i + 1 : Nat) : Int) - 1).toNat * 5) [.bool (P.gs i).live, .bool (P.gs i).dying, .int .i64 (P.gs i).first, .slice q2 (P.gs i).vcpus.length cap2, .slice q (P.gs i).maps.length cap] := by
    rw [show (((i + 1 : Nat) : Int) - 1).toNat = i by omega]; exact hr
  refine enter Try.func20 ?_
  refine run ?_
  intro B G
  refine run ?_
  refine loopS (σ := Nat × Nat) (fun s => [(6, .int .i64 (s.2 : Int)), (7, .int .i64 (s.1 : Int))]) (fun s => [⟨G, #[.bool (P.gs i).live, .bool (P.gs i).dying, .int .i64 (P.gs i).first, .slice q2 (P.gs i).vcpus.length cap2, .slice q (P.gs i).maps.length cap], 57⟩, ⟨B, #[L.pv P.pages.length, L.gv P.guests.length, L.ov P.on.length], 26⟩]) (fun s => s.1 ≤ P.pages.length ∧ s.2 ≤ s.1 ∧ decide (0 < s.2) = (P.pages.take s.1).any fun x => decide (x.own = ((i + 1 : Nat) : Int))) (fun s => P.pages.length - s.1) (0, 0) ⟨by omega, by omega, by simp⟩ ?_
  rintro ⟨k, ow⟩ m hm ⟨hk, hok, how⟩
  dsimp only at hm hk hok how ⊢
  refine run ?_
  refine st_cond _ rfl (fun hc => ?_) (fun hc => ?_)
  · have hlt : k < P.pages.length := by simp at hc; omega
    have h0 := h.pg0 hlt
    have htk : P.pages.take (k + 1) = P.pages.take k ++ [P.pg k] := by
      rw [List.take_succ_eq_append_getElem hlt, PtD.pg, List.getD_eq_getElem?_getD, List.getElem?_eq_getElem hlt]; rfl
    refine run ?_
    refine st_cond _ rfl (fun hp => ?_) (fun hp => ?_)
    · refine run ?_
      exact nextS (k + 1, ow + 1) ⟨by dsimp only; omega, by dsimp only; omega, by dsimp only; rw [htk, List.any_append, ← how]; simp at hp; simp [hp]⟩
    · refine run ?_
      exact nextS (k + 1, ow) ⟨by dsimp only; omega, by dsimp only; omega, by dsimp only; rw [htk, List.any_append, ← how]; simp at hp; simp [hp]⟩
  have hge : k = P.pages.length := by simp at hc; omega
  subst hge
  rw [List.take_length] at how
  have how' : decide (0 < ow) = P.owns ((i : Int) + 1) := how
  refine run ?_
  refine st_cond _ rfl (fun hl => ?_) (fun hl => ?_)
  · simp only [Bool.not_eq_true'] at hl
    refine runG ?_
    refine fin1 ?_
    simp only [PtD.oneR, hl, cond_false, ← how']
    simp
  simp only [Bool.not_eq_false'] at hl
  have hone : P.oneR i = (!((P.gs i).dying || decide ((P.gs i).first < 16) || decide ((P.gs i).first > (P.pages.length : Int) - 5) || decide ((P.gs i).vcpus.length > 2)) &&
    allB 5 (fun k => decide (P.tablesR ((P.gs i).first + k) = (i : Int) + 1)) && allB (P.guests.length - (i + 1)) (fun k => P.apartR i (i + 1 + k)) &&
    allB (P.gs i).vcpus.length (P.vcpuR i) && allB (P.gs i).maps.length (PtD.mapR (P.gs i).maps P.pages.length) && allB P.pages.length (P.useR i)) := by simp only [PtD.oneR, hl, cond_true]
  have hv2 : decide ((P.gs i).vcpus.length > 2) = decide ((2 : Int) < ((P.gs i).vcpus.length : Nat)) := by rw [decide_eq_decide]; omega
  rw [hv2] at hone
  refine runG ?_
  refine st_cond _ rfl (fun hc => ?_) (fun hc => ?_)
  · refine run ?_
    refine fin1 ?_
    rw [hone, show ((P.gs i).dying || decide ((P.gs i).first < 16) || decide ((P.gs i).first > (P.pages.length : Int) - 5) || decide ((2 : Int) < ((P.gs i).vcpus.length : Nat))) = true from hc]
    rfl
  rw [show ((P.gs i).dying || decide ((P.gs i).first < 16) || decide ((P.gs i).first > (P.pages.length : Int) - 5) || decide ((2 : Int) < ((P.gs i).vcpus.length : Nat))) = false from hc] at hone
  simp only [Bool.not_false, Bool.true_and] at hone
  simp only [Bool.or_eq_false_iff, decide_eq_false_iff_not] at hc
  obtain ⟨⟨⟨hdy, hb1⟩, hb2⟩, hb3⟩ := hc
  have hno : ∀ (n : Nat) (p : Nat → Bool) (k : Nat), k < n → p k = false → allB n p = false := fun n p k hk h => by
    rw [← Bool.not_eq_true, allB_iff]; intro ha; rw [ha k hk] at h; cases h
  have hyes : ∀ (p : Nat → Bool) (k : Nat), (∀ j, j < k → p j = true) → p k = true → ∀ j, j < k + 1 → p j = true := fun p k h h2 j hj => by
    rcases Nat.lt_succ_iff_lt_or_eq.1 hj with hj | rfl
    · exact h j hj
    · exact h2
  refine run ?_
  refine loopS (σ := Nat) (fun k => [(8, .int .i64 ((P.gs i).first + (k : Int)))]) (fun s => [⟨G, #[.bool (P.gs i).live, .bool (P.gs i).dying, .int .i64 (P.gs i).first, .slice q2 (P.gs i).vcpus.length cap2, .slice q (P.gs i).maps.length cap], 57⟩, ⟨B, #[L.pv P.pages.length, L.gv P.guests.length, L.ov P.on.length], 26⟩]) (fun k => k ≤ 5 ∧ ∀ j, j < k → decide (P.tablesR ((P.gs i).first + (j : Int)) = (i : Int) + 1) = true) (fun k => 5 - k) 0 ⟨by omega, fun j hj => absurd hj (by omega)⟩ ?_ (hl := by simp only [Int.natCast_zero, Int.add_zero]; (repeat (first | exact True.intro | (refine And.intro (by first | exact Or.inl rfl | exact Or.inr rfl) ?_))))
  rintro k m hm ⟨hk, hall⟩
  refine run ?_
  refine st_cond _ rfl (fun hc => ?_) (fun hc => ?_)
  · have hlt : k < 5 := by simp at hc; omega
    refine run ?_
    refine callE (fun wc hG => tablesR_e (h.good hG) _ _ (by omega) ((P.gs i).first + (k : Int)) ⟨by omega, by omega⟩) ?_
    refine run ?_
    refine st_cond _ rfl (fun hp => ?_) (fun hp => ?_)
    · refine run ?_
      refine fin1 ?_
      rw [hone, hno 5 _ k hlt (by simpa using hp)]
      rfl
    · refine run ?_
      simp only [show (P.gs i).first + (k : Int) + 1 = (P.gs i).first + ((k + 1 : Nat) : Int) by omega]
      exact nextS (k + 1) ⟨by omega, hyes (fun j => decide (P.tablesR ((P.gs i).first + (j : Int)) = (i : Int) + 1)) k hall (by simpa using hp)⟩
  have hge : k = 5 := by simp at hc; omega
  subst hge
  rw [show allB 5 (fun k => decide (P.tablesR ((P.gs i).first + (k : Int)) = (i : Int) + 1)) = true from allB_iff.2 hall, Bool.true_and] at hone
  clear hall hm hk hc
  refine run ?_
  refine loopS (σ := Nat) (fun k => [(9, .int .i64 ((i + 1 + k : Nat) : Int))]) (fun s => [⟨G, #[.bool (P.gs i).live, .bool (P.gs i).dying, .int .i64 (P.gs i).first, .slice q2 (P.gs i).vcpus.length cap2, .slice q (P.gs i).maps.length cap], 57⟩, ⟨B, #[L.pv P.pages.length, L.gv P.guests.length, L.ov P.on.length], 26⟩]) (fun k => k ≤ P.guests.length - (i + 1) ∧ ∀ j, j < k → P.apartR i (i + 1 + j) = true) (fun k => P.guests.length - (i + 1) - k) 0 ⟨by omega, fun j hj => absurd hj (by omega)⟩ ?_
  rintro k m hm ⟨hk, hall⟩
  refine run ?_
  refine st_cond _ rfl (fun hc => ?_) (fun hc => ?_)
  · have hlt : i + 1 + k < P.guests.length := by simp at hc; omega
    have hrj := h.gs (i + 1 + k) hlt
    obtain ⟨qj, capj, hmvj, _⟩ := (h.mp (i + 1 + k) hlt).opened
    obtain ⟨qj2, capj2, hvvj, _⟩ := (h.vc (i + 1 + k) hlt).opened
    rw [hmvj, hvvj] at hrj
    refine run ?_
    intro O
    refine runG ?_
    refine st_cond _ rfl (fun hp => ?_) (fun hp => ?_)
    · refine run ?_
      refine fin1 ?_
      rw [hone, hno _ _ k (by omega) (by rw [PtD.apartR, hp]; rfl)]
      rfl
    · refine run ?_
      exact nextS (k + 1) ⟨by omega, hyes (fun j => P.apartR i (i + 1 + j)) k hall (by show P.apartR i (i + 1 + k) = true; rw [PtD.apartR, hp]; rfl)⟩
  have hge : k = P.guests.length - (i + 1) := by simp at hc; omega
  subst hge
  rw [show allB (P.guests.length - (i + 1)) (fun k => P.apartR i (i + 1 + k)) = true from allB_iff.2 hall, Bool.true_and] at hone
  clear hall hm hk hc
  refine run ?_
  refine loopS (σ := Nat) (fun k => [(11, .int .i64 (k : Int))]) (fun s => [⟨G, #[.bool (P.gs i).live, .bool (P.gs i).dying, .int .i64 (P.gs i).first, .slice q2 (P.gs i).vcpus.length cap2, .slice q (P.gs i).maps.length cap], 57⟩, ⟨B, #[L.pv P.pages.length, L.gv P.guests.length, L.ov P.on.length], 26⟩]) (fun k => k ≤ (P.gs i).vcpus.length ∧ ∀ j, j < k → P.vcpuR i j = true) (fun k => (P.gs i).vcpus.length - k) 0 ⟨by omega, fun j hj => absurd hj (by omega)⟩ ?_
  rintro k m hm ⟨hk, hall⟩
  refine run ?_
  refine st_cond _ rfl (fun hc => ?_) (fun hc => ?_)
  · have hlt : k < (P.gs i).vcpus.length := by simp at hc; omega
    obtain ⟨b2, o2, rfl⟩ := hne2 (by intro e; rw [e] at hlt; simp at hlt)
    have hx := rangeAt_cell0 (hrow.row hlt)
    rw [Nat.mul_one, show (default : Int) = 0 from rfl] at hx
    have hva : P.vcpuR i k = !(decide ((P.gs i).vcpus.getD k 0 < -1) || decide ((P.gs i).vcpus.getD k 0 ≥ P.on.length) || (decide ((P.gs i).vcpus.getD k 0 ≥ 0) && !(decide ((P.st ((P.gs i).vcpus.getD k 0).toNat).vm = (i : Int) + 1) && decide ((P.st ((P.gs i).vcpus.getD k 0).toNat).cpu = (k : Int))))) := rfl
    generalize (P.gs i).vcpus.getD k 0 = x at hx hva
    by_cases hin : 0 ≤ x ∧ x < P.on.length
    · have hst := h.st x.toNat (by omega)
      refine runG ?_
      refine st_cond _ rfl (fun hp => ?_) (fun hp => ?_)
      · refine run ?_
        refine fin1 ?_
        rw [hone, hno _ _ k hlt (by rw [hva, Bool.not_eq_false']; simpa [eqLeaves, eqLeaf] using hp)]
        rfl
      · refine run ?_
        exact nextS (k + 1) ⟨by omega, hyes (P.vcpuR i) k hall (by rw [hva, Bool.not_eq_true']; simpa [eqLeaves, eqLeaf] using hp)⟩
    · rcases (by omega : x < -1 ∨ x = -1 ∨ (P.on.length : Int) ≤ x) with h1 | h1 | h1
      · have e1 : decide (x < -1) = true := by simpa using h1
        refine runG ?_
        simp only [e1]
        refine runG ?_
        refine st_cond _ rfl (fun hp => ?_) (fun hp => absurd hp (by simp))
        refine run ?_
        refine fin1 ?_
        rw [hone, hno _ _ k hlt (by rw [hva, e1]; rfl)]
        rfl
      · have e1 : decide (x < -1) = false := by simp; omega
        have e2 : decide ((P.on.length : Int) ≤ x) = false := by simp; omega
        have e3 : decide (0 ≤ x) = false := by simp; omega
        refine runG ?_
        simp only [e1, e2, e3]
        refine runG ?_
        refine st_cond _ rfl (fun hp => absurd hp (by simp)) (fun hp => ?_)
        refine run ?_
        exact nextS (k + 1) ⟨by omega, hyes (P.vcpuR i) k hall (by rw [hva, e1, show decide (x ≥ (P.on.length : Int)) = false from e2, show decide (x ≥ 0) = false from e3]; rfl)⟩
      · have e1 : decide (x < -1) = false := by simp; omega
        have e2 : decide ((P.on.length : Int) ≤ x) = true := by simpa using h1
        refine runG ?_
        simp only [e1, e2]
        refine runG ?_
        refine st_cond _ rfl (fun hp => ?_) (fun hp => absurd hp (by simp))
        refine run ?_
        refine fin1 ?_
        rw [hone, hno _ _ k hlt (by rw [hva, e1, show decide (x ≥ (P.on.length : Int)) = true from e2]; rfl)]
        rfl
  have hge : k = (P.gs i).vcpus.length := by simp at hc; omega
  subst hge
  rw [show allB (P.gs i).vcpus.length (P.vcpuR i) = true from allB_iff.2 hall, Bool.true_and] at hone
  clear hall hm hk hc
  refine run ?_
  refine loopS (σ := Nat) (fun k => [(13, .int .i64 (k : Int))]) (fun s => [⟨G, #[.bool (P.gs i).live, .bool (P.gs i).dying, .int .i64 (P.gs i).first, .slice q2 (P.gs i).vcpus.length cap2, .slice q (P.gs i).maps.length cap], 57⟩, ⟨B, #[L.pv P.pages.length, L.gv P.guests.length, L.ov P.on.length], 26⟩]) (fun k => k ≤ (P.gs i).maps.length ∧ ∀ j, j < k → PtD.mapR (P.gs i).maps P.pages.length j = true) (fun k => (P.gs i).maps.length - k) 0 ⟨by omega, fun j hj => absurd hj (by omega)⟩ ?_
  rintro k m hm ⟨hk, hall⟩
  refine run ?_
  refine st_cond _ rfl (fun hc => ?_) (fun hc => ?_)
  · have hlt : k < (P.gs i).maps.length := by simp at hc; omega
    obtain ⟨b2, o2, rfl⟩ := hne (by intro e; rw [e] at hlt; simp at hlt)
    have hrm := hrowm.row hlt
    simp only [mpV] at hrm
    have hmd : PtD.mapR (P.gs i).maps P.pages.length k = !(!(decide (0 ≤ ((P.gs i).maps.getD k default).mid) && decide (((P.gs i).maps.getD k default).mid ≤ 15)) || (decide (k > 0) && decide (((P.gs i).maps.getD (k - 1) default).mid ≥ ((P.gs i).maps.getD k default).mid)) || !(decide (0 ≤ ((P.gs i).maps.getD k default).frm) && decide (((P.gs i).maps.getD k default).frm ≤ (P.pages.length : Int) - 1)) || decide (PtD.mappedR (P.gs i).maps ((P.gs i).maps.getD k default).frm ≠ (k : Int))) := rfl
    generalize (P.gs i).maps.getD k default = x at hrm hmd
    refine run ?_
    intro X
    refine drawAll ?_
    refine runDG ?_
    refine callD (fun wc hG => num_e _ _ wc) ?_
    cases hb1 : (decide (0 ≤ x.mid) && decide (x.mid ≤ 15))
    · refine runDG ?_
      refine runG ?_
      refine st_cond _ rfl (fun hc => ?_) (fun hc => absurd hc (by simp))
      refine run ?_
      refine fin1 ?_
      rw [hone, hno _ _ k hlt (by rw [hmd, hb1]; rfl)]
      rfl
    rcases Nat.eq_zero_or_pos k with hk0 | hk0
    · have hk0' : decide (0 < (k : Int)) = false := by simp; omega
      refine runDG ?_
      simp only [hk0']
      refine runDG ?_
      refine callDG (fun h1 wc hG => num_e _ _ wc) ?_
      cases hb2 : (decide (0 ≤ x.frm) && decide (x.frm ≤ (P.pages.length : Int) - 1))
      · refine runDG ?_
        refine runG ?_
        refine st_cond _ rfl (fun hc => ?_) (fun hc => absurd hc (by simp))
        refine run ?_
        refine fin1 ?_
        rw [hone, hno _ _ k hlt (by rw [hmd, hb2]; simp)]
        rfl
      refine runDG ?_
      refine callDG (fun h1 wc hG => mappedR_e (P.gs i).maps _ wc (hrowm.good hG) x.frm) ?_
      refine runDG ?_
      refine runG ?_
      refine st_cond _ rfl (fun hc => ?_) (fun hc => ?_)
      · refine run ?_
        refine fin1 ?_
        rw [hone, hno _ _ k hlt (by rw [hmd]; simp at hc; simp [hc])]
        rfl
      · refine run ?_
        exact nextS (k + 1) ⟨by omega, hyes (PtD.mapR (P.gs i).maps P.pages.length) k hall (by rw [hmd, hb1, hb2]; rw [show decide (k > 0) = false by simpa using hk0]; simp at hc; simp [hc])⟩
    have hprev := hprev_of hrowm hlt hk0
    have hk0' : decide (0 < (k : Int)) = true := by simp; omega
    refine runDG ?_
    simp only [hk0']
    cases hc2 : decide (x.mid ≤ ((P.gs i).maps.getD (k - 1) default).mid)
    · refine callDG (fun h1 wc hG => num_e _ _ wc) ?_
      cases hb2 : (decide (0 ≤ x.frm) && decide (x.frm ≤ (P.pages.length : Int) - 1))
      · refine runDG ?_
        refine runG ?_
        refine st_cond _ rfl (fun hc => ?_) (fun hc => absurd hc (by simp))
        refine run ?_
        refine fin1 ?_
        rw [hone, hno _ _ k hlt (by rw [hmd, hb2]; simp)]
        rfl
      refine runDG ?_
      refine callDG (fun h1 wc hG => mappedR_e (P.gs i).maps _ wc (hrowm.good hG) x.frm) ?_
      refine runDG ?_
      refine runG ?_
      refine st_cond _ rfl (fun hc => ?_) (fun hc => ?_)
      · refine run ?_
        refine fin1 ?_
        rw [hone, hno _ _ k hlt (by rw [hmd]; simp at hc; simp [hc])]
        rfl
      · refine run ?_
        exact nextS (k + 1) ⟨by omega, hyes (PtD.mapR (P.gs i).maps P.pages.length) k hall (by rw [hmd, hb1, hb2]; rw [show decide (((P.gs i).maps.getD (k - 1) default).mid ≥ x.mid) = false from hc2]; simp at hc; simp [hc])⟩
    · refine runDG ?_
      refine runG ?_
      refine st_cond _ rfl (fun hc => ?_) (fun hc => absurd hc (by simp))
      refine run ?_
      refine fin1 ?_
      rw [hone, hno _ _ k hlt (by rw [hmd, show decide (((P.gs i).maps.getD (k - 1) default).mid ≥ x.mid) = true from hc2, show decide (k > 0) = true by simpa using hk0]; simp)]
      rfl
  have hge : k = (P.gs i).maps.length := by simp at hc; omega
  subst hge
  rw [show allB (P.gs i).maps.length (PtD.mapR (P.gs i).maps P.pages.length) = true from allB_iff.2 hall, Bool.true_and] at hone
  clear hall hm hk hc
  refine run ?_
  refine loopS (σ := Nat) (fun k => [(15, .int .i64 (k : Int))]) (fun s => [⟨G, #[.bool (P.gs i).live, .bool (P.gs i).dying, .int .i64 (P.gs i).first, .slice q2 (P.gs i).vcpus.length cap2, .slice q (P.gs i).maps.length cap], 57⟩, ⟨B, #[L.pv P.pages.length, L.gv P.guests.length, L.ov P.on.length], 26⟩]) (fun k => k ≤ P.pages.length ∧ ∀ j, j < k → P.useR i j = true) (fun k => P.pages.length - k) 0 ⟨by omega, fun j hj => absurd hj (by omega)⟩ ?_
  rintro k m hm ⟨hk, hall⟩
  refine run ?_
  refine st_cond _ rfl (fun hc => ?_) (fun hc => ?_)
  · have hlt : k < P.pages.length := by simp at hc; omega
    have hrp := h.pg k hlt
    refine run ?_
    intro X
    refine drawAll ?_
    refine runDG ?_
    refine callD (fun wc hG => mappedR_e (P.gs i).maps _ wc (hrowm.good hG) (k : Int)) ?_
    refine runDG ?_
    refine runG ?_
    refine st_cond _ rfl (fun hp => ?_) (fun hp => ?_)
    · refine run ?_
      refine fin1 ?_
      rw [hone, hno _ _ k hlt (by
        rw [← Bool.not_eq_true]; intro hu
        simp only [PtD.useR, beq_iff_eq] at hu
        rw [bne_iff_ne] at hp
        exact hp hu)]
    · refine run ?_
      exact nextS (k + 1) ⟨by omega, hyes (P.useR i) k hall (by simp only [PtD.useR, beq_iff_eq]; exact bne_eq_false_iff_eq.1 hp)⟩
  have hge : k = P.pages.length := by simp at hc; omega
  subst hge
  rw [show allB P.pages.length (P.useR i) = true from allB_iff.2 hall] at hone
  refine run ?_
  refine fin1 ?_
  rw [hone]
end
end Go.Proofs.Ytjnndchkblnkgaa

/- Layer 18 (part): the reference's test of a partition. -/
namespace Go.Proofs.Ytjnndchkblnkgaa
open Go.RowKit
set_option linter.unusedVariables false
set_option linter.unusedSimpArgs false
set_option maxRecDepth 20000
attribute [local irreducible] Hy St Ops DH DHF
set_option maxHeartbeats 4000000 in
theorem partR_e {w : World} {pv gv ov : Value} {P : PtD} (h : PartG w pv gv ov P) : Fn Try.prog 7 [.agg #[pv, gv, ov]].toArray w [] (fun u _ => u = .bool P.mayR) := by
  obtain ⟨p, pc, e1, _, hle1⟩ := h.pages.opened
  obtain ⟨o, oc, e3, _, hle3⟩ := h.on.opened
  obtain ⟨g, gc, e2, hle2⟩ : ∃ g gc, gv = .slice g P.guests.length gc ∧ P.guests.length ≤ 281474976710656 := by
    obtain ⟨vv, mv, ⟨⟨g, gc, e, _⟩, hl⟩, _⟩ := h.guests
    simp only [List.length_map, List.length_range] at e hl
    exact ⟨g, gc, e, hl⟩
  rw [e1, e2, e3]
  refine enter Try.func7 ?_
  refine run ?_
  intro B
  refine runG ?_
  have hlen : (decide ((P.pages.length : Int) < 24) || decide ((64 : Int) < (P.pages.length : Int)) || !decide ((P.guests.length : Int) = 4) || decide ((P.on.length : Int) < 1) || decide ((3 : Int) < (P.on.length : Int))) = (decide (P.pages.length < 24) || decide (P.pages.length > 64) || decide (P.guests.length ≠ 4) || decide (P.on.length < 1) || decide (P.on.length > 3)) := by
    rw [Bool.eq_iff_iff]
    simp only [Bool.or_eq_true, decide_eq_true_eq, Bool.not_eq_true', decide_eq_false_iff_not]
    omega
  refine st_cond _ rfl (fun hc => ?_) (fun hc => ?_)
  · refine run ?_
    refine fin1 ?_
    rw [hlen] at hc
    rw [PtD.mayR, hc]
    rfl
  rw [hlen] at hc
  have hmay : P.mayR = (allB P.pages.length P.pageR && allB 4 P.oneR && allB P.on.length P.seatR) := by rw [PtD.mayR, hc]; rfl
  have hn : P.Len := by
    simp only [Bool.or_eq_false_iff, decide_eq_false_iff_not] at hc
    exact ⟨by omega, by omega, by omega, by omega, by omega⟩
  have hno : ∀ (n : Nat) (p : Nat → Bool) (k : Nat), k < n → p k = false → allB n p = false := fun n p k hk h => by
    rw [← Bool.not_eq_true, allB_iff]; intro ha; rw [ha k hk] at h; cases h
  have hyes : ∀ (p : Nat → Bool) (k : Nat), (∀ j, j < k → p j = true) → p k = true → ∀ j, j < k + 1 → p j = true := fun p k h h2 j hj => by
    rcases Nat.lt_succ_iff_lt_or_eq.1 hj with hj | rfl
    · exact h j hj
    · exact h2
  obtain ⟨L, rfl, rfl, rfl, hv⟩ := h.open hn
  cases e1
  cases e2
  cases e3
  obtain ⟨np0, np1, ng4, no0, no1⟩ := hn
  refine run ?_
  refine loopS (σ := Nat) (fun k => [(4, .int .i64 (k : Int))]) (fun s => [⟨B, #[L.pv P.pages.length, L.gv P.guests.length, L.ov P.on.length], 26⟩]) (fun k => k ≤ P.pages.length ∧ ∀ j, j < k → P.pageR j = true) (fun k => P.pages.length - k) 0 ⟨by omega, fun j hj => absurd hj (by omega)⟩ ?_
  rintro k m hm ⟨hk, hall⟩
  refine run ?_
  refine st_cond _ rfl (fun hc => ?_) (fun hc => ?_)
  · have hlt : k < P.pages.length := by simp at hc; omega
    have hrp := hv.pg k hlt
    have hpr : P.pageR k = (!(!PtD.who (P.pg k).own || (!decide ((P.pg k).wit = -2) && !PtD.who (P.pg k).wit) || decide ((P.pg k).wit = (P.pg k).own)) &&
      !((P.hypR k != decide ((P.pg k).own = -1)) || (P.hypR k && !decide ((P.pg k).wit = -2))) &&
      !((decide ((P.pg k).own = 0) && decide (0 < (P.pg k).wit) && !P.guestR (P.pg k).wit) || (decide (0 < (P.pg k).own) && !decide ((P.pg k).wit = -2) && !decide ((P.pg k).wit = 0))) &&
      !(decide (0 < (P.pg k).own) && !(P.gs ((P.pg k).own - 1).toNat).live && (!(P.gs ((P.pg k).own - 1).toNat).dying || !decide ((P.pg k).wit = -2)))) := by
      simp only [PtD.pageR, ne_eq, decide_not, gt_iff_lt]
    have hbad : P.pageR k = false → P.mayR = false := fun h => by rw [hmay, hno _ _ k hlt h]; rfl
    have hcast : decide (k < 16) = decide ((k : Int) < 16) := by rw [decide_eq_decide]; omega
    have hhyp : P.hypR k = (decide ((k : Int) < 16) || decide (0 < P.tablesR (k : Int))) := by rw [PtD.hypR, hcast]
    have hwf := (hv.wf.pg k hlt).2
    generalize P.pg k = x at hrp hpr hwf
    refine run ?_
    intro X
    refine callE (fun wc hG => who_e _ wc) ?_
    refine runG ?_
    refine callEGG (fun h0 h1 wc hG => who_e x.wit wc) ?_
    refine runG ?_
    refine st_cond _ rfl (fun hc1 => ?_) (fun hc1 => ?_)
    · refine run ?_
      refine fin1 ?_
      rw [hbad (by rw [hpr, hc1]; rfl)]
    rw [hc1] at hpr
    refine runG ?_
    refine callEG (fun h1 wc hG => tablesR_e (hv.good hG) _ _ (by omega) (k : Int) ⟨by omega, by omega⟩) ?_
    refine runG ?_
    rw [← hhyp]
    refine st_cond _ rfl (fun hc2 => ?_) (fun hc2 => ?_)
    · refine run ?_
      refine fin1 ?_
      rw [hbad (by rw [hpr, hc2]; rfl)]
    rw [hc2] at hpr
    have hown : -1 ≤ x.own ∧ x.own ≤ 4 := by
      simp only [Bool.or_eq_false_iff, Bool.not_eq_false', PtD.who, Bool.and_eq_true, decide_eq_true_eq] at hc1
      exact hc1.1.1
    refine runG ?_
    refine callEG (fun h1 wc hG => guestR_e (hv.good hG) _ _ x.wit hwf) ?_
    refine runG ?_
    refine st_cond _ rfl (fun hc3 => ?_) (fun hc3 => ?_)
    · refine run ?_
      refine fin1 ?_
      rw [hbad (by rw [hpr, hc3]; rfl)]
    rw [hc3] at hpr
    cases hpos : decide (0 < x.own)
    · refine runG ?_
      simp only [hpos]
      refine runG ?_
      refine st_cond _ rfl (fun hc4 => absurd hc4 (by simp)) (fun hc4 => ?_)
      refine run ?_
      exact nextS (k + 1) ⟨by omega, hyes P.pageR k hall (by rw [hpr, hpos]; rfl)⟩
    · have hpos' : 0 < x.own := by simpa using hpos
      have hg0 := hv.gs0 (i := (x.own - 1).toNat) (by omega)
      have hg1 := hv.gs1 (i := (x.own - 1).toNat) (by omega)
      refine runG ?_
      refine st_cond _ rfl (fun hc4 => ?_) (fun hc4 => ?_)
      · refine run ?_
        refine fin1 ?_
        rw [hbad (by rw [hpr, hc4]; rfl)]
      · refine run ?_
        exact nextS (k + 1) ⟨by omega, hyes P.pageR k hall (by rw [hpr, hc4]; rfl)⟩
  have hge : k = P.pages.length := by simp at hc; omega
  subst hge
  rw [show allB P.pages.length P.pageR = true from allB_iff.2 hall, Bool.true_and] at hmay
  clear hall hm hk hc
  refine run ?_
  refine loopS (σ := Nat) (fun k => [(7, .int .i64 (k : Int))]) (fun s => [⟨B, #[L.pv P.pages.length, L.gv P.guests.length, L.ov P.on.length], 26⟩]) (fun k => k ≤ 4 ∧ ∀ j, j < k → P.oneR j = true) (fun k => 4 - k) 0 ⟨by omega, fun j hj => absurd hj (by omega)⟩ ?_
  rintro k m hm ⟨hk, hall⟩
  refine run ?_
  refine st_cond _ rfl (fun hc => ?_) (fun hc => ?_)
  · have hlt : k < 4 := by simp at hc; omega
    refine run ?_
    refine callE (fun wc hG => guestOne_e (hv.good hG) ⟨np0, np1, ng4, no0, no1⟩ k (by omega) ((k : Int) + 1) rfl) ?_
    refine run ?_
    refine st_cond _ rfl (fun hp => ?_) (fun hp => ?_)
    · refine run ?_
      refine fin1 ?_
      rw [hmay, hno 4 _ k hlt (by simpa using hp)]
      rfl
    · refine run ?_
      exact nextS (k + 1) ⟨by omega, hyes P.oneR k hall (by simpa using hp)⟩
  have hge : k = 4 := by simp at hc; omega
  subst hge
  rw [show allB 4 P.oneR = true from allB_iff.2 hall, Bool.true_and] at hmay
  clear hall hm hk hc
  refine run ?_
  refine loopS (σ := Nat) (fun k => [(8, .int .i64 (k : Int))]) (fun s => [⟨B, #[L.pv P.pages.length, L.gv P.guests.length, L.ov P.on.length], 26⟩]) (fun k => k ≤ P.on.length ∧ ∀ j, j < k → P.seatR j = true) (fun k => P.on.length - k) 0 ⟨by omega, fun j hj => absurd hj (by omega)⟩ ?_
  rintro k m hm ⟨hk, hall⟩
  refine run ?_
  refine st_cond _ rfl (fun hc => ?_) (fun hc => ?_)
  · have hlt : k < P.on.length := by simp at hc; omega
    have hrs := hv.st k hlt
    have hsr : P.seatR k = !((decide ((P.st k).vm = 0) && !decide ((P.st k).cpu = 0)) || (!decide ((P.st k).vm = 0) && (!P.guestR (P.st k).vm || decide ((P.st k).cpu < 0) || decide ((((P.gs ((P.st k).vm - 1).toNat).vcpus.length : Nat) : Int) ≤ (P.st k).cpu) || !decide ((P.gs ((P.st k).vm - 1).toNat).vcpus.getD (P.st k).cpu.toNat 0 = (k : Int))))) := by
      simp only [PtD.seatR, ne_eq, decide_not, ge_iff_le]
    have hbad : P.seatR k = false → P.mayR = false := fun h => by rw [hmay, hno _ _ k hlt h]
    obtain ⟨hwf, hwf2⟩ := hv.wf.st k hlt
    generalize P.st k = x at hrs hsr hwf hwf2
    refine run ?_
    intro X
    refine drawAll ?_
    refine runDG ?_
    cases h0 : decide (x.vm = 0)
    case true =>
      rw [h0] at hsr
      cases hz : decide (x.cpu = 0)
      · refine runDG ?_
        refine runG ?_
        refine st_cond _ rfl (fun hp => ?_) (fun hp => absurd hp (by simp))
        refine run ?_
        refine fin1 ?_
        rw [hbad (by rw [hsr, hz]; rfl)]
      · refine runDG ?_
        refine runG ?_
        refine st_cond _ rfl (fun hp => absurd hp (by simp)) (fun hp => ?_)
        refine run ?_
        exact nextS (k + 1) ⟨by omega, hyes P.seatR k hall (by rw [hsr, hz]; rfl)⟩
    rw [h0] at hsr
    refine callDGG (fun h0 h1 wc hG => guestR_e (hv.good hG) _ _ x.vm hwf) ?_
    cases hgu : P.guestR x.vm
    case false =>
      rw [hgu] at hsr
      refine runDG ?_
      refine runG ?_
      refine st_cond _ rfl (fun hp => ?_) (fun hp => absurd hp (by simp))
      refine run ?_
      refine fin1 ?_
      rw [hbad (by rw [hsr]; simp)]
    rw [hgu] at hsr
    have hgu' := hgu
    simp only [PtD.guestR, Bool.and_eq_true, decide_eq_true_eq] at hgu'
    have hi4 : (x.vm - 1).toNat < P.guests.length := by omega
    obtain ⟨q2, cap2, hvv, hne2, hle2⟩ := (hv.vc _ hi4).opened
    have hg3 := hv.gs3 hi4
    have hrow := hv.vc _ hi4
    rw [hvv] at hg3 hrow
    refine runDG ?_
    cases hlo : decide (x.cpu < 0)
    case true =>
      rw [hlo] at hsr
      refine runDG ?_
      refine runG ?_
      refine st_cond _ rfl (fun hp => ?_) (fun hp => absurd hp (by simp))
      refine run ?_
      refine fin1 ?_
      rw [hbad (by rw [hsr]; simp)]
    rw [hlo] at hsr
    refine runDG ?_
    cases hhi : decide ((((P.gs (x.vm - 1).toNat).vcpus.length : Nat) : Int) ≤ x.cpu)
    case true =>
      rw [hhi] at hsr
      refine runDG ?_
      refine runG ?_
      refine st_cond _ rfl (fun hp => ?_) (fun hp => absurd hp (by simp))
      refine run ?_
      refine fin1 ?_
      rw [hbad (by rw [hsr]; simp)]
    rw [hhi] at hsr
    simp only [decide_eq_false_iff_not] at hlo hhi
    obtain ⟨b2, o2, rfl⟩ := hne2 (by intro e; rw [e] at hhi; simp at hhi; omega)
    have hx := rangeAt_cell0 (hrow.row (k := x.cpu.toNat) (by omega))
    rw [Nat.mul_one, show (default : Int) = 0 from rfl] at hx
    refine runDG ?_
    refine runG ?_
    refine st_cond _ rfl (fun hp => ?_) (fun hp => ?_)
    · refine run ?_
      refine fin1 ?_
      rw [hbad (by rw [hsr]; simp at hp; simp [hp])]
    · refine run ?_
      exact nextS (k + 1) ⟨by omega, hyes P.seatR k hall (by rw [hsr]; simp at hp; simp [hp])⟩
  have hge : k = P.on.length := by simp at hc; omega
  subst hge
  rw [show allB P.on.length P.seatR = true from allB_iff.2 hall] at hmay
  refine run ?_
  refine fin1 ?_
  rw [hmay]
end Go.Proofs.Ytjnndchkblnkgaa

/- Layer 18 (part): are two partitions the same? -/
namespace Go.Proofs.Ytjnndchkblnkgaa
open Go.RowKit
set_option linter.unusedVariables false
set_option linter.unusedSimpArgs false
set_option maxRecDepth 20000
attribute [local irreducible] Hy St Ops DH DHF
theorem eqPages_e {w : World} (xs : List PgD) (u v : Value) (hu : SlAt w u 2 (xs.map pgV)) (hv : SlAt w v 2 (xs.map pgV)) : Fn Try.prog 30 [u, v].toArray w [] (fun r _ => r = .bool true) := by
  obtain ⟨q, cap, rfl, hne, hle⟩ := hu.opened
  obtain ⟨q2, cap2, rfl, hne2, _⟩ := hv.opened
  refine enter Try.func30 ?_
  refine run ?_
  refine st_cond _ rfl (fun hc => absurd hc (by simp)) (fun hc => ?_)
  refine run ?_
  refine loopS (σ := Nat) (fun k => [(5, .int .i64 (k : Int))]) (fun _ => []) (fun k => k ≤ xs.length) (fun k => xs.length - k) 0 (Nat.zero_le _) ?_
  rintro k m hm hk
  refine run ?_
  refine st_cond _ rfl (fun hc => ?_) (fun hc => ?_)
  · have hlt : k < xs.length := by simp at hc; omega
    obtain ⟨b, o, rfl⟩ := hne (by intro e; subst e; simp at hlt)
    obtain ⟨b2, o2, rfl⟩ := hne2 (by intro e; subst e; simp at hlt)
    have h1 := (hu.row hlt)
    have h2 := (hv.row hlt)
    simp only [pgV] at h1 h2
    refine run ?_
    refine drawAll ?_
    refine runD ?_
    refine run ?_
    refine st_cond _ rfl (fun hp => ?_) (fun hp => ?_)
    · simp [eqLeaves, eqLeaf] at hp
    · refine run ?_
      exact nextS (k + 1) hlt
  · refine run ?_
    exact fin1 rfl
theorem eqSeats_e {w : World} (xs : List StD) (u v : Value) (hu : SlAt w u 2 (xs.map stV)) (hv : SlAt w v 2 (xs.map stV)) : Fn Try.prog 32 [u, v].toArray w [] (fun r _ => r = .bool true) := by
  obtain ⟨q, cap, rfl, hne, hle⟩ := hu.opened
  obtain ⟨q2, cap2, rfl, hne2, _⟩ := hv.opened
  refine enter Try.func32 ?_
  refine run ?_
  refine st_cond _ rfl (fun hc => absurd hc (by simp)) (fun hc => ?_)
  refine run ?_
  refine loopS (σ := Nat) (fun k => [(5, .int .i64 (k : Int))]) (fun _ => []) (fun k => k ≤ xs.length) (fun k => xs.length - k) 0 (Nat.zero_le _) ?_
  rintro k m hm hk
  refine run ?_
  refine st_cond _ rfl (fun hc => ?_) (fun hc => ?_)
  · have hlt : k < xs.length := by simp at hc; omega
    obtain ⟨b, o, rfl⟩ := hne (by intro e; subst e; simp at hlt)
    obtain ⟨b2, o2, rfl⟩ := hne2 (by intro e; subst e; simp at hlt)
    have h1 := (hu.row hlt)
    have h2 := (hv.row hlt)
    simp only [stV] at h1 h2
    refine run ?_
    refine drawAll ?_
    refine runD ?_
    refine run ?_
    refine st_cond _ rfl (fun hp => ?_) (fun hp => ?_)
    · simp [eqLeaves, eqLeaf] at hp
    · refine run ?_
      exact nextS (k + 1) hlt
  · refine run ?_
    exact fin1 rfl
theorem eqMaps_e {w : World} (xs : List MpD) (u v : Value) (hu : SlAt w u 2 (xs.map mpV)) (hv : SlAt w v 2 (xs.map mpV)) : Fn Try.prog 77 [u, v].toArray w [] (fun r _ => r = .bool true) := by
  obtain ⟨q, cap, rfl, hne, hle⟩ := hu.opened
  obtain ⟨q2, cap2, rfl, hne2, _⟩ := hv.opened
  refine enter Try.func77 ?_
  refine run ?_
  refine st_cond _ rfl (fun hc => absurd hc (by simp)) (fun hc => ?_)
  refine run ?_
  refine loopS (σ := Nat) (fun k => [(5, .int .i64 (k : Int))]) (fun _ => []) (fun k => k ≤ xs.length) (fun k => xs.length - k) 0 (Nat.zero_le _) ?_
  rintro k m hm hk
  refine run ?_
  refine st_cond _ rfl (fun hc => ?_) (fun hc => ?_)
  · have hlt : k < xs.length := by simp at hc; omega
    obtain ⟨b, o, rfl⟩ := hne (by intro e; subst e; simp at hlt)
    obtain ⟨b2, o2, rfl⟩ := hne2 (by intro e; subst e; simp at hlt)
    have h1 := (hu.row hlt)
    have h2 := (hv.row hlt)
    simp only [mpV] at h1 h2
    refine run ?_
    refine drawAll ?_
    refine runD ?_
    refine run ?_
    refine st_cond _ rfl (fun hp => ?_) (fun hp => ?_)
    · simp [eqLeaves, eqLeaf] at hp
    · refine run ?_
      exact nextS (k + 1) hlt
  · refine run ?_
    exact fin1 rfl
theorem eqNumbers_e {w : World} (xs : List Int) (u v : Value) (hu : SlAt w u 1 (xs.map inV)) (hv : SlAt w v 1 (xs.map inV)) : Fn Try.prog 76 [u, v].toArray w [] (fun r _ => r = .bool true) := by
  obtain ⟨q, cap, rfl, hne, hle⟩ := hu.opened
  obtain ⟨q2, cap2, rfl, hne2, _⟩ := hv.opened
  refine enter Try.func76 ?_
  refine run ?_
  refine st_cond _ rfl (fun hc => absurd hc (by simp)) (fun hc => ?_)
  refine run ?_
  refine loopS (σ := Nat) (fun k => [(5, .int .i64 (k : Int))]) (fun _ => []) (fun k => k ≤ xs.length) (fun k => xs.length - k) 0 (Nat.zero_le _) ?_
  rintro k m hm hk
  refine run ?_
  refine st_cond _ rfl (fun hc => ?_) (fun hc => ?_)
  · have hlt : k < xs.length := by simp at hc; omega
    obtain ⟨b, o, rfl⟩ := hne (by intro e; subst e; simp at hlt)
    obtain ⟨b2, o2, rfl⟩ := hne2 (by intro e; subst e; simp at hlt)
    have h1 := rangeAt_cell0 (hu.row hlt)
    have h2 := rangeAt_cell0 (hv.row hlt)
    simp only [inV, Nat.mul_one] at h1 h2
    refine run ?_
    refine drawAll ?_
    refine runD ?_
    refine run ?_
    refine st_cond _ rfl (fun hp => ?_) (fun hp => ?_)
    · simp [eqLeaves, eqLeaf] at hp
    · refine run ?_
      exact nextS (k + 1) hlt
  · refine run ?_
    exact fin1 rfl
/-- What a guest's cells are. -/
abbrev gsV (g : GsD) (vv mv : Value) : List Value := [.bool g.live, .bool g.dying, .int .i64 g.first, vv, mv]
theorem eqGuest_e {w : World} (g g' : GsD) (e : g' = g) (a b c d : Value) (ha : SlAt w a 1 (g.vcpus.map inV)) (hb : SlAt w b 2 (g.maps.map mpV)) (hc : SlAt w c 1 (g.vcpus.map inV)) (hd : SlAt w d 2 (g.maps.map mpV)) :
    Fn Try.prog 56 [.agg #[.bool g.live, .bool g.dying, .int .i64 g.first, a, b], .agg #[.bool g'.live, .bool g'.dying, .int .i64 g'.first, c, d]].toArray w [] (fun r _ => r = .bool true) := by
  refine enter Try.func56 ?_
  refine run ?_
  intro B C
  refine runG ?_
  refine callEG (fun hg wc hG => eqNumbers_e _ _ _ (ha.good hG) (hc.good hG)) ?_
  refine runG ?_
  refine callEG (fun hg wc hG => eqMaps_e _ _ _ (hb.good hG) (hd.good hG)) ?_
  refine runG ?_
  refine fin1 ?_
  subst e
  simp
theorem eqGuests_e {w : World} {u v : Value} {P : PtD} (hl : P.guests.length ≤ 281474976710656) (vv mv vv' mv' : Nat → Value) (hu : SlAt w u 5 ((List.range P.guests.length).map fun i => [.bool (P.gs i).live, .bool (P.gs i).dying, .int .i64 (P.gs i).first, vv i, mv i])) (hu2 : ∀ i, i < P.guests.length → SlAt w (vv i) 1 ((P.gs i).vcpus.map inV) ∧ SlAt w (mv i) 2 ((P.gs i).maps.map mpV))
    (hv : SlAt w v 5 ((List.range P.guests.length).map fun i => [.bool (P.gs i).live, .bool (P.gs i).dying, .int .i64 (P.gs i).first, vv' i, mv' i])) (hv2 : ∀ i, i < P.guests.length → SlAt w (vv' i) 1 ((P.gs i).vcpus.map inV) ∧ SlAt w (mv' i) 2 ((P.gs i).maps.map mpV)) :
    Fn Try.prog 31 [u, v].toArray w [] (fun r _ => r = .bool true) := by
  obtain ⟨⟨q, cap, rfl, hne⟩, _⟩ := hu
  obtain ⟨⟨q2, cap2, rfl, hne2⟩, _⟩ := hv
  simp only [List.length_map, List.length_range]
  refine enter Try.func31 ?_
  refine run ?_
  refine st_cond _ rfl (fun hc => absurd hc (by simp)) (fun hc => ?_)
  refine run ?_
  refine loopS (σ := Nat) (fun k => [(5, .int .i64 (k : Int))]) (fun _ => []) (fun k => k ≤ P.guests.length) (fun k => P.guests.length - k) 0 (Nat.zero_le _) ?_
  rintro k m hm hk
  refine run ?_
  refine st_cond _ rfl (fun hc => ?_) (fun hc => ?_)
  · have hlt : k < P.guests.length := by simp at hc; omega
    have hnn : ∀ f : Nat → List Value, (List.range P.guests.length).map f ≠ [] := fun f e => by rw [List.map_eq_nil_iff, List.range_eq_nil] at e; omega
    obtain ⟨b, o, rfl, h1⟩ := hne (hnn _)
    obtain ⟨b2, o2, rfl, h2⟩ := hne2 (hnn _)
    have h1 := h1 k _ (getD_range_map _ hlt)
    have h2 := h2 k _ (getD_range_map _ hlt)
    obtain ⟨a1, a2⟩ := hu2 k hlt
    obtain ⟨a3, a4⟩ := hv2 k hlt
    refine run ?_
    refine drawAll ?_
    refine runD ?_
    refine callD (fun wc hG => eqGuest_e (P.gs k) (P.gs k) rfl _ _ _ _ (a1.good hG) (a2.good hG) (a3.good hG) (a4.good hG)) ?_
    refine runD ?_
    refine run ?_
    refine st_cond _ rfl (fun hp => absurd hp (by simp)) (fun hp => ?_)
    refine run ?_
    exact nextS (k + 1) hlt
  · refine run ?_
    exact fin1 rfl
theorem eqPart_e {w : World} {pv gv ov pv' gv' ov' : Value} {P : PtD} (h : PartG w pv gv ov P) (h' : PartG w pv' gv' ov' P) : Fn Try.prog 14 [.agg #[pv, gv, ov], .agg #[pv', gv', ov']].toArray w [] (fun r _ => r = .bool true) := by
  obtain ⟨a1, a2, a3⟩ := h.agg
  obtain ⟨b1, b2, b3⟩ := h'.agg
  obtain ⟨p1, ⟨vv, mv, g1, g2⟩, o1, wf⟩ := h
  obtain ⟨p1', ⟨vv', mv', g1', g2'⟩, o1', _⟩ := h'
  obtain ⟨p, pc, rfl, _⟩ := p1.opened
  obtain ⟨o, oc, rfl, _⟩ := o1.opened
  obtain ⟨g, gc, rfl, hl⟩ : ∃ g gc, gv = .slice g P.guests.length gc ∧ P.guests.length ≤ 281474976710656 := by
    obtain ⟨⟨g, gc, e, _⟩, hl⟩ := g1
    simp only [List.length_map, List.length_range] at e hl
    exact ⟨g, gc, e, hl⟩
  refine enter Try.func14 ?_
  refine run ?_
  intro B C
  refine run ?_
  refine callE (fun wc hG => eqPages_e _ _ _ (p1.good hG) (p1'.good hG)) ?_
  refine runG ?_
  refine callEG (fun hg wc hG => eqGuests_e hl _ _ _ _ (g1.good hG) (fun i hi => ⟨(g2 i hi).1.good hG, (g2 i hi).2.good hG⟩) (g1'.good hG) (fun i hi => ⟨(g2' i hi).1.good hG, (g2' i hi).2.good hG⟩)) ?_
  refine runG ?_
  refine callEG (fun hg wc hG => eqSeats_e _ _ _ (o1.good hG) (o1'.good hG)) ?_
  refine runG ?_
  refine fin1 ?_
  rfl
end Go.Proofs.Ytjnndchkblnkgaa

/- Layer 18 (part): how much a partition is; the reference's first one. -/
namespace Go.Proofs.Ytjnndchkblnkgaa
open Go.RowKit
set_option linter.unusedVariables false
set_option linter.unusedSimpArgs false
set_option maxRecDepth 20000
attribute [local irreducible] Hy St Ops DH DHF
/-- It is small. -/
structure PtD.Small (P : PtD) (n : Nat) : Prop where
  pg : P.pages.length ≤ n
  gs : P.guests.length ≤ n
  on : P.on.length ≤ n
  vc : ∀ i, i < P.guests.length → (P.gs i).vcpus.length ≤ n ∧ (P.gs i).maps.length ≤ n
section
variable {w : World} {pv gv ov : Value} {P : PtD}
theorem weight_e (h : PartG w pv gv ov P) : Fn Try.prog 16 [.agg #[pv, gv, ov]].toArray w [] (fun u _ => ∃ n : Int, u = .int .i64 n ∧ (n ≤ 600 → P.Small 600)) := by
  obtain ⟨p1, ⟨vv, mv, ⟨⟨g, gc, e2, hg⟩, hl⟩, g2⟩, o1, wf⟩ := h
  obtain ⟨p, pc, rfl, _, hl1⟩ := p1.opened
  obtain ⟨o, oc, rfl, _, hl2⟩ := o1.opened
  subst e2
  simp only [List.length_map, List.length_range] at hl ⊢
  refine enter Try.func16 ?_
  refine run ?_
  intro B
  refine run ?_
  refine loopS (σ := Nat × Int) (fun s => [(3, .int .i64 s.2), (4, .int .i64 (s.1 : Int))]) (fun s => [⟨B, #[.slice p P.pages.length pc, .slice g P.guests.length gc, .slice o P.on.length oc], 26⟩]) (fun s => s.1 ≤ P.guests.length ∧ (P.pages.length : Int) + P.guests.length + P.on.length ≤ s.2 ∧ s.2 ≤ 3000000000000000 ∧ ∀ j, j < s.1 → ((P.gs j).vcpus.length : Int) + (P.gs j).maps.length ≤ s.2) (fun s => P.guests.length - s.1) (0, (P.pages.length : Int) + P.guests.length + P.on.length) ⟨by omega, by simp, by dsimp only; omega, fun j hj => absurd hj (by simp)⟩ ?_
  rintro ⟨k, n⟩ m hm ⟨hk, h0, h1, h2⟩
  dsimp only at hm hk h0 h1 h2 ⊢
  refine runG ?_
  refine st_cond _ rfl (fun hc => ?_) (fun hc => ?_)
  · simp only [Bool.and_eq_true, decide_eq_true_eq] at hc
    have hlt : k < P.guests.length := by omega
    obtain ⟨b, o, rfl, hr⟩ := hg (fun e => by rw [List.map_eq_nil_iff, List.range_eq_nil] at e; omega)
    have hr := hr k _ (getD_range_map _ hlt)
    obtain ⟨a1, a2⟩ := g2 k hlt
    obtain ⟨q, qc, ev, _, lv⟩ := a1.opened
    obtain ⟨q2, qc2, em, _, lm⟩ := a2.opened
    rw [ev, em] at hr
    have hc3 := rangeAt_cell (k := 3) hr rfl
    have hc4 := rangeAt_cell (k := 4) hr rfl
    refine run ?_
    refine drawN 17 ?_
    refine runD ?_
    refine run ?_
    refine nextS (k + 1, n + ((P.gs k).vcpus.length : Int) + ((P.gs k).maps.length : Int)) ⟨by omega, by dsimp only; omega, by dsimp only; omega, fun j hj => ?_⟩
    dsimp only at hj ⊢
    rcases Nat.lt_succ_iff_lt_or_eq.1 hj with hj | rfl
    · have := h2 j hj; omega
    · omega
  · refine run ?_
    refine fin1 ?_
    refine ⟨n, rfl, fun hn => ⟨by omega, by omega, by omega, fun i hi => ?_⟩⟩
    have : k = P.guests.length := by
      simp only [Bool.and_eq_false_iff, decide_eq_false_iff_not] at hc
      omega
    subst this
    have := h2 i hi
    omega
theorem heavy_e {lv : Value} {lp : Option Addr} {ln lc : Nat} (hlv : lv = .slice lp ln lc) (h : PartG w pv gv ov P) : Fn Try.prog 6 [.agg #[pv, gv, ov, lv]].toArray w [] (fun u _ => ∃ b, u = .bool b ∧ (b = false → P.Small 600 ∧ ln ≤ 500)) := by
  subst hlv
  obtain ⟨a1, a2, a3⟩ := h.agg
  refine enter Try.func6 ?_
  refine run ?_
  intro B
  refine run ?_
  refine callV (fun wc hG => (weight_e (h.good hG))) ?_
  rintro _ ⟨n, rfl, hn⟩
  refine runG ?_
  refine fin1 ?_
  refine ⟨_, rfl, fun hb => ?_⟩
  simp only [Bool.or_eq_false_iff, decide_eq_false_iff_not] at hb
  exact ⟨hn (by omega), by omega⟩
end
end Go.Proofs.Ytjnndchkblnkgaa

/- Layer 18 (part): the reference's first partition. -/
namespace Go.Proofs.Ytjnndchkblnkgaa
open Go.RowKit
set_option linter.unusedVariables false
set_option linter.unusedSimpArgs false
set_option maxRecDepth 20000
attribute [local irreducible] Hy St Ops DH DHF
end Go.Proofs.Ytjnndchkblnkgaa

/- Layer 18 (part): wakes. -/
namespace Go.Proofs.Ytjnndchkblnkgaa
open Go.RowKit
set_option linter.unusedVariables false
set_option linter.unusedSimpArgs false
set_option maxRecDepth 20000
attribute [local irreducible] Hy St Ops DH DHF
/-- The world as it is now. -/
theorem opsW {P : Program} {n : Nat} {w0 : World} {mu : List Nat} {l : Fm} {hp : Hp} {Q : Exit → Fm → Hp → Prop} {all : Array Oper} {ops : List Oper} (h : ∀ w, Good w0 mu hp w → Ops P n w0 mu all ops l hp Q) : Ops P n w0 mu all ops l hp Q := by
  unfold Ops at h ⊢
  exact fun a w hk hg => h w hg a w hk hg
theorem stW {P : Program} {n : Nat} {w0 : World} {mu : List Nat} {l : Fm} {hp : Hp} {Q : Exit → Fm → Hp → Prop} {c : Code} (h : ∀ w, Good w0 mu hp w → St P n w0 mu c l hp Q) : St P n w0 mu c l hp Q := by
  unfold St at h ⊢
  exact fun a w hk hg => h w hg a w hk hg
/-- Three slices. -/
theorem PartG.slices {w : World} {pv gv ov : Value} {P : PtD} (h : PartG w pv gv ov P) : ∃ p pc g gc o oc, pv = .slice p P.pages.length pc ∧ gv = .slice g P.guests.length gc ∧ ov = .slice o P.on.length oc ∧ P.pages.length ≤ 281474976710656 ∧ P.guests.length ≤ 281474976710656 ∧ P.on.length ≤ 281474976710656 := by
  obtain ⟨p1, ⟨vv, mv, ⟨⟨g, gc, e2, hg⟩, hl⟩, g2⟩, o1, wf⟩ := h
  obtain ⟨p, pc, rfl, _, hl1⟩ := p1.opened
  obtain ⟨o, oc, rfl, _, hl2⟩ := o1.opened
  simp only [List.length_map, List.length_range] at e2 hl
  exact ⟨p, pc, g, gc, o, oc, rfl, e2, rfl, hl1, hl, hl2⟩
theorem ofBoot : ofL (bootL 24 1) 0 = (8, 8, 0) := by kernel_rfl
theorem wakes_e (w : World) : Fn Try.prog 12 [].toArray w [] (fun u _ => u = .bool true) := by
  refine enter Try.func12 ?_
  refine run ?_
  refine callB (fun wc hG => boot_e 24 1 wc) ?_
  intro v hn hb
  obtain ⟨pv, gv, ov, rfl, hp⟩ : ∃ pv gv ov, v = .tuple #[.agg #[pv, gv, ov], .int .i64 0] ∧ ∀ w, Here hn w → PartG w pv gv ov (bootL 24 1) := hb
  refine opsW fun wn hGn => ?_
  obtain ⟨p, pc, g, gc, o, oc, rfl, rfl, rfl, _⟩ := (hp wn (hGn.lie fun e he => by simp [he])).slices
  refine run ?_
  intro B
  refine callE (fun wc hG => of_e (hp wc (hG.lie fun e he => by simp [he])) 0) ?_
  rw [ofBoot]
  refine run ?_
  refine callE (fun wc hG => num18_e _ wc) ?_
  refine runG ?_
  refine callEG (fun hg wc hG => num18_e _ wc) ?_
  refine runG ?_
  refine fin1 ?_
  rfl
end Go.Proofs.Ytjnndchkblnkgaa

/- The engine: slices of one's own that are written: nil, or rows in a block of their own. -/
namespace Go.Proofs.Ytjnndchkblnkgaa
open Go.RowKit
set_option linter.unusedVariables false
set_option linter.unusedSimpArgs false
set_option maxRecDepth 20000
theorem putAt_size : ∀ (vs : List Value) (cs : Array Value) (o : Nat), (putAt cs o vs).size = cs.size := by
  intro vs
  induction vs with
  | nil => intro cs o; rfl
  | cons v r ih => intro cs o; rw [putAt, ih]; simp
theorem putAt_list : ∀ (vs : List Value) (cs : Array Value) (o : Nat), o + vs.length ≤ cs.size → (putAt cs o vs).toList = cs.toList.take o ++ vs ++ cs.toList.drop (o + vs.length) := by
  intro vs
  induction vs with
  | nil => intro cs o h; simp [putAt]
  | cons v r ih =>
    intro cs o h
    simp only [List.length_cons] at h
    rw [putAt, ih _ _ (by simp; omega)]
    simp only [Array.toList_setIfInBounds]
    have ho : o < cs.toList.length := by simp; omega
    have h1 : (cs.toList.take o).length = o := by simp; omega
    rw [List.set_eq_take_append_cons_drop, if_pos ho, List.take_append, List.drop_append, h1]
    have e1 : o + 1 - o = 1 := by omega
    have e2 : o + 1 + r.length - o = r.length + 1 := by omega
    rw [e1, e2, List.take_of_length_le (show (cs.toList.take o).length ≤ o + 1 by omega), List.drop_eq_nil_of_le (show (cs.toList.take o).length ≤ o + 1 + r.length by omega)]
    simp only [List.take_succ_cons, List.take_zero, List.nil_append, List.drop_succ_cons, List.drop_drop, List.append_assoc, List.cons_append, List.length_cons]
    rw [show o + 1 + r.length = o + (r.length + 1) by omega]
theorem flatten_len {α : Type} {sz : Nat} : ∀ (xs : List (List α)), (∀ c ∈ xs, c.length = sz) → xs.flatten.length = xs.length * sz := by
  intro xs
  induction xs with
  | nil => intro _; simp
  | cons x r ih =>
    intro h
    rw [List.flatten_cons, List.length_append, ih (fun c hc => h c (List.mem_cons_of_mem _ hc)), h x (List.mem_cons_self ..), List.length_cons, Nat.succ_mul, Nat.add_comm]
/-- A row's cell. -/
theorem Row.nth {g cap sz n : Nat} {cur : Array Value} {xs : List (List Value)} (h : Row g cap cur sz n xs.flatten) (hall : ∀ c ∈ xs, c.length = sz) {i k : Nat} {c : List Value} {u : Value} (hi : xs[i]? = some c) (hk : c[k]? = some u) : Proofs.Ytjnndchkblnkgaa.nth cur.toList (i * sz + k) = some u := by
  refine nth_of_row (n := sz) (c := c) ?_ hk
  have hf := flatten_row hall hi
  rw [← h.take] at hf
  have hlt : i < xs.length := (List.getElem?_eq_some_iff.1 hi).1
  have hn : xs.length * sz = n * sz := by rw [← flatten_len xs hall, h.len]
  have hle : i * sz + sz ≤ n * sz := by rw [← hn, ← Nat.succ_mul]; exact Nat.mul_le_mul_right _ hlt
  rw [List.drop_take, List.take_take, Nat.min_eq_left (by omega)] at hf
  exact hf
/-- Some cells of a row written. -/
theorem Row.put {g cap sz n : Nat} {cur : Array Value} {xs : List (List Value)} (h : Row g cap cur sz n xs.flatten) (hall : ∀ c ∈ xs, c.length = sz) {i k : Nat} {c vs : List Value} (hi : xs[i]? = some c) (hk : k + vs.length ≤ sz) :
    Row g cap (putAt cur (i * sz + k) vs) sz n (xs.set i (c.take k ++ vs ++ c.drop (k + vs.length))).flatten := by
  have hlt : i < xs.length := (List.getElem?_eq_some_iff.1 hi).1
  have hc : xs[i] = c := (List.getElem?_eq_some_iff.1 hi).2
  have hcl : c.length = sz := hall c (List.mem_of_getElem? hi)
  have hn : xs.length * sz = n * sz := by rw [← flatten_len xs hall, h.len]
  have hle : i * sz + sz ≤ n * sz := by rw [← hn, ← Nat.succ_mul]; exact Nat.mul_le_mul_right _ hlt
  have hcap : n * sz ≤ cap * sz := Nat.mul_le_mul_right _ h.le
  have hsz := h.size
  have hxs : xs = xs.take i ++ c :: xs.drop (i + 1) := by
    rw [← hc]; simp
  have hset : xs.set i (c.take k ++ vs ++ c.drop (k + vs.length)) = xs.take i ++ (c.take k ++ vs ++ c.drop (k + vs.length)) :: xs.drop (i + 1) := by
    rw [List.set_eq_take_append_cons_drop, if_pos hlt]
  have hA : ((xs.take i).flatten).length = i * sz := by
    rw [flatten_len (xs.take i) (fun c hc => hall c (List.mem_of_mem_take hc)), List.length_take, Nat.min_eq_left (by omega)]
  have hcur : cur.toList = (xs.take i).flatten ++ (c ++ ((xs.drop (i + 1)).flatten ++ cur.toList.drop (n * sz))) := by
    have h1 := List.take_append_drop (n * sz) cur.toList
    rw [h.take] at h1
    conv => lhs; rw [← h1, hxs]
    rw [List.flatten_append, List.flatten_cons, List.append_assoc, List.append_assoc]
  have hfl : (xs.set i (c.take k ++ vs ++ c.drop (k + vs.length))).flatten = (xs.take i).flatten ++ ((c.take k ++ vs ++ c.drop (k + vs.length)) ++ (xs.drop (i + 1)).flatten) := by
    rw [hset, List.flatten_append, List.flatten_cons]
  have hdl : ((xs.drop (i + 1)).flatten).length = n * sz - (i * sz + sz) := by
    rw [flatten_len (xs.drop (i + 1)) (fun c hc => hall c (List.mem_of_mem_drop hc)), List.length_drop, Nat.sub_mul, hn, Nat.succ_mul]
  refine ⟨?_, h.le, h.max, by rw [putAt_size]; exact hsz, ?_⟩
  · rw [hfl]
    simp only [List.length_append, hA, hdl, List.length_take, List.length_drop, hcl]
    omega
  · rw [putAt_list _ _ _ (by omega), hfl]
    conv => lhs; rw [hcur]
    have hB : (c ++ ((xs.drop (i + 1)).flatten ++ cur.toList.drop (n * sz))).take k = c.take k := by rw [List.take_append, show k - c.length = 0 by omega]; simp
    have hC : (c ++ ((xs.drop (i + 1)).flatten ++ cur.toList.drop (n * sz))).drop (k + vs.length) = c.drop (k + vs.length) ++ ((xs.drop (i + 1)).flatten ++ cur.toList.drop (n * sz)) := by rw [List.drop_append, show k + vs.length - c.length = 0 by omega]; simp
    have hT : ((xs.take i).flatten ++ (c ++ ((xs.drop (i + 1)).flatten ++ cur.toList.drop (n * sz)))).take (i * sz + k) = (xs.take i).flatten ++ c.take k := by
      rw [List.take_append, hA, List.take_of_length_le (by omega), show i * sz + k - i * sz = k by omega, hB]
    have hD : ((xs.take i).flatten ++ (c ++ ((xs.drop (i + 1)).flatten ++ cur.toList.drop (n * sz)))).drop (i * sz + k + vs.length) = c.drop (k + vs.length) ++ ((xs.drop (i + 1)).flatten ++ cur.toList.drop (n * sz)) := by
      rw [List.drop_append, hA, List.drop_eq_nil_of_le (by omega), show i * sz + k + vs.length - i * sz = k + vs.length by omega, hC]; simp
    rw [hT, hD]
    have : (xs.take i).flatten ++ c.take k ++ vs ++ (c.drop (k + vs.length) ++ ((xs.drop (i + 1)).flatten ++ cur.toList.drop (n * sz))) = ((xs.take i).flatten ++ (c.take k ++ vs ++ c.drop (k + vs.length) ++ (xs.drop (i + 1)).flatten)) ++ cur.toList.drop (n * sz) := by simp
    rw [this]
    refine List.take_left' ?_
    simp only [List.length_append, hA, hdl, List.length_take, List.length_drop, hcl]
    omega
/-! Blocks counted: what is a permutation, what is a part. -/
open Classical in
noncomputable def oneB (a e : Blk) : Nat := if e = a then 1 else 0
noncomputable def cntB (a : Blk) : Hp → Nat
  | [] => 0
  | e :: r => oneB a e + cntB a r
theorem cntB_nil (a : Blk) : cntB a [] = 0 := rfl
theorem cntB_cons (a e : Blk) (r : Hp) : cntB a (e :: r) = oneB a e + cntB a r := rfl
theorem cntB_app (a : Blk) : ∀ (h r : Hp), cntB a (h ++ r) = cntB a h + cntB a r := by
  intro h
  induction h with
  | nil => intro r; simp [cntB]
  | cons e h ih => intro r; rw [List.cons_append, cntB_cons, cntB_cons, ih]; omega
theorem oneB_self (a : Blk) : oneB a a = 1 := by simp [oneB]
theorem cntB_pos {a : Blk} : ∀ {h : Hp}, 0 < cntB a h → a ∈ h := by
  intro h
  induction h with
  | nil => intro h; simp [cntB] at h
  | cons e r ih =>
    intro h
    by_cases he : e = a
    · subst he; exact List.mem_cons_self ..
    · rw [cntB_cons, show oneB a e = 0 by simp [oneB, he]] at h
      exact List.mem_cons_of_mem _ (ih (by omega))
theorem mem_perm {a : Blk} : ∀ {h : Hp}, a ∈ h → ∃ r, (a :: r).Perm h := by
  intro h hm
  obtain ⟨s, t, rfl⟩ := List.append_of_mem hm
  exact ⟨s ++ t, List.perm_middle.symm⟩
theorem cntB_perm {a : Blk} {h r : Hp} (hp : h.Perm r) : cntB a h = cntB a r := by
  induction hp with
  | nil => rfl
  | cons x _ ih => rw [cntB_cons, cntB_cons, ih]
  | swap x y l => rw [cntB_cons, cntB_cons, cntB_cons, cntB_cons]; omega
  | trans _ _ h1 h2 => rw [h1, h2]
theorem hpLe_cnt : ∀ {r h : Hp}, (∀ a, cntB a r ≤ cntB a h) → HpLe r h := by
  intro r
  induction r with
  | nil => intros; trivial
  | cons e r ih =>
    intro h hc
    have h1 := hc e
    rw [cntB_cons, oneB_self] at h1
    obtain ⟨h', hp⟩ := mem_perm (cntB_pos (a := e) (h := h) (by omega))
    refine ⟨h', hp, ih fun a => ?_⟩
    have h2 := hc a
    rw [← cntB_perm hp, cntB_cons, cntB_cons] at h2
    omega
theorem HpLe.cnt {r h : Hp} (hl : HpLe r h) (a : Blk) : cntB a r ≤ cntB a h := by
  obtain ⟨x, hx⟩ := hl.perm
  have := cntB_perm (a := a) hx
  rw [cntB_app] at this
  omega
theorem perm_cnt : ∀ {r h : Hp}, (∀ a, cntB a r = cntB a h) → r.Perm h := by
  intro r
  induction r with
  | nil =>
    intro h hc
    cases h with
    | nil => exact .refl _
    | cons e h => have := hc e; rw [cntB_cons, oneB_self, cntB_nil] at this; omega
  | cons e r ih =>
    intro h hc
    have h1 := hc e
    rw [cntB_cons, oneB_self] at h1
    obtain ⟨h', hp⟩ := mem_perm (cntB_pos (a := e) (h := h) (by omega))
    refine ((ih fun a => ?_).cons e).trans hp
    have h2 := hc a
    rw [← cntB_perm hp, cntB_cons, cntB_cons] at h2
    omega
/-- A slice of one's own: nil, or in a block of its own. -/
def Own (e : TypeId) (sz : Nat) (v : Value) (h : Hp) (xs : List (List Value)) : Prop :=
  (∀ c ∈ xs, c.length = sz ∧ c.all (·.oneCell') = true) ∧ ((xs = [] ∧ v = .slice none 0 0 ∧ h = []) ∨ ∃ g cap cur, v = .slice (some ⟨g, 0, none⟩) xs.length cap ∧ h = [⟨g, cur, e⟩] ∧ Row g cap cur sz xs.length xs.flatten)
theorem Acc.own {e sz : Nat} {v : Value} {h : Hp} {xs : List (List Value)} (hA : Acc e sz v h xs) : Own e sz v h xs := ⟨hA.1, hA.2.imp id fun h => h.2⟩
theorem Own.opened {e sz : Nat} {v : Value} {h : Hp} {xs : List (List Value)} (hA : Own e sz v h xs) : ∃ p cap, v = .slice p xs.length cap := by
  rcases hA.2 with ⟨rfl, rfl, rfl⟩ | ⟨g, cap, cur, rfl, rfl, hrow⟩
  · exact ⟨_, _, rfl⟩
  · exact ⟨_, _, rfl⟩
theorem Row.range {g cap cur sz n t} {w : World} {xs : List (List Value)} (h : Row g cap cur sz n xs.flatten) (hall : ∀ c ∈ xs, c.length = sz) (hb : w.heap[g]? = some (.cells cur t (0, 0))) {i : Nat} {c : List Value} (hi : xs[i]? = some c) : w.rangeAt g (0 + i * sz) c := by
  intro j u hj
  rw [Nat.zero_add, cell_of_block hb]
  have := h.nth hall hi hj
  rw [nth_eq] at this
  simpa using this
theorem Own.lie {e sz : Nat} {v : Value} {h : Hp} {xs : List (List Value)} {w : World} (hA : Own e sz v h xs) (hh : Here h w) (hle : xs.length ≤ 281474976710656) : SlAt w v sz xs := by
  rcases hA.2 with ⟨rfl, rfl, rfl⟩ | ⟨g, cap, cur, rfl, rfl, hrow⟩
  · exact ⟨⟨none, 0, rfl, fun h => absurd rfl h⟩, hle⟩
  · exact ⟨⟨_, _, rfl, fun _ => ⟨g, 0, rfl, fun i c hc => hrow.range (fun c hc => (hA.1 c hc).1) (hh _ (List.mem_singleton.2 rfl)) hc⟩⟩, hle⟩
/-- A slice's rows as one. -/
theorem range_flatten {w : World} {b sz : Nat} : ∀ (xs : List (List Value)) (o : Nat), (∀ c ∈ xs, c.length = sz) → (∀ i c, xs[i]? = some c → w.rangeAt b (o + i * sz) c) → w.rangeAt b o xs.flatten := by
  intro xs
  induction xs with
  | nil => intro o _ _ j v hj; simp at hj
  | cons x r ih =>
    intro o hs h j v hj
    have hx := hs x (List.mem_cons_self ..)
    rw [List.flatten_cons] at hj
    rcases Nat.lt_or_ge j x.length with hlt | hge
    · rw [List.getElem?_append_left hlt] at hj
      have := h 0 x rfl j v hj
      simpa using this
    · rw [List.getElem?_append_right hge] at hj
      have := ih (o + sz) (fun c hc => hs c (List.mem_cons_of_mem _ hc)) (fun i c hc => by
        have := h (i + 1) c (by simpa using hc)
        rwa [Nat.succ_mul, show o + (i * sz + sz) = o + sz + i * sz by omega] at this) (j - x.length) v hj
      rwa [show o + sz + (j - x.length) = o + j by omega] at this
section
variable {P : Program} {T : Tab} {n : Nat} {w0 : World} {mu : List Nat} {l : Fm} {hp : Hp} {dd : Option Tmp} {ty : TypeId} {pos : String} {af : Array Edge} {gg : Option (Nat × Bool)} {Q : Exit → Fm → Hp → Prop} {all : Array Oper} {rest : List Oper}
/-- A slice without elements, appended: nothing comes. -/
theorem x_append0 (ok : TabOk P T) {t e sz by_ k cap c : Nat} {q : Addr} {p : Option Addr} {x y : Operand} (hx : ev l x = some (.slice (some q) k cap)) (hy : ev l y = some (.slice p 0 c)) (ht : lk T.sl t = some (e, sz)) (hk : k ≤ cap) :
    Hy P n w0 mu l hp ⟨dd, .call { callee := .builtin .append, args := #[x, y], argTypes := #[t, t] }, ty, pos, af, gg⟩ (.slice (some q) k cap) := by
  obtain ⟨hu, hsz⟩ := ok.gsl ht
  refine hy_run fun a w hk' _ => ?_
  have hst : ∀ q : Addr, (storeCells q []).run P w = .ok () w := fun q => by simp [storeCells]
  have hf : (Builtin.firstCells sz 0 (.slice p 0 c)).run P w = .ok #[] w := by
    cases p with
    | none => simp [Builtin.firstCells]
    | some b => exact run_firstCells_some (P := P) w sz 0 b 0 c [] (by simp) (by simp)
  simp only [execOp, resolve, invoke, builtin, Sem.run_bind, Sem.run_pure, Result.andThen_ok, List.map_toArray, List.map_cons, List.map_nil, hk'.ev hx, hk'.ev hy]
  simp [Builtin.append_, run_underlying hu, run_sizeOf hsz w, Builtin.lenOf, hk, hf, hst]
/-- One element appended to a slice of one's own. -/
theorem z_appendW (ok : TabOk P T) {t d e sz by_ cc a : Nat} {x y : Operand} {z v : Value} {c : List Value} {ha hp' : Hp} {xs : List (List Value)} (hA : Own e sz v ha xs) (hd : Nat.blt d n = true) (hx : ev l x = some v) (hy : ev l y = some (.slice (some ⟨a, 0, none⟩) 1 cc)) (ht : lk T.sl t = some (e, sz))
    (hz : lk T.zs e = some z) (hzs : z.cells.size = sz) (hb : lk T.eb e = some by_) (hby : Nat.ble by_ 4096 = true) (hperm : (ha ++ hp').Perm hp) (hl : c.length = sz) (hnews : NewsAt w0 mu hp a 0 c) (h1 : c.all (·.oneCell') = true) (h63 : xs.length < 1000000)
    (h : ∀ v' ha', Own e sz v' ha' (xs ++ [c]) → Ops P n w0 mu all rest ((d, v') :: l) (ha' ++ hp') Q) : Ops P n w0 mu all (⟨some d, .call { callee := .builtin .append, args := #[x, y], argTypes := #[t, t] }, ty, pos, af, none⟩ :: rest) l hp Q := by
  have hby' : by_ ≤ 4096 := Nat.le_of_ble_eq_true hby
  have hall : ∀ c' ∈ xs ++ [c], c'.length = sz ∧ c'.all (·.oneCell') = true := by
    intro c' hc'
    rcases List.mem_append.1 hc' with hc' | hc'
    · exact hA.1 c' hc'
    · obtain rfl := List.mem_singleton.1 hc'; exact ⟨hl, h1⟩
  rcases hA.2 with ⟨rfl, rfl, rfl⟩ | ⟨g, cap, cur, rfl, rfl, hrow⟩
  · refine z_appendN ok hd hx hy ht hz hzs hb (by omega) (by rw [hl, Nat.one_mul]) hnews (by omega) (by omega) fun g cap cur hr => ?_
    have := h (.slice (some ⟨g, 0, none⟩) 1 cap) [⟨g, cur, e⟩] ⟨hall, .inr ⟨g, cap, cur, rfl, rfl, by simpa using hr⟩⟩
    refine ops_perm _ ?_ this
    exact (hperm.cons _ : (⟨g, cur, e⟩ :: ([] ++ hp')).Perm (⟨g, cur, e⟩ :: hp))
  · refine z_appendO ok hd hx hy ht hz hzs hb hperm hrow (by rw [hl, Nat.one_mul]) hnews h1 (by omega) ?_ fun g cap cur hr => ?_
    · have h2 : (xs.length + 1 + (xs.length + 1) / 4 + 192) ≤ 2000000 := by omega
      calc _ ≤ 2000000 * by_ := Nat.mul_le_mul_right _ h2
        _ ≤ 2000000 * 4096 := Nat.mul_le_mul_left _ hby'
        _ ≤ _ := by decide
    · have := h (.slice (some ⟨g, 0, none⟩) (xs.length + 1) cap) [⟨g, cur, e⟩] ⟨hall, .inr ⟨g, cap, cur, by simp, rfl, by simpa using hr⟩⟩
      exact this
/-- All of a slice appended to an empty one of one's own. -/
theorem z_appendAll (ok : TabOk P T) {t d e sz by_ g cap a o m cc : Nat} {cur : Array Value} {x y : Operand} {z : Value} {hp' : Hp} {xs : List (List Value)} (hd : Nat.blt d n = true) (hx : ev l x = some (.slice (some ⟨g, 0, none⟩) 0 cap)) (hg : Row g cap cur sz 0 []) (hy : ev l y = some (.slice (some ⟨a, o, none⟩) m cc)) (ht : lk T.sl t = some (e, sz))
    (hz : lk T.zs e = some z) (hzs : z.cells.size = sz) (hb : lk T.eb e = some by_) (hby : Nat.ble by_ 4096 = true) (hperm : (⟨g, cur, e⟩ :: hp').Perm hp) (hm : m = xs.length) (hall : ∀ c ∈ xs, c.length = sz ∧ c.all (·.oneCell') = true) (hr : ∀ i c, xs[i]? = some c → w0.rangeAt a (o + i * sz) c) (hmu : a ∉ mu) (h63 : xs.length < 1000000)
    (h : ∀ v' ha', Own e sz v' ha' xs → Ops P n w0 mu all rest ((d, v') :: l) (ha' ++ hp') Q) : Ops P n w0 mu all (⟨some d, .call { callee := .builtin .append, args := #[x, y], argTypes := #[t, t] }, ty, pos, af, none⟩ :: rest) l hp Q := by
  have hby' : by_ ≤ 4096 := Nat.le_of_ble_eq_true hby
  have hfl := flatten_len xs (fun c hc => (hall c hc).1)
  refine z_appendO ok hd hx hy ht hz hzs hb hperm hg (news := xs.flatten) (by rw [hm, hfl]) (news_old (range_flatten xs o (fun c hc => (hall c hc).1) hr) hmu) ?_ (by omega) ?_ fun g cap cur hr => ?_
  · rw [List.all_flatten, List.all_eq_true]
    exact fun c hc => (hall c hc).2
  · have h2 : (0 + m + (0 + m) / 4 + 192) ≤ 2000000 := by omega
    calc _ ≤ 2000000 * by_ := Nat.mul_le_mul_right _ h2
      _ ≤ 2000000 * 4096 := Nat.mul_le_mul_left _ hby'
      _ ≤ _ := by decide
  · rw [Nat.zero_add, List.nil_append, hm] at hr
    have := h (.slice (some ⟨g, 0, none⟩) xs.length cap) [⟨g, cur, e⟩] ⟨hall, .inr ⟨g, cap, cur, rfl, rfl, hr⟩⟩
    rw [Nat.zero_add, hm]
    exact this
/-- A slice built of nothing. -/
theorem z_bslice0 (ok : TabOk P T) {t d e sz : Nat} (hd : Nat.blt d n = true) (ht : lk T.sl t = some (e, sz)) (h : ∀ b, Ops P n w0 mu all rest ((d, .slice (some ⟨b, 0, none⟩) 0 0) :: l) (⟨b, #[], e⟩ :: hp) Q) : Ops P n w0 mu all (⟨some d, .buildSlice t 0 #[], ty, pos, af, none⟩ :: rest) l hp Q := by
  refine ops_new (b := 0) rfl hd #[] e rfl (fun b => .slice (some ⟨b, 0, none⟩) 0 0) (fun a w hk _ => ?_) h
  obtain ⟨hu, hs⟩ := ok.gsl ht
  simp [execOp, Instr.buildSlice, run_underlying hu w, run_sizeOf hs w, Instr.fill, go_sem]
/-- Is a slice nil? -/
theorem x_nilS (ok : TabOk P T) {t u e sz m c : Nat} {p : Option Addr} {x : Operand} (hx : ev l x = some (.slice p m c)) (ht : lk T.sl t = some (e, sz)) : Hy P n w0 mu l hp ⟨dd, .binOp .eql t x (.const (.slice none 0 0)) u, ty, pos, af, gg⟩ (.bool p.isNone) := by
  obtain ⟨hu, hsz⟩ := ok.gsl ht
  refine hy_run fun a w hk' _ => ?_
  have h1 := Lib.run_eql_slice_nil (P := P) w t e p m c 0 0 hu
  have h2 := hk'.ev hx
  have h3 : a.eval (.const (.slice none 0 0)) = .slice none 0 0 := rfl
  simp only [execOp, h2, h3]
  cases p <;> simp [eqGuard, h1]
/-- What is left of a division. -/
theorem x_rem {hh : Hp} {t u : TypeId} {x y : Operand} {p q : Int} (hx : ev l x = some (.int .i64 p)) (hy : ev l y = some (.int .i64 q)) (hp : 0 ≤ p) (hq : 0 < q) : Hy P n w0 mu l hh ⟨dd, .binOp .rem t x y u, ty, pos, af, gg⟩ (.int .i64 (p % q)) :=
  hy_run fun ac w hk _ => by
    have h1 : p.tmod q = p % q := Int.tmod_eq_emod_of_nonneg hp
    have h2 : ¬ (q = 0) := by omega
    simp only [execOp, hk.ev hx, hk.ev hy]
    simp [eqGuard_rem, binOp_rem, Op.intDiv, h1, h2]
end
end Go.Proofs.Ytjnndchkblnkgaa

/- The engine: parts of slices, copy, clear, zeros appended, library functions of the model's own. No program in sight. -/
namespace Go.Proofs.Ytjnndchkblnkgaa
open Go.RowKit
set_option linter.unusedVariables false
set_option linter.unusedSimpArgs false
set_option maxRecDepth 20000
section
variable {P : Program} {T : Tab} {n : Nat} {w0 : World} {mu : List Nat} {l : Fm} {hp : Hp} {dd : Option Tmp} {ty : TypeId} {pos : String} {af : Array Edge} {gg : Option (Nat × Bool)} {Q : Exit → Fm → Hp → Prop} {all : Array Oper} {rest : List Oper}
theorem elem_of {t e : TypeId} (hu : P.underlying t = some (.slice e)) : P.underlying t = some (.slice (P.elem t)) := by
  have : P.elem t = e := by simp [Program.elem, hu]
  rw [this]; exact hu
theorem slice_add {b off k : Nat} : (⟨b, off, none⟩ : Addr).add k = ⟨b, off + k, none⟩ := Addr.add_lit ..
/-- A part of a slice, from one place to another. -/
theorem x_sliceLH (ok : TabOk P T) {t e sz b off m cap : Nat} {kl kh : IntKind} {x lo hi : Operand} {i j : Int} {o' m' c' : Nat} (hx : ev l x = some (.slice (some ⟨b, off, none⟩) m cap)) (hlo : ev l lo = some (.int kl i)) (hhi : ev l hi = some (.int kh j)) (ht : lk T.sl t = some (e, sz))
    (h0 : 0 ≤ i) (h1 : i ≤ j) (h2 : j ≤ cap) (h3 : i < cap) (ho : off + i.toNat * sz = o') (hm : j.toNat - i.toNat = m') (hc : cap - i.toNat = c') :
    Hy P n w0 mu l hp ⟨dd, .slice t x (some lo) (some hi) none, ty, pos, af, gg⟩ (.slice (some ⟨b, o', none⟩) m' c') := by
  obtain ⟨hu, hsz⟩ := ok.gsl ht
  subst ho hm hc
  refine hy_run fun a w hk _ => ?_
  have he : P.elem t = e := by simp [Program.elem, hu]
  have hs := run_sizeOf hsz w
  have hne : ¬ (cap = i.toNat) := by omega
  simp only [execOp, Option.map_some, Option.map_none, hk.ev hx, hk.ev hlo, hk.ev hhi]
  simp only [Sem.run_bind]
  rw [run_sliceAt_slice (w := w) t _ _ _ _ (elem_of hu), run_slice_lh (w := w) t _ m cap (elem_of hu) kl kh i j h0 h1 h2, he, hs]
  simp [sliced, hne, slice_add]
/-- .. from its beginning. -/
theorem x_sliceH (ok : TabOk P T) {t e sz m cap : Nat} {p : Option Addr} {kh : IntKind} {x hi : Operand} {j : Int} {m' : Nat} (hx : ev l x = some (.slice p m cap)) (hhi : ev l hi = some (.int kh j)) (ht : lk T.sl t = some (e, sz))
    (h0 : 0 ≤ j) (h2 : j ≤ cap) (hm : j.toNat = m') (hp0 : p = none ∨ ∃ b off, p = some ⟨b, off, none⟩) :
    Hy P n w0 mu l hp ⟨dd, .slice t x none (some hi) none, ty, pos, af, gg⟩ (.slice p m' cap) := by
  obtain ⟨hu, hsz⟩ := ok.gsl ht
  subst hm
  refine hy_run fun a w hk _ => ?_
  have he : P.elem t = e := by simp [Program.elem, hu]
  have hs := run_sizeOf hsz w
  simp only [execOp, Option.map_some, Option.map_none, hk.ev hx, hk.ev hhi]
  simp only [Sem.run_bind]
  rw [run_sliceAt_slice (w := w) t _ _ _ _ (elem_of hu), run_slice_h (w := w) t _ m cap (elem_of hu) kh j h0 h2, he, hs]
  rcases hp0 with rfl | ⟨b, off, rfl⟩
  · simp [sliced]
  · simp [sliced, slice_add]
/-- .. to its end. -/
theorem x_sliceL (ok : TabOk P T) {t e sz b off m cap : Nat} {kl : IntKind} {x lo : Operand} {i : Int} {o' m' c' : Nat} (hx : ev l x = some (.slice (some ⟨b, off, none⟩) m cap)) (hlo : ev l lo = some (.int kl i)) (ht : lk T.sl t = some (e, sz))
    (h0 : 0 ≤ i) (h1 : i ≤ m) (h3 : i < cap) (ho : off + i.toNat * sz = o') (hm : m - i.toNat = m') (hc : cap - i.toNat = c') :
    Hy P n w0 mu l hp ⟨dd, .slice t x (some lo) none none, ty, pos, af, gg⟩ (.slice (some ⟨b, o', none⟩) m' c') := by
  obtain ⟨hu, hsz⟩ := ok.gsl ht
  subst ho hm hc
  refine hy_run fun a w hk _ => ?_
  have he : P.elem t = e := by simp [Program.elem, hu]
  have hs := run_sizeOf hsz w
  have hne : ¬ (cap = i.toNat) := by omega
  simp only [execOp, Option.map_some, Option.map_none, hk.ev hx, hk.ev hlo]
  simp only [Sem.run_bind]
  rw [run_sliceAt_slice (w := w) t _ _ _ _ (elem_of hu), run_slice_l (w := w) t _ m cap (elem_of hu) kl i h0 h1, he, hs]
  simp [sliced, hne, slice_add]
/-- .. whatever its place: what is behind it is not looked at. -/
theorem x_sliceLV (ok : TabOk P T) {t e sz m cap : Nat} {p : Option Addr} {kl : IntKind} {x lo : Operand} {i : Int} (hx : ev l x = some (.slice p m cap)) (hlo : ev l lo = some (.int kl i)) (ht : lk T.sl t = some (e, sz))
    (h0 : 0 ≤ i) (h1 : i ≤ m) : Hy P n w0 mu l hp ⟨dd, .slice t x (some lo) none none, ty, pos, af, gg⟩ (sliced p i.toNat m cap sz) := by
  obtain ⟨hu, hsz⟩ := ok.gsl ht
  refine hy_run fun a w hk _ => ?_
  have he : P.elem t = e := by simp [Program.elem, hu]
  have hs := run_sizeOf hsz w
  simp only [execOp, Option.map_some, Option.map_none, hk.ev hx, hk.ev hlo]
  simp only [Sem.run_bind]
  rw [run_sliceAt_slice (w := w) t _ _ _ _ (elem_of hu), run_slice_l (w := w) t _ m cap (elem_of hu) kl i h0 h1, he, hs]
  simp
theorem min_cells {k d : Nat} : Nat.min k d = min k d := rfl
/-- Cells of one slice copied into one's own block. -/
theorem z_copy (ok : TabOk P T) {t t' e sz d b o dl dc a so sl sc : Nat} {cs : Array Value} {tb : TypeId} {x y : Operand} {news : List Value} {hp' : Hp} (hd : Nat.blt d n = true) (hx : ev l x = some (.slice (some ⟨b, o, none⟩) dl dc)) (hy : ev l y = some (.slice (some ⟨a, so, none⟩) sl sc)) (ht : lk T.sl t = some (e, sz))
    (hperm : (⟨b, cs, tb⟩ :: hp').Perm hp) (hl : news.length = min sl dl * sz) (hnews : NewsAt w0 mu hp a so news) (h1 : news.all (·.oneCell') = true) (hfit : o + news.length ≤ cs.size)
    (h : Ops P n w0 mu all rest ((d, .int .i64 (min sl dl : Nat)) :: l) (⟨b, putAt cs o news, tb⟩ :: hp') Q) : Ops P n w0 mu all (⟨some d, .call { callee := .builtin .copy, args := #[x, y], argTypes := #[t, t'] }, ty, pos, af, none⟩ :: rest) l hp Q := by
  intro ac w hk hG
  have hput : ∀ v, Knows n ((d, v) :: l) (ac.put (some d) v) := fun v => Knows.put (d := some d) hk (fun t ht => by cases ht; simpa using hd) v
  obtain ⟨hu, hsz⟩ := ok.gsl ht
  have hG' := hG.perm hperm
  have hb := hG'.here _ (List.mem_cons_self ..)
  have hsrc : ∀ j u, news[j]? = some u → w.cell? ((⟨a, so, none⟩ : Addr).add j) = some u := fun j u hj => by rw [Addr.add_mid]; exact hnews w hG j u hj
  have hld := run_loadCells_list (P := P) w ⟨a, so, none⟩ news hsrc
  have hst := run_storeCells_cells (P := P) b o news 0 w
    (fun j hj => by rw [cell_of_block hb]; simp [show o + j < cs.size by omega])
    (fun j _ => free_of_block hb) (fun u hu => (List.all_eq_true.1 h1) u hu)
  simp only [Nat.add_zero] at hst
  refine wpList_plain rfl fun K hK => ?_
  unfold Oper.wp execOp
  have hs := run_sizeOf hsz w
  have hr : (Builtin.copy_ #[t, t'] ty #[.slice (some ⟨b, o, none⟩) dl dc, .slice (some ⟨a, so, none⟩) sl sc]).run P w = .ok (goInt (min sl dl : Nat)) (w.setCells b o news) := by
    simp [Builtin.copy_, run_underlying hu, Builtin.lenOf, Builtin.firstCells, hs, min_cells, ← hl, hld, hst]
  simp only [resolve, invoke, builtin, Sem.run_bind, Sem.run_pure, Result.andThen_ok, List.map_toArray, List.map_cons, List.map_nil, hk.ev hx, hk.ev hy, hr]
  exact hK _ _ (h _ _ (hput _) (Good.sets (w := w) news cs o w hG'))
/-- A part of one's own block cleared. -/
theorem z_clear (ok : TabOk P T) {t e sz b o m c d : Nat} {cs : Array Value} {tb : TypeId} {x : Operand} {z : Value} {hp' : Hp} (hd : Nat.blt d n = true) (hx : ev l x = some (.slice (some ⟨b, o, none⟩) m c)) (ht : lk T.sl t = some (e, sz)) (hz : lk T.zs e = some z) (hzs : z.cells.size = sz) (hz1 : z.cells.toList.all (·.oneCell') = true) (hm : 0 < m)
    (hperm : (⟨b, cs, tb⟩ :: hp').Perm hp) (hfit : o + m * sz ≤ cs.size)
    (h : ∀ vs : List Value, vs.length = m * sz → Ops P n w0 mu all rest ((d, .tuple #[]) :: l) (⟨b, putAt cs o vs, tb⟩ :: hp') Q) : Ops P n w0 mu all (⟨some d, .call { callee := .builtin .clear, args := #[x], argTypes := #[t] }, ty, pos, af, none⟩ :: rest) l hp Q := by
  intro ac w hk hG
  have hput : ∀ v, Knows n ((d, v) :: l) (ac.put (some d) v) := fun v => Knows.put (d := some d) hk (fun t ht => by cases ht; simpa using hd) v
  obtain ⟨hu, hsz⟩ := ok.gsl ht
  have hG' := hG.perm hperm
  have hb := hG'.here _ (List.mem_cons_self ..)
  have hlen : (Builtin.zeroCells z.cells m).toList.length = m * sz := by rw [Array.length_toList, size_zeroCells, hzs]
  have hst := run_storeCells_cells (P := P) b o (Builtin.zeroCells z.cells m).toList 0 w
    (fun j hj => by rw [cell_of_block hb]; simp [show o + j < cs.size by omega])
    (fun j _ => free_of_block hb) (fun u hu => by
      refine (List.all_eq_true.1 hz1) u ?_
      simp only [Builtin.zeroCells, Array.mem_toList_iff, Array.mem_map, Array.mem_range] at hu
      obtain ⟨i, hi, rfl⟩ := hu
      have hpos : 0 < z.cells.size := by
        rcases Nat.eq_zero_or_pos z.cells.size with h0 | h0
        · rw [h0] at hi; omega
        · exact h0
      rw [getElem!_pos z.cells _ (Nat.mod_lt _ hpos)]
      simp)
  simp only [Nat.add_zero] at hst
  refine wpList_plain rfl fun K hK => ?_
  unfold Oper.wp execOp
  have hr : (Builtin.clear_ #[t] ty #[.slice (some ⟨b, o, none⟩) m c]).run P w = .ok (.tuple #[]) (w.setCells b o (Builtin.zeroCells z.cells m).toList) := by
    obtain ⟨m', rfl⟩ : ∃ m', m = m' + 1 := ⟨m - 1, by omega⟩
    simp [Builtin.clear_, run_underlying hu, run_zero (ok.gzs hz) w, hst]
  simp only [resolve, invoke, builtin, Sem.run_bind, Sem.run_pure, Result.andThen_ok, List.map_toArray, List.map_cons, List.map_nil, hk.ev hx, hr]
  exact hK _ _ (h _ hlen _ _ (hput _) (Good.sets (w := w) _ cs o w hG'))
/-- Zeros appended where there is no room: a new row. -/
theorem z_appendZ (ok : TabOk P T) {t tn e sz by_ s k cap b off d : Nat} {kq kn : IntKind} {x y : Operand} {z : Value} {olds : List Value} (hd : Nat.blt d n = true) (hx : ev l x = some (.slice (some ⟨b, off, none⟩) s cap)) (hy : ev l y = some (.int kq (k : Int))) (ht : lk T.sl t = some (e, sz)) (htn : lk T.ik tn = some kn)
    (hz : lk T.zs e = some z) (hzs : z.cells.size = sz) (hb : lk T.eb e = some by_) (hby : Nat.ble by_ 4096 = true) (hl : olds.length = s * sz) (hnews : NewsAt w0 mu hp b off olds) (hs0 : 0 < sz) (hk0 : 0 < k) (hroom : cap < s + k) (hsmall : s + k ≤ 1000000)
    (h : ∀ g cap' cur, cur.size = cap' * sz → s + k ≤ cap' → cap' ≤ maxLen → cur.toList.take (s * sz) = olds → Ops P n w0 mu all rest ((d, .slice (some ⟨g, 0, none⟩) (s + k) cap') :: l) (⟨g, cur, e⟩ :: hp) Q) : Ops P n w0 mu all (⟨some d, .call { callee := .builtin .append, args := #[x, y], argTypes := #[t, tn] }, ty, pos, af, none⟩ :: rest) l hp Q := by
  intro ac w hk hG
  have hput : ∀ v, Knows n ((d, v) :: l) (ac.put (some d) v) := fun v => Knows.put (d := some d) hk (fun t ht => by cases ht; simpa using hd) v
  obtain ⟨hu, hsz⟩ := ok.gsl ht
  have hun := ok.gik htn
  have hby' : by_ ≤ 4096 := Nat.le_of_ble_eq_true hby
  have hbb := List.all_eq_true.1 ok.eb _ (lk_mem hb)
  simp only [beq_iff_eq] at hbb
  obtain ⟨i, hi, hiz, his, hib⟩ := info_of hsz hbb (ok.gzs hz)
  subst his hib
  have hold : (Builtin.firstCells i.size s (.slice (some ⟨b, off, none⟩) s cap)).run P w.drew = .ok olds.toArray w.drew :=
    run_firstCells_some w.drew i.size s ⟨b, off, none⟩ s cap olds (by rw [hl]) (fun j u hj => by rw [Addr.add_mid]; exact hnews w hG j u hj)
  have h48 : k * i.bytes ≤ 281474976710656 := by
    calc k * i.bytes ≤ 1000000 * 4096 := Nat.mul_le_mul (by omega) hby'
      _ ≤ _ := by decide
  have hfit : Builtin.nextslicecap (s + k) cap * i.bytes ≤ 281474976710656 := by
    refine growslice_fits_wide (by omega) ?_
    have h2 : (s + k + (s + k) / 4 + 192) ≤ 2000000 := by omega
    calc _ ≤ 2000000 * i.bytes := Nat.mul_le_mul_right _ h2
      _ ≤ 2000000 * 4096 := Nat.mul_le_mul_left _ hby'
      _ ≤ _ := by decide
  have hr := Lib.run_append_grow_zeros (P := P) w t tn ty e i z kq kn hu hun hi hiz (some ⟨b, off, none⟩) s cap olds hold k hk0 hs0 hroom (by omega) h48 hfit
  refine wpList_plain rfl fun K hK => ?_
  unfold Oper.wp execOp
  simp only [resolve, invoke, builtin, Sem.run_bind, Sem.run_pure, Result.andThen_ok, List.map_toArray, List.map_cons, List.map_nil, hk.ev hx, hk.ev hy, hr]
  have hge := grownCap_ge w (s + k) cap e
  have hcm : grownCap w (s + k) cap e ≤ maxLen := grownCap_le_maxLen w (s + k) cap e (by unfold maxLen; omega)
  have hG2 := (hG.drawn (w.drawn + 1)).alloc (olds.toArray ++ Builtin.zeroCells z.cells k ++ Builtin.zeroCells z.cells (grownCap w (s + k) cap e - (s + k))) e
  refine hK _ _ (h _ _ _ ?_ hge hcm ?_ _ _ (hput _) hG2)
  · simp only [Array.size_append, List.size_toArray, size_zeroCells, hzs, hl, ← Nat.add_mul]
    congr 1
    omega
  · simp only [Array.toList_append, List.append_assoc]
    rw [← hl]
    exact List.take_left
/-- Shifted to the right, by a given count. -/
theorem x_shrU {t u : TypeId} {x y : Operand} {p : Int} {ky : IntKind} {c : Int} {q : Int} (hx : ev l x = some (.int .u64 p)) (hy : ev l y = some (.int ky c)) (h0 : 0 ≤ c) (h1 : c ≤ 64) (hq : p / 2 ^ c.toNat = q) : Hy P n w0 mu l hp ⟨dd, .binOp .shr t x y u, ty, pos, af, gg⟩ (.int .u64 q) :=
  hy_run fun ac w hk _ => by
    subst hq
    simp only [execOp, hk.ev hx, hk.ev hy]
    simp [eqGuard_shr, binOp_shr, shift_shr_u64 (yk := ky) (h₀ := h0) (h₁ := h1)]
/-- A function of the model's own that yields a value. -/
theorem x_ext {f : FuncId} {xs : List Operand} {vs : List Value} {tys : Array TypeId} {v : Value} (hv : evs l xs = some vs) (hr : ∀ w, Good w0 mu hp w → (callFunc f vs.toArray).run P w = .ok (.value v) w) : Hy P n w0 mu l hp ⟨dd, .call { callee := .value (.func f), args := xs.toArray, argTypes := tys }, ty, pos, af, gg⟩ v := by
  refine hy_run fun a w hk hG => ?_
  have e : xs.toArray.map a.eval = vs.toArray := by rw [← hk.evs hv]; simp
  rw [Conc.execOp_call_func rfl, e]
  exact hr w hG
end
/-! Cells put beside each other. -/
theorem putAt_two {cs : Array Value} {A c D : List Value} (hA : cs.toList.take A.length = A) (hs : A.length + c.length + D.length ≤ cs.size) :
    (putAt (putAt cs (A.length + c.length) D) A.length c).toList.take (A.length + c.length + D.length) = A ++ c ++ D := by
  have h1 : (putAt cs (A.length + c.length) D).size = cs.size := putAt_size ..
  rw [putAt_list _ _ _ (by omega), putAt_list _ _ _ (by omega)]
  have ht : cs.toList.length = cs.size := Array.length_toList
  have e1 : ((cs.toList.take (A.length + c.length) ++ D ++ cs.toList.drop (A.length + c.length + D.length)).take A.length) = A := by
    rw [List.append_assoc, List.take_append, List.take_take, List.length_take, show A.length - min (A.length + c.length) cs.toList.length = 0 by omega, show min A.length (A.length + c.length) = A.length by omega, hA]; simp
  have e2 : ((cs.toList.take (A.length + c.length) ++ D ++ cs.toList.drop (A.length + c.length + D.length)).drop (A.length + c.length)) = D ++ cs.toList.drop (A.length + c.length + D.length) := by
    rw [List.append_assoc, List.drop_append, List.drop_eq_nil_of_le (by rw [List.length_take]; omega), List.length_take, show A.length + c.length - min (A.length + c.length) cs.toList.length = 0 by omega]; simp
  rw [e1, e2]
  have : A ++ c ++ (D ++ cs.toList.drop (A.length + c.length + D.length)) = (A ++ c ++ D) ++ cs.toList.drop (A.length + c.length + D.length) := by simp
  rw [this]
  exact List.take_left' (by simp; omega)
theorem putAt_two' {cs : Array Value} {A c D : List Value} (hA : cs.toList.take A.length = A) (hs : A.length + c.length + D.length ≤ cs.size) :
    (putAt (putAt cs A.length c) (A.length + c.length) D).toList.take (A.length + c.length + D.length) = A ++ c ++ D := by
  have h1 : (putAt cs A.length c).size = cs.size := putAt_size ..
  rw [putAt_list _ _ _ (by omega), putAt_list _ _ _ (by omega), hA]
  have e1 : ((A ++ c ++ cs.toList.drop (A.length + c.length)).take (A.length + c.length)) = A ++ c := List.take_left' (by simp)
  rw [e1]
  exact List.take_left' (by simp; omega)
end Go.Proofs.Ytjnndchkblnkgaa
