/- Layer 18 (part): the small functions. -/
import Derived.Test.YtdfkcjjbflcafaaGreatRun
import Derived.Test.YtdfkcjjbflcafaaGreatPartR
namespace Go.Proofs.YtdfkcjjbflcafaaGreat
open Go.RowKit
set_option linter.unusedVariables false
set_option linter.unusedSimpArgs false
set_option maxRecDepth 20000
attribute [local irreducible] Hy St Ops DH DHF
theorem between_e (n a b : Int) (w : World) : Fn Tryz.prog 24 [.int .i64 n, .int .i64 a, .int .i64 b].toArray w [] (fun u _ => u = .bool (PtD.btw n a b)) := by
  refine enter Tryz.func24 ?_
  refine runG ?_
  exact fin1 rfl
theorem free_e (w : World) : Fn Tryz.prog 70 [].toArray w [] (fun u _ => u = .agg #[.int .i64 0, .int .i64 (-2)]) := by
  refine enter (args := []) Tryz.func70 ?_
  refine runG ?_
  intro B
  exact finA rfl
theorem ours_e (w : World) : Fn Tryz.prog 71 [].toArray w [] (fun u _ => u = .agg #[.int .i64 (-1), .int .i64 (-2)]) := by
  refine enter (args := []) Tryz.func71 ?_
  refine runG ?_
  intro B
  exact finA rfl
/-- The first place where p holds; -1: none. -/
def idxI {α : Type} (p : α → Bool) (xs : List α) : Int := match PtD.idx p xs 0 with | some i => (i : Int) | none => -1
theorem idx_nope {α : Type} [Inhabited α] {p : α → Bool} {l : List α} (h : ∀ j, j < l.length → p (l.getD j default) = false) : PtD.idx p l 0 = none := by
  cases e : PtD.idx p l 0 with
  | none => rfl
  | some k =>
    obtain ⟨_, h2, h3, _⟩ := PtD.idx_some e
    simp only [Nat.sub_zero] at h2 h3
    rw [h k h2] at h3; cases h3
theorem idxI_at {α : Type} [Inhabited α] {p : α → Bool} {l : List α} {k : Nat} (hk : k < l.length) (h : p (l.getD k default) = true) (hn : ∀ j, j < k → p (l.getD j default) = false) : idxI p l = k := by
  unfold idxI
  rw [(PtD.idx_at hk h).2 hn]
theorem idxI_none {α : Type} [Inhabited α] {p : α → Bool} {l : List α} (h : ∀ j, j < l.length → p (l.getD j default) = false) : idxI p l = -1 := by
  unfold idxI
  rw [idx_nope h]
theorem idxI_ge {α : Type} [Inhabited α] {p : α → Bool} {l : List α} : decide (0 ≤ idxI p l) = l.any p := by
  rw [← PtD.idx_any]
  unfold idxI
  cases PtD.idx p l 0 <;> simp
/-- A world behind another one, in which nothing has turned. -/
def Aft (w w' : World) : Prop := ∃ hp, Good w [] hp w'
theorem SlAt.row {w : World} {α : Type} [Inhabited α] {f : α → List Value} {xs : List α} {b o cap sz n : Nat} (h : SlAt w (.slice (some ⟨b, o, none⟩) n cap) sz (xs.map f)) {k : Nat} (hk : k < xs.length) : w.rangeAt b (o + k * sz) (f (xs.getD k default)) := by
  obtain ⟨⟨p, cap, e, hp⟩, hl⟩ := h
  cases e
  obtain ⟨b, off, e, hr⟩ := hp (by intro e; rw [List.map_eq_nil_iff] at e; subst e; simp at hk)
  cases e
  refine hr k _ ?_
  rw [List.getElem?_map, List.getD_eq_getElem?_getD, List.getElem?_eq_getElem hk]
  rfl
/-- A slice is nil, or somewhere. -/
theorem SlAt.opened {w : World} {α : Type} {f : α → List Value} {xs : List α} {v : Value} {sz : Nat} (h : SlAt w v sz (xs.map f)) : ∃ p cap, v = .slice p xs.length cap ∧ (xs ≠ [] → ∃ b o, p = some ⟨b, o, none⟩) ∧ xs.length ≤ 281474976710656 := by
  obtain ⟨⟨p, cap, rfl, hp⟩, hl⟩ := h
  rw [List.length_map] at *
  refine ⟨p, cap, rfl, fun hne => ?_, hl⟩
  obtain ⟨b, o, rfl, _⟩ := hp (by simpa using hne)
  exact ⟨b, o, rfl⟩
section
variable {w : World} {bp : Nat} {L : PtL} {P : PtD}
theorem guest_e (h : PartQ w bp L P) (i : Nat) (hi : i < P.guests.length) (n : Int) (hn : n = (i : Int) + 1) : Fn Tryz.prog 74 [.pointer (some ⟨bp, 0, none⟩), .int .i64 n].toArray w [] (fun u _ => u = .pointer (some ⟨L.gb, L.go + i * 5, none⟩)) := by
  have hg := h.cg
  have h4 := h.n.g4
  refine enter Tryz.func74 ?_
  refine runG ?_
  refine fin1 ?_
  rw [show (n - 1).toNat = i by omega]
theorem uses_e (h : PartQ w bp L P) (f : Nat) (hf : f < P.pages.length) (who : Int) : Fn Tryz.prog 72 [.pointer (some ⟨bp, 0, none⟩), .int .i64 who, .int .i64 f].toArray w [] (fun u _ => u = .bool (P.uses who f)) := by
  have hp := h.cp
  have h0 := h.v.pg0 hf
  have h1 := h.v.pg1 hf
  refine enter Tryz.func72 ?_
  refine runG ?_
  exact fin1 rfl
end
end Go.Proofs.YtdfkcjjbflcafaaGreat
