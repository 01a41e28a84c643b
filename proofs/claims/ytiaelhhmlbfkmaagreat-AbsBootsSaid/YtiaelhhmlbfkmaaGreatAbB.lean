/- Layer 21 (abs): whose a page is, where no machine lives. -/
import Derived.Test.YtiaelhhmlbfkmaaGreatAbA
namespace Go.Proofs.YtiaelhhmlbfkmaaGreat
open Go.RowKit
set_option linter.unusedVariables false
set_option linter.unusedSimpArgs false
set_option maxRecDepth 20000
attribute [local irreducible] Hy St Ops DH DHF DE1 DE2 DE3 DS DCh DWF
/-- A hypervisor that is looked at; no machine of it maps anything. -/
abbrev abL (wv cv vv rv : Value) : List Value := [wv, cv, vv, rv, .slice none 0 0, .slice none 0 0, .slice none 0 0, .slice none 0 0]
theorem idxMapped_e (F : Value) (w : World) : Fn Tryz.prog 313 [.slice none 0 0, F].toArray w [] (fun u _ => u = .int .i64 (-1)) := by
  refine enter Tryz.func313 ?_
  refine run ?_
  refine loopS (σ := Unit) (fun _ => [(8, .int .i64 0)]) (fun _ => []) (fun _ => True) (fun _ => 0) () trivial ?_
  rintro _ m hm _
  refine run ?_
  refine st_cond _ rfl (fun hc => absurd hc (by decide)) (fun hc => ?_)
  refine run ?_
  exact fin1 rfl
theorem hasMapped_e (F : Value) (w : World) : Fn Tryz.prog 242 [.slice none 0 0, F].toArray w [] (fun u _ => u = .bool false) := by
  refine enter Tryz.func242 ?_
  refine run ?_
  refine callE (fun wc hG => idxMapped_e F wc) ?_
  refine run ?_
  exact fin1 rfl
theorem m4_nth : ∀ k : Nat, k < 4 → (#[.slice none 0 0, .slice none 0 0, .slice none 0 0, .slice none 0 0] : Array Value)[k]? = some (.slice none 0 0) := by
  intro k hk
  have : k = 0 ∨ k = 1 ∨ k = 2 ∨ k = 3 := by omega
  rcases this with rfl | rfl | rfl | rfl <;> rfl
theorem with_e {w : World} {X : Nat} {wv cv vv rv : Value} (h : w.rangeAt X 0 (abL wv cv vv rv)) (f s : Int) : Fn Tryz.prog 153 [.pointer (some ⟨X, 0, none⟩), .int .i64 f, .int .i64 s].toArray w [] (fun u _ => u = .int .i64 0) := by
  have hm : w.rangeAt X 4 [.slice none 0 0, .slice none 0 0, .slice none 0 0, .slice none 0 0] := rangeAt_sub (k := 4) (n := 4) h rfl
  clear h
  refine enter Tryz.func153 ?_
  refine run ?_
  intro Y Z
  refine loopS (σ := Nat) (fun k => [(13, .int .i64 (k : Int))]) (fun _ => [⟨Z, #[.int .i64 s], 3⟩, ⟨Y, #[.int .i64 f], 3⟩]) (fun k => k ≤ 4) (fun k => 4 - k) 0 (Nat.zero_le _) ?_
  rintro k m hm2 hk
  refine run ?_
  refine st_cond _ rfl (fun hc => ?_) (fun hc => ?_)
  · have hk3 : k < 4 := by simp at hc; omega
    refine run ?_
    refine op1 (by rfl) (x_indexV rfl rfl rfl rfl (by omega) (by omega) (m4_nth k hk3)) ?_
    refine run ?_
    refine callE (fun wc hG => hasMapped_e _ wc) ?_
    refine runC ?_
    exact nextS (k + 1) hk3
  · refine run ?_
    exact fin1 rfl
/-- Whose a page is, by what the host's tables say of it. -/
def pageO (g : GtD) : PgD :=
  bif !decide (g.e = 0) then ⟨-1, -2⟩ else bif decide (g.d.kind = 2) && decide (g.d.soft = 0) then ⟨0, -2⟩ else bif decide (g.d.kind = 2) && decide (g.d.soft = 1) then ⟨0, -1⟩
  else bif decide (g.d.kind = 2) && decide (g.d.soft = 2) then ⟨-1, -2⟩ else bif decide (g.d.kind = 0) && decide (1 < g.d.note) && decide (g.d.note ≤ 5) then ⟨g.d.note - 1, -2⟩ else ⟨-1, -2⟩
theorem page_e {w : World} {X : Nat} {wv cv vv rv : Value} (h : w.rangeAt X 0 (abL wv cv vv rv)) (ws : List Nat) (hw : W64 ws) (hs : SlAt w wv 1 (ws.map uV)) (hm : memOk ws.length = true) (f : Nat) (hf : f ≤ 4095) : Fn Tryz.prog 71 [.pointer (some ⟨X, 0, none⟩), .int .i64 (f : Int)].toArray w [] (fun u _ => u = .agg #[.int .i64 (pageO (getL ws 0 f)).own, .int .i64 (pageO (getL ws 0 f)).wit]) := by
  have h0 : w.rangeAt X 0 [wv] := rangeAt_sub (k := 0) (n := 1) h rfl
  refine enter Tryz.func71 ?_
  refine run ?_
  intro R O
  refine run ?_
  refine callE (fun wc hG => gGet_e ws hw (hs.good hG) hm 0 f hf) ?_
  generalize getL ws 0 f = g
  refine run ?_
  intro D
  unfold pageO
  refine st_cond _ rfl (fun hc => ?_) (fun hc => ?_)
  · rw [hc, cond_true]
    refine run ?_
    exact finA (cs := #[.int .i64 (-1), .int .i64 (-2)]) rfl
  rw [hc, cond_false]
  refine runG ?_
  refine st_cond _ rfl (fun hc2 => ?_) (fun hc2 => ?_)
  · rw [hc2, cond_true]
    refine run ?_
    exact finA (cs := #[.int .i64 0, .int .i64 (-2)]) rfl
  rw [hc2, cond_false]
  refine runG ?_
  refine st_cond _ rfl (fun hc3 => ?_) (fun hc3 => ?_)
  · rw [hc3, cond_true]
    refine run ?_
    refine callE (fun wc hG => with_e (hG.range h List.not_mem_nil) f 2) ?_
    refine runC ?_
    exact finA (cs := #[.int .i64 0, .int .i64 (-1)]) rfl
  rw [hc3, cond_false]
  refine runG ?_
  refine st_cond _ rfl (fun hc4 => ?_) (fun hc4 => ?_)
  · rw [hc4, cond_true]
    refine run ?_
    refine callE (fun wc hG => with_e (hG.range h List.not_mem_nil) f 1) ?_
    refine runC ?_
    exact finA (cs := #[.int .i64 (-1), .int .i64 (-2)]) rfl
  rw [hc4, cond_false]
  refine runG ?_
  refine st_cond _ rfl (fun hc5 => ?_) (fun hc5 => ?_)
  · rw [hc5, cond_true]
    have hn : 1 < g.d.note ∧ g.d.note ≤ 5 := by simp at hc5; omega
    refine run ?_
    exact finA (cs := #[.int .i64 (g.d.note - 1), .int .i64 (-2)]) rfl
  rw [hc5, cond_false]
  refine run ?_
  exact finA (cs := #[.int .i64 (-1), .int .i64 (-2)]) rfl
end Go.Proofs.YtiaelhhmlbfkmaaGreat
