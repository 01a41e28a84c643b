/- Layer 20 (boot): the program's. -/
import Derived.Test.YtiaelhhmlbfkmaaGreatBoP
import Derived.Test.YtiaelhhmlbfkmaaGreatBtA
import Derived.Test.YtiaelhhmlbfkmaaGreatHyA
import Derived.Test.YtiaelhhmlbfkmaaGreatExA
namespace Go.Proofs.YtiaelhhmlbfkmaaGreat
open Go.RowKit
set_option linter.unusedVariables false
set_option linter.unusedSimpArgs false
set_option maxRecDepth 20000
attribute [local irreducible] Hy St Ops DH DHF DE1 DE2 DE3 DS DCh
theorem bLeaf_e (f soft : Int) (w : World) : Fn Tryz.prog 169 [.int .i64 f, .int .i64 soft].toArray w [] (fun u _ => u = dsV (leafD f soft)) := by
  refine enter Tryz.func169 ?_
  refine run ?_
  intro B C
  refine run ?_
  exact finA (cs := #[.int .i64 2, .int .i64 f, .bool true, .bool true, .bool true, .bool true, .bool false, .int .i64 soft, .int .i64 0]) rfl
def firstI (k : Nat) : List Int := ((List.range k).drop 1).map fun x : Nat => (x : Int)
theorem firstI_succ {k : Nat} (h : 0 < k) : firstI (k + 1) = firstI k ++ [(k : Int)] := by
  simp only [firstI, List.range_succ]
  rw [List.drop_append_of_le_length (by simp; omega), List.map_append]; rfl
/-- What Boot answers. -/
def BootHR (frames cpus : Int) (u : Value) (hn : Hp) : Prop :=
  bif mayBoot frames cpus then ∃ p1 c1 p2 c2 p3 c3 p4 c4, u = .tuple #[.agg #[.slice p1 (frames.toNat * 8) c1, .slice p2 cpus.toNat c2, .slice p3 4 c3, .slice p4 cpus.toNat c4], .int .i64 0] ∧ ∀ w, Here hn w → HyAt w (.slice p1 (frames.toNat * 8) c1) (.slice p2 cpus.toNat c2) (.slice p3 4 c3) (.slice p4 cpus.toNat c4) (memF (frames.toNat * 8) (putW frames.toNat 64)) (List.replicate cpus.toNat cpu0) (List.replicate 4 vm0) (List.replicate cpus.toNat noRg)
  else u = .tuple #[.agg #[.slice none 0 0, .slice none 0 0, .slice none 0 0, .slice none 0 0], .int .i64 1]
theorem hpLe_here {r h : Hp} {w : World} (hl : HpLe r h) (hh : Here h w) : Here r w := fun b hb => hh b (hl.mem hb)
end Go.Proofs.YtiaelhhmlbfkmaaGreat
