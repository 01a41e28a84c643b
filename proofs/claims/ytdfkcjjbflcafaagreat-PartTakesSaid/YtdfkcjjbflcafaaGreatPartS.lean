/- Layer 18 (part): PartAsks walks. -/
import Derived.Test.YtdfkcjjbflcafaaGreatPartQ
namespace Go.Proofs.YtdfkcjjbflcafaaGreat
open Go.RowKit
set_option linter.unusedVariables false
set_option linter.unusedSimpArgs false
set_option maxRecDepth 20000
attribute [local irreducible] Hy St Ops DH DHF
/-- An act. -/
structure ActD where
  cpu : Int
  kind : Int
  vm : Int
  frame : Int
  mid : Int
  vcpu : Int
  ccpu : Int
  stop : Bool
deriving Inhabited
def actV (x : ActD) : List Value := [.int .i64 x.cpu, .int .i64 x.kind, .int .i64 x.vm, .int .i64 x.frame, .int .i64 x.mid, .int .i64 x.vcpu, .int .i64 x.ccpu, .bool x.stop]
structure ActD.Wf (x : ActD) : Prop where
  cpu : I64 x.cpu
  kind : I64 x.kind
  vm : I64 x.vm
  frame : I64 x.frame
  mid : I64 x.mid
  vcpu : I64 x.vcpu
  ccpu : I64 x.ccpu
/-- A script: a partition, acts. -/
structure ScrG (w : World) (v : Value) (P : PtD) (A : List ActD) : Prop where
  is : ∃ pv gv ov lv, v = .agg #[pv, gv, ov, lv] ∧ PartG w pv gv ov P ∧ SlAt w lv 8 (A.map actV)
  wf : ∀ x ∈ A, x.Wf
theorem here_no (w : World) : ¬ Here [⟨0, #[], 0⟩, ⟨0, #[.bool true], 0⟩] w := fun hw => by
  have h1 := hw _ (List.mem_cons_self ..)
  have h2 := hw _ (List.mem_cons_of_mem _ (List.mem_cons_self ..))
  rw [h1] at h2
  simp at h2
theorem slAt_nil (w : World) (sz : Nat) : SlAt w (.slice none 0 0) sz [] := ⟨⟨none, 0, rfl, fun h => absurd rfl h⟩, by simp⟩
theorem partG_nil (w : World) : PartG w (.slice none 0 0) (.slice none 0 0) (.slice none 0 0) ⟨[], [], []⟩ :=
  ⟨slAt_nil w 2, ⟨fun _ => .slice none 0 0, fun _ => .slice none 0 0, slAt_nil w 5, fun i hi => absurd hi (by simp)⟩, slAt_nil w 2, ⟨fun f hf => absurd hf (by simp), fun i hi => absurd hi (by simp), fun c hc => absurd hc (by simp)⟩⟩
theorem bootR_some (f c : Int) : ∃ v hn, BootR f c v hn := by
  cases h : mayBoot f c
  · exact ⟨_, [], by rw [BootR, h]; rfl⟩
  · refine ⟨.tuple #[.agg #[.bool true, .bool true, .bool true], .int .i64 0], [⟨0, #[], 0⟩, ⟨0, #[.bool true], 0⟩], ?_⟩
    rw [BootR, h]
    refine ⟨_, _, _, rfl, fun w hw => ?_⟩
    have h1 := hw _ (List.mem_cons_self ..)
    have h2 := hw _ (List.mem_cons_of_mem _ (List.mem_cons_self ..))
    rw [h1] at h2
    simp at h2
theorem BootR.cases {f c : Int} {v : Value} {hn : Hp} (h : BootR f c v hn) : (mayBoot f c = true ∧ ∃ pv gv ov, v = .tuple #[.agg #[pv, gv, ov], .int .i64 0] ∧ ∀ w, Here hn w → PartG w pv gv ov (bootL f.toNat c.toNat)) ∨ (mayBoot f c = false ∧ v = .tuple #[.agg #[.slice none 0 0, .slice none 0 0, .slice none 0 0], .int .i64 1]) := by
  unfold BootR at h
  cases hm : mayBoot f c with
  | true => rw [hm] at h; exact .inl ⟨rfl, h⟩
  | false => rw [hm] at h; exact .inr ⟨rfl, h⟩
end Go.Proofs.YtdfkcjjbflcafaaGreat
