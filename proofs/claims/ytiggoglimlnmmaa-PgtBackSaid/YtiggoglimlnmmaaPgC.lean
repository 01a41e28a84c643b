/- Layer 16: Put, Unmap, Map, Split: the document's. -/
import Derived.Test.YtiggoglimlnmmaaPgB
namespace Go.Proofs.Ytiggoglimlnmmaa
open Go.RowKit
set_option linter.unusedVariables false
set_option linter.unusedSimpArgs false
set_option maxRecDepth 20000
def PutR (r : TbR) (u : Value) (hn : Hp) : Prop := ∃ v h1, u = .tuple #[.agg #[v], .int .i64 r.e] ∧ Own 45 1 v h1 (r.ws.map uV) ∧ HpLe h1 hn
def UnR (r : TbR × DsD) (u : Value) (hn : Hp) : Prop := ∃ v h1, u = .tuple #[.agg #[v], dsV r.2, .int .i64 r.1.e] ∧ Own 45 1 v h1 (r.1.ws.map uV) ∧ HpLe h1 hn
def MapR (r : TbR) (u : Value) (hn : Hp) : Prop := ∃ v h1 v2 h2, u = .tuple #[.agg #[v], v2, .int .i64 r.e] ∧ Own 45 1 v h1 (r.ws.map uV) ∧ Own 3 1 v2 h2 (r.left.map inV) ∧ HpLe (h1 ++ h2) hn
theorem Own.nil (e sz : Nat) : Own e sz (.slice none 0 0) [] [] := ⟨by simp, .inl ⟨rfl, rfl, rfl⟩⟩
/-- Three results, the first a struct. -/
theorem finAT {fn : Func} {R : Value → Hp → Prop} {l : Fm} {hp : Hp} {a t b s1 s2 : Nat} {cs : Array Value} {tb : TypeId} {v1 v2 : Value} (h : R (.tuple #[.agg cs, v1, v2]) hp) (hr : fn.results = #[.cell a t, .tmp s1, .tmp s2] := by rfl) (hv : look l a = some (.pointer (some ⟨b, 0, none⟩)) := by rfl) (h1 : look l s1 = some v1 := by rfl) (h2 : look l s2 = some v2 := by rfl) (hag : mem Tb.ag t = true := by rfl) (hm : (⟨b, cs, tb⟩ : Blk) ∈ hp := by (first | (with_reducible apply mh) | (focus ((repeat (first | (with_reducible apply mh) | (with_reducible apply mt) | (with_reducible apply List.mem_append_right))); done)))) (hz : lk Tb.sz t = some cs.size := by rfl) : Fin Try.prog fn R .ret l hp := finA3 h hr hv h1 h2 hag hm hz
/-- Three results, the first a struct, the second one too. -/
theorem finAA {fn : Func} {R : Value → Hp → Prop} {l : Fm} {hp : Hp} {a t b a2 t2 b2 s2 : Nat} {cs cs2 : Array Value} {tb tb2 : TypeId} {v2 : Value} (h : R (.tuple #[.agg cs, .agg cs2, v2]) hp) (hr : fn.results = #[.cell a t, .cell a2 t2, .tmp s2] := by rfl) (hv : look l a = some (.pointer (some ⟨b, 0, none⟩)) := by rfl) (hw : look l a2 = some (.pointer (some ⟨b2, 0, none⟩)) := by rfl) (h2 : look l s2 = some v2 := by rfl) (hag : mem Tb.ag t = true := by rfl) (hm : (⟨b, cs, tb⟩ : Blk) ∈ hp := by (first | (with_reducible apply mh) | (focus ((repeat (first | (with_reducible apply mh) | (with_reducible apply mt) | (with_reducible apply List.mem_append_right))); done)))) (hz : lk Tb.sz t = some cs.size := by rfl) (hag2 : mem Tb.ag t2 = true := by rfl) (hm2 : (⟨b2, cs2, tb2⟩ : Blk) ∈ hp := by (first | (with_reducible apply mh) | (focus ((repeat (first | (with_reducible apply mh) | (with_reducible apply mt) | (with_reducible apply List.mem_append_right))); done)))) (hz2 : lk Tb.sz t2 = some cs2.size := by rfl) : Fin Try.prog fn R .ret l hp :=
  ⟨.inl rfl, [.agg cs, .agg cs2, v2], by rw [hr]; exact ⟨⟨⟨b, cs, tb⟩, hm, hv, .inr ⟨tb_ok.gag hag, tb_ok.gsz hz, rfl⟩⟩, ⟨⟨b2, cs2, tb2⟩, hm2, hw, .inr ⟨tb_ok.gag hag2, tb_ok.gsz hz2, rfl⟩⟩, h2, trivial⟩, h⟩
theorem HpLe.mem {r h : Hp} (hl : HpLe r h) {b : Blk} (hb : b ∈ r) : b ∈ h := by
  obtain ⟨x, hx⟩ := hl.perm
  exact hx.mem_iff.1 (List.mem_append_left _ hb)
theorem walkL_len {ws : List Nat} {page down : Nat} : ∀ (k level : Nat) (f : Int) (fs : List Int) (d : DsD), (walkL ws page down k level f fs d).fs.length ≤ fs.length + k := by
  intro k
  induction k with
  | zero => intro level f fs d; exact Nat.le_refl _
  | succ k ih =>
    intro level f fs d
    rw [walkL]
    cases hasF ws.length f with
    | false => simp
    | true =>
      simp only [cond_true]
      cases (!decide ((dAt ws (atN f level page) level).kind = 1) || decide (level = down)) with
      | true => simp
      | false =>
        have := ih (level + 1) (dAt ws (atN f level page) level).frame (fs ++ [f]) (dAt ws (atN f level page) level)
        rw [List.length_append, List.length_singleton] at this
        simp only [cond_false]; omega
theorem wayL_len (ws : List Nat) (root : Int) (page down : Nat) : (wayL ws root page down).fs.length ≤ 4 := walkL_len 4 0 root [] noDs
theorem snoc_place (fs : List Int) (f : Int) (d : DsD) (b : Bool) (page : Nat) : (⟨fs ++ [f], d, b⟩ : WkD).lv = fs.length ∧ (⟨fs ++ [f], d, b⟩ : WkD).place page = atN f fs.length page := by
  have h1 : (⟨fs ++ [f], d, b⟩ : WkD).lv = fs.length := by simp [WkD.lv]
  refine ⟨h1, ?_⟩
  unfold WkD.place
  rw [h1]
  congr 1
  simp [List.getD_eq_getElem?_getD]
attribute [local irreducible] Hy St Ops DH DHF
/-- A memory, wherever it lies. -/
def MemAt (w0 : World) (mv : Value) (hm : Hp) (us : List Nat) : Prop := ∀ wc hp, Good w0 [] hp wc → (∀ b ∈ hm, b ∈ hp) → SlAt wc mv 1 (us.map uV)
structure LkS where
  i : Nat
  us : List Nat
  ft : Int
  p : Option Addr
  mq : Option Addr
  mc : Nat
  hm : Hp
theorem SlAt.drop {w : World} {p : Option Addr} {n c i : Nat} {xs : List Int} (h : SlAt w (.slice p n c) 1 (xs.map inV)) (hn : n = xs.length) (hc : n ≤ c) (hi : i ≤ n) : ∃ p', sliced p i n c 1 = .slice p' (xs.drop i).length (c - i) ∧ (xs.drop i).length ≤ c - i ∧ SlAt w (.slice p' (xs.drop i).length (c - i)) 1 ((xs.drop i).map inV) := by
  subst hn
  obtain ⟨⟨q, cap, e, hne⟩, hle⟩ := h
  injection e with e1 e2 e3
  subst e1 e3
  have hdl : (xs.drop i).length = xs.length - i := List.length_drop
  refine ⟨_, by unfold sliced; rw [hdl], by omega, ⟨⟨_, _, by rw [List.length_map], fun hx => ?_⟩, by rw [List.length_map] at hle ⊢; omega⟩⟩
  have hlt : i < xs.length := by
    rcases Nat.lt_or_ge i xs.length with h | h
    · exact h
    · rw [List.drop_eq_nil_of_le h] at hx; exact absurd rfl hx
  obtain ⟨b, o, rfl, hr⟩ := hne (by intro e; simp at e; subst e; simp at hlt)
  refine ⟨b, o + i, ?_, fun j cc hj => ?_⟩
  · rw [if_neg (by omega), Nat.mul_one]; simp [slice_add]
  · rw [List.map_drop, List.getElem?_drop] at hj
    have := hr (i + j) cc hj
    rw [Nat.mul_one] at this ⊢
    rwa [← Nat.add_assoc] at this
end Go.Proofs.Ytiggoglimlnmmaa
