/- Layer 18 (part): the first partition. -/
import Derived.Test.YtdfkcjjbflcafaaGreatPartF
namespace Go.Proofs.YtdfkcjjbflcafaaGreat
open Go.RowKit
set_option linter.unusedVariables false
set_option linter.unusedSimpArgs false
set_option maxRecDepth 20000
attribute [local irreducible] Hy St Ops DH DHF
/-- The blocks lie in a world. -/
def Here (hn : Hp) (w : World) : Prop := ∀ e ∈ hn, w.heap[e.b]? = some (.cells e.cs e.t (0, 0))
theorem Good.lie {w0 w : World} {mu : List Nat} {hp hn : Hp} (hG : Good w0 mu hp w) (hm : ∀ e ∈ hn, e ∈ hp) : Here hn w := fun e he => hG.here e (hm e he)
theorem Here.sub {hn hm : Hp} {w : World} (h : Here hn w) (hs : ∀ e ∈ hm, e ∈ hn) : Here hm w := fun e he => h e (hs e he)
theorem Acc.lie {e sz : Nat} {v : Value} {ha : Hp} {xs : List (List Value)} {w : World} (hA : Acc e sz v ha xs) (h : Here ha w) (hle : xs.length ≤ 281474976710656) : SlAt w v sz xs := by
  rcases hA.2 with ⟨rfl, rfl, rfl⟩ | ⟨hne, g, cap, cur, rfl, rfl, hrow⟩
  · exact ⟨⟨none, 0, rfl, fun h => absurd rfl h⟩, hle⟩
  · refine ⟨⟨_, _, rfl, fun _ => ⟨g, 0, rfl, fun i c hc j u hj => ?_⟩⟩, hle⟩
    have hb := h _ (List.mem_singleton.2 rfl)
    rw [cell_of_block hb]
    have hcl := (hA.1 c (List.mem_of_getElem? hc)).1
    have hi : i < xs.length := (List.getElem?_eq_some_iff.1 hc).1
    have hjl : j < sz := by rw [← hcl]; exact (List.getElem?_eq_some_iff.1 hj).1
    have hf := flatten_row (fun c hc => (hA.1 c hc).1) hc
    rw [← hrow.take] at hf
    have hle : i * sz + j < xs.length * sz := by
      calc i * sz + j < i * sz + sz := by omega
        _ = (i + 1) * sz := by rw [Nat.succ_mul]
        _ ≤ _ := Nat.mul_le_mul_right _ hi
    rw [← hf, List.getElem?_take, if_pos hjl, List.getElem?_drop, List.getElem?_take, if_pos hle] at hj
    rw [Nat.zero_add]
    simpa using hj
/-- A row of cells that lies in a block of its own. -/
theorem lie_rows {w : World} {b t cap sz : Nat} {xs : List (List Value)} (h : w.heap[b]? = some (.cells xs.flatten.toArray t (0, 0))) (hs : ∀ c ∈ xs, c.length = sz) (hle : xs.length ≤ 281474976710656) : SlAt w (.slice (some ⟨b, 0, none⟩) xs.length cap) sz xs := by
  refine ⟨⟨_, _, rfl, fun _ => ⟨b, 0, rfl, fun i c hc j u hj => ?_⟩⟩, hle⟩
  rw [cell_of_block h]
  have hf := flatten_row hs hc
  have hcl := hs c (List.mem_of_getElem? hc)
  have hjl : j < sz := by rw [← hcl]; exact (List.getElem?_eq_some_iff.1 hj).1
  rw [← hf, List.getElem?_take, if_pos hjl, List.getElem?_drop] at hj
  rw [Nat.zero_add]
  simpa using hj
def bootL (frames cpus : Nat) : PtD := ⟨(List.range frames).map fun f => ⟨bif decide (f < 16) then -1 else 0, -2⟩, List.replicate 4 ⟨false, false, 0, [], []⟩, List.replicate cpus ⟨0, 0⟩⟩
def mayBoot (frames cpus : Int) : Bool := PtD.btw frames 24 64 && PtD.btw cpus 1 3
/-- What Boot answers. -/
def BootR (frames cpus : Int) (u : Value) (hn : Hp) : Prop :=
  bif mayBoot frames cpus then ∃ pv gv ov, u = .tuple #[.agg #[pv, gv, ov], .int .i64 0] ∧ ∀ w, Here hn w → PartG w pv gv ov (bootL frames.toNat cpus.toNat)
  else u = .tuple #[.agg #[.slice none 0 0, .slice none 0 0, .slice none 0 0], .int .i64 1]
theorem made_rows (zl : List Value) (n sz : Nat) (hs : zl.length = sz) (h0 : 0 < sz) : madeCells zl.toArray (n * sz) = ((List.replicate n zl).flatten).toArray := by
  have h := rep_eq zl.toArray (by simpa [hs] using h0) n
  have e : ∀ n, rep zl n = (List.replicate n zl).flatten := by
    intro n
    induction n with
    | zero => rfl
    | succ n ih => rw [rep, ih, List.replicate_succ', List.flatten_append]; simp
  rw [← e]
  simpa [madeCells, hs] using h
theorem bootG {w : World} {F C : Nat} {pv : Value} {ha : Hp} {Bg Bo tg tq : Nat} (hA : Acc 56 2 pv ha ((bootL F C).pages.map pgV)) (hF : F ≤ 64) (hC : C ≤ 3) (h : Here (⟨Bg, ((List.replicate 4 [Value.bool false, .bool false, .int .i64 0, .slice none 0 0, .slice none 0 0]).flatten).toArray, tg⟩ :: ⟨Bo, ((List.replicate C [Value.int .i64 0, .int .i64 0]).flatten).toArray, tq⟩ :: ha) w) :
    PartG w pv (.slice (some ⟨Bg, 0, none⟩) 4 4) (.slice (some ⟨Bo, 0, none⟩) C C) (bootL F C) := by
  have hnil : ∀ sz, SlAt w (.slice none 0 0) sz [] := fun sz => ⟨⟨none, 0, rfl, fun h => absurd rfl h⟩, by simp⟩
  have hg : ∀ i, (bootL F C).gs i = ⟨false, false, 0, [], []⟩ := fun i => by
    simp only [bootL, PtD.gs, List.getD_eq_getElem?_getD, List.getElem?_replicate]
    split <;> rfl
  refine ⟨hA.lie (h.sub fun e he => List.mem_cons_of_mem _ (List.mem_cons_of_mem _ he)) (by simp [bootL]; omega), ⟨fun _ => .slice none 0 0, fun _ => .slice none 0 0, ?_, fun i _ => by rw [hg i]; exact ⟨hnil 1, hnil 2⟩⟩, ?_, ?_⟩
  · have := lie_rows (w := w) (b := Bg) (t := tg) (cap := 4) (sz := 5) (xs := List.replicate 4 [Value.bool false, .bool false, .int .i64 0, .slice none 0 0, .slice none 0 0]) (h _ (List.mem_cons_self ..)) (by intro c hc; rw [List.eq_of_mem_replicate hc]; rfl) (by simp)
    have e : ((List.range (bootL F C).guests.length).map fun i => [Value.bool ((bootL F C).gs i).live, .bool ((bootL F C).gs i).dying, .int .i64 ((bootL F C).gs i).first, .slice none 0 0, .slice none 0 0]) = List.replicate 4 [Value.bool false, .bool false, .int .i64 0, .slice none 0 0, .slice none 0 0] := by simp only [hg]; rfl
    rw [e]
    simpa using this
  · have := lie_rows (w := w) (b := Bo) (t := tq) (cap := C) (sz := 2) (xs := List.replicate C [Value.int .i64 0, .int .i64 0]) (h _ (List.mem_cons_of_mem _ (List.mem_cons_self ..))) (by intro c hc; rw [List.eq_of_mem_replicate hc]; rfl) (by simp; omega)
    simpa [bootL, stV] using this
  · refine ⟨fun f hf => ?_, fun i _ => by rw [hg i]; exact ⟨⟨by decide, by decide⟩, by simp, by simp⟩, fun c hc => ?_⟩
    · simp only [bootL, List.length_map, List.length_range] at hf
      simp only [bootL, PtD.pg, List.getD_eq_getElem?_getD, List.getElem?_map, List.getElem?_range hf, Option.map_some, Option.getD_some]
      refine ⟨?_, by decide, by decide⟩
      cases decide (f < 16) <;> exact ⟨by decide, by decide⟩
    · simp only [bootL, List.length_replicate] at hc
      simp only [bootL, PtD.st, List.getD_eq_getElem?_getD, List.getElem?_replicate, hc, if_true, Option.getD_some]
      exact ⟨⟨by decide, by decide⟩, by decide, by decide⟩
theorem boot_e (frames cpus : Int) (w : World) : Fn Tryz.prog 38 [.int .i64 frames, .int .i64 cpus].toArray w [] (BootR frames cpus) := by
  refine enter Tryz.func38 ?_
  refine run ?_
  intro Rb
  refine callE (fun wc hG => between_e _ _ _ wc) ?_
  refine runG ?_
  refine callEG (fun h1 wc hG => between_e _ _ _ wc) ?_
  refine runG ?_
  refine st_cond _ rfl (fun hc => ?_) (fun hc => ?_)
  · refine run ?_
    refine finA1 ?_
    simp only [BootR, mayBoot]
    revert hc
    cases PtD.btw frames 24 64 <;> cases PtD.btw cpus 1 3 <;> simp
  simp only [Bool.or_eq_false_iff, Bool.not_eq_false'] at hc
  obtain ⟨h1, h2⟩ := hc
  have h1' := h1
  have h2' := h2
  simp only [PtD.btw, Bool.and_eq_true, decide_eq_true_eq] at h1' h2'
  obtain ⟨F, rfl⟩ : ∃ k : Nat, frames = (k : Int) := ⟨frames.toNat, by omega⟩
  obtain ⟨C, rfl⟩ : ∃ k : Nat, cpus = (k : Int) := ⟨cpus.toNat, by omega⟩
  refine run ?_
  refine drawM 5 [1] [0, 2, 4] [3] ?_
  refine runS ?_
  refine eMake (m := 4) (sz := 5) (z := .agg #[.bool false, .bool false, .int .i64 0, .slice none 0 0, .slice none 0 0]) ?_ (by omega) (hcs := by exact made_rows [.bool false, .bool false, .int .i64 0, .slice none 0 0, .slice none 0 0] 4 5 rfl (by omega))
  refine eMake (m := C) (sz := 2) (z := .agg #[.int .i64 0, .int .i64 0]) ?_ (by omega) (hcs := by exact made_rows [.int .i64 0, .int .i64 0] C 2 rfl (by omega))
  refine eAlloc ?_
  refine eNil ?_
  rintro _ _ ⟨Bp, rfl, rfl⟩ _ _ ⟨Bo, rfl, rfl⟩ _ _ ⟨Bg, rfl, rfl⟩
  refine dBuild ?_
  refine dNil ?_
  refine opsF ?_
  simp only [List.cons_append, List.nil_append]
  obtain ⟨GC, hGC⟩ : ∃ G : Array Value, G = ((List.replicate 4 [Value.bool false, .bool false, .int .i64 0, .slice none 0 0, .slice none 0 0]).flatten).toArray := ⟨_, rfl⟩
  obtain ⟨OC, hOC⟩ : ∃ G : Array Value, G = ((List.replicate C [Value.int .i64 0, .int .i64 0]).flatten).toArray := ⟨_, rfl⟩
  rw [← hGC, ← hOC]
  refine run ?_
  refine loopS (σ := Nat × Value × Hp) (fun s => [(23, .int .i64 (s.1 : Int))]) (fun s => ⟨Bp, #[s.2.1, .slice (some ⟨Bg, 0, none⟩) 4 4, .slice (some ⟨Bo, 0, none⟩) C C], 26⟩ :: ⟨Rb, #[.slice none 0 0, .slice none 0 0, .slice none 0 0], 26⟩ :: ⟨Bg, GC, 63⟩ :: ⟨Bo, OC, 52⟩ :: s.2.2) (fun s => s.1 ≤ F ∧ Acc 56 2 s.2.1 s.2.2 ((bootL s.1 C).pages.map pgV)) (fun s => F - s.1) (0, _, []) ⟨by omega, Acc.nil _ _⟩ ?_
  rintro ⟨k, pv, ha⟩ m hm ⟨hk, hA⟩
  dsimp only at hm hk hA ⊢
  have hpl : (bootL k C).pages.length = k := by simp [bootL]
  refine run ?_
  refine st_cond _ rfl (fun hc => ?_) (fun hc => ?_)
  · have hlt : k < F := by simp at hc; omega
    have hstep : ∀ (x : PgD) (v' : Value) (ha' : Hp), x = ⟨bif decide (k < 16) then -1 else 0, -2⟩ → Acc 56 2 v' ha' ((bootL k C).pages.map pgV ++ [pgV x]) → Acc 56 2 v' ha' ((bootL (k + 1) C).pages.map pgV) := by
      rintro x v' ha' rfl h
      simpa [bootL, List.range_succ] using h
    refine run ?_
    refine callE (fun wc hG => free_e wc) ?_
    refine run ?_
    intro X
    refine st_cond _ rfl (fun hc2 => ?_) (fun hc2 => ?_)
    · have hc2' : decide (k < 16) = true := by simp at hc2 ⊢; omega
      refine run ?_
      refine callE (fun wc hG => ours_e wc) ?_
      refine run ?_
      intro T
      refine appendR (c := pgV ⟨-1, -2⟩) [_, _, _, _, _, _] hA (fun v' ha' hA' => ?_) (by simp [hpl]; omega) (news_own (m := 2) mh rfl)
      obtain ⟨g, gc, cur, rfl, hha, _⟩ := hA'.open (by simp)
      simp only [List.cons_append, List.nil_append]
      refine run ?_
      refine nextS (k + 1, _, ha') ⟨by omega, hstep _ _ _ (by rw [hc2']; rfl) hA'⟩
    · have hc2' : decide (k < 16) = false := by simp at hc2 ⊢; omega
      refine run ?_
      intro T
      refine appendR (c := pgV ⟨0, -2⟩) [_, _, _, _, _, _] hA (fun v' ha' hA' => ?_) (by simp [hpl]; omega) (news_own (m := 2) mh rfl)
      obtain ⟨g, gc, cur, rfl, hha, _⟩ := hA'.open (by simp)
      simp only [List.cons_append, List.nil_append]
      refine run ?_
      refine nextS (k + 1, _, ha') ⟨by omega, hstep _ _ _ (by rw [hc2']; rfl) hA'⟩
  have hge : k = F := by simp at hc; omega
  subst hge
  subst hGC hOC
  obtain ⟨q, qc, hq, _⟩ : ∃ q qc, pv = .slice q (bootL k C).pages.length qc ∧ True := by
    rcases hA.2 with ⟨h, _⟩ | ⟨_, g, cap, cur, rfl, _, _⟩
    · rw [List.map_eq_nil_iff] at h; rw [h] at hpl; simp at hpl; omega
    · exact ⟨_, cap, by rw [List.length_map], trivial⟩
  subst hq
  refine run ?_
  refine finA1 ?_
  simp only [BootR, mayBoot, h1, h2, Bool.and_self, cond_true, Int.toNat_natCast]
  refine ⟨_, _, _, rfl, fun w' hw' => bootG (tg := 63) (tq := 52) hA (by omega) (by omega) (hw'.sub ?_)⟩
  intro e he
  simp only [List.mem_cons] at he ⊢
  rcases he with rfl | rfl | he
  · simp
  · simp
  · simp [he]
end Go.Proofs.YtdfkcjjbflcafaaGreat
