/- Layer 18 (part): the first partition: the program's and the document's. -/
import Derived.Test.YtiaelhhmlbfkmaaGreatEng2
import Derived.Test.YtiaelhhmlbfkmaaGreatLay1
namespace Go.Proofs.YtiaelhhmlbfkmaaGreat
open Go.RowKit
set_option linter.unusedVariables false
set_option linter.unusedSimpArgs false
set_option maxRecDepth 20000
attribute [local irreducible] Hy St Ops DH DHF
theorem between_e (n a b : Int) (w : World) : Fn Tryz.prog 110 [.int .i64 n, .int .i64 a, .int .i64 b].toArray w [] (fun u _ => u = .bool (PtD.btw n a b)) := by
  refine enter Tryz.func110 ?_
  refine runG ?_
  exact fin1 rfl
theorem free_e (w : World) : Fn Tryz.prog 273 [].toArray w [] (fun u _ => u = .agg #[.int .i64 0, .int .i64 (-2)]) := by
  refine enter (args := []) Tryz.func273 ?_
  refine runG ?_
  intro B
  exact finA rfl
theorem ours_e (w : World) : Fn Tryz.prog 246 [].toArray w [] (fun u _ => u = .agg #[.int .i64 (-1), .int .i64 (-2)]) := by
  refine enter (args := []) Tryz.func246 ?_
  refine runG ?_
  intro B
  exact finA rfl
/-- A partition by its three slices. -/
structure PartG (w : World) (pv gv ov : Value) (P : PtD) : Prop where
  pages : SlAt w pv 2 (P.pages.map pgV)
  guests : ∃ vv mv : Nat → Value, SlAt w gv 5 ((List.range P.guests.length).map fun i => [.bool (P.gs i).live, .bool (P.gs i).dying, .int .i64 (P.gs i).first, vv i, mv i]) ∧ ∀ i, i < P.guests.length → SlAt w (vv i) 1 ((P.gs i).vcpus.map inV) ∧ SlAt w (mv i) 2 ((P.gs i).maps.map mpV)
  on : SlAt w ov 2 (P.on.map stV)
  wf : P.Wf
theorem PartG.good {w w' : World} {hp : Hp} {pv gv ov : Value} {P : PtD} (h : PartG w pv gv ov P) (hG : Good w [] hp w') : PartG w' pv gv ov P := by
  obtain ⟨h1, ⟨vv, mv, h2, h3⟩, h4, h5⟩ := h
  exact ⟨h1.good hG, ⟨vv, mv, h2.good hG, fun i hi => ⟨(h3 i hi).1.good hG, (h3 i hi).2.good hG⟩⟩, h4.good hG, h5⟩
theorem PartG.open {w : World} {pv gv ov : Value} {P : PtD} (h : PartG w pv gv ov P) (hn : P.Len) : ∃ L : PtL, pv = L.pv P.pages.length ∧ gv = L.gv P.guests.length ∧ ov = L.ov P.on.length ∧ PartV w L P := by
  obtain ⟨⟨⟨p, pc, e1, hp⟩, _⟩, ⟨vv, mv, ⟨⟨g, gc, e2, hg⟩, _⟩, h3⟩, ⟨⟨o, oc, e4, ho⟩, _⟩, h5⟩ := h
  obtain ⟨a, b, c, d, e⟩ := hn
  obtain ⟨pb, po, rfl, hp2⟩ := hp (by intro h; rw [List.map_eq_nil_iff] at h; rw [h] at a; simp at a)
  obtain ⟨gb, go, rfl, hg2⟩ := hg (by intro h; rw [List.map_eq_nil_iff, List.range_eq_nil] at h; omega)
  obtain ⟨ob, oo, rfl, ho2⟩ := ho (by intro h; rw [List.map_eq_nil_iff] at h; rw [h] at d; simp at d)
  simp only [List.length_map, List.length_range] at e1 e2 e4
  refine ⟨⟨pb, po, pc, gb, go, gc, ob, oo, oc, vv, mv⟩, e1, e2, e4, ⟨fun i hi => ?_, fun i hi => ?_, fun i hi => (h3 i hi).1, fun i hi => (h3 i hi).2, fun i hi => ?_, h5⟩⟩
  · refine hp2 i _ ?_
    rw [List.getElem?_map, PtD.pg, List.getD_eq_getElem?_getD, List.getElem?_eq_getElem hi]; rfl
  · exact hg2 i _ (getD_range_map _ hi)
  · refine ho2 i _ ?_
    rw [List.getElem?_map, PtD.st, List.getD_eq_getElem?_getD, List.getElem?_eq_getElem hi]; rfl
def bootL (frames cpus : Nat) : PtD := ⟨(List.range frames).map fun f => ⟨bif decide (f < 16) then -1 else 0, -2⟩, List.replicate 4 ⟨false, false, 0, [], []⟩, List.replicate cpus ⟨0, 0⟩⟩
def mayBoot (frames cpus : Int) : Bool := PtD.btw frames 24 64 && PtD.btw cpus 1 3
/-- What Boot answers. -/
def BootR (frames cpus : Int) (u : Value) (hn : Hp) : Prop :=
  bif mayBoot frames cpus then ∃ pv gv ov, u = .tuple #[.agg #[pv, gv, ov], .int .i64 0] ∧ ∀ w, Here hn w → PartG w pv gv ov (bootL frames.toNat cpus.toNat)
  else u = .tuple #[.agg #[.slice none 0 0, .slice none 0 0, .slice none 0 0], .int .i64 1]
theorem bootG {w : World} {F C : Nat} {pv : Value} {ha : Hp} {Bg Bo tg tq : Nat} (hA : Acc 70 2 pv ha ((bootL F C).pages.map pgV)) (hF : F ≤ 64) (hC : C ≤ 3) (h : Here (⟨Bg, ((List.replicate 4 [Value.bool false, .bool false, .int .i64 0, .slice none 0 0, .slice none 0 0]).flatten).toArray, tg⟩ :: ⟨Bo, ((List.replicate C [Value.int .i64 0, .int .i64 0]).flatten).toArray, tq⟩ :: ha) w) :
    PartG w pv (.slice (some ⟨Bg, 0, none⟩) 4 4) (.slice (some ⟨Bo, 0, none⟩) C C) (bootL F C) := by
  have hnil : ∀ sz, SlAt w (.slice none 0 0) sz [] := fun sz => ⟨⟨none, 0, rfl, fun h => absurd rfl h⟩, by simp⟩
  have hg : ∀ i, (bootL F C).gs i = ⟨false, false, 0, [], []⟩ := fun i => by
    simp only [bootL, PtD.gs, List.getD_eq_getElem?_getD, List.getElem?_replicate]
    split <;> rfl
  refine ⟨hA.lie (h.sub fun e he => List.mem_cons_of_mem _ (List.mem_cons_of_mem _ he)) (by simp [bootL]; omega), ⟨fun _ => .slice none 0 0, fun _ => .slice none 0 0, ?_, fun i _ => by rw [hg i]; exact ⟨hnil 1, hnil 2⟩⟩, ?_, ?_⟩
  · have := lie_rows (w := w) (b := Bg) (t := tg) (cap := 4) (sz := 5) (xs := List.replicate 4 [Value.bool false, .bool false, .int .i64 0, .slice none 0 0, .slice none 0 0]) (h _ (List.mem_cons_self ..)) (by intro c hc; rw [List.eq_of_mem_replicate hc]; rfl) (by simp)
    have e : ((List.range (bootL F C).guests.length).map fun i => [Value.bool ((bootL F C).gs i).live, .bool ((bootL F C).gs i).dying, .int .i64 ((bootL F C).gs i).first, .slice none 0 0, .slice none 0 0]) = List.replicate 4 [Value.bool false, .bool false, .int .i64 0, .slice none 0 0, .slice none 0 0] := by simp only [hg]; rfl
    rw [e]
    simpa using this
  · have := lie_rows (w := w) (b := Bo) (t := tq) (cap := C) (sz := 2) (xs := List.replicate C [Value.int .i64 0, .int .i64 0]) (h _ (List.mem_cons_of_mem _ (List.mem_cons_self ..))) (by intro c hc; rw [List.eq_of_mem_replicate hc]; rfl) (by simp; omega)
    simpa [bootL, stV] using this
  · refine ⟨fun f hf => ?_, fun i _ => by rw [hg i]; exact ⟨⟨by decide, by decide⟩, by simp, by simp⟩, fun c hc => ?_⟩
    · simp only [bootL, List.length_map, List.length_range] at hf
      simp only [bootL, PtD.pg, List.getD_eq_getElem?_getD, List.getElem?_map, List.getElem?_range hf, Option.map_some, Option.getD_some]
      refine ⟨?_, by decide, by decide⟩
      cases decide (f < 16) <;> exact ⟨by decide, by decide⟩
    · simp only [bootL, List.length_replicate] at hc
      simp only [bootL, PtD.st, List.getD_eq_getElem?_getD, List.getElem?_replicate, hc, if_true, Option.getD_some]
      exact ⟨⟨by decide, by decide⟩, by decide, by decide⟩
theorem bootR_e (F C : Nat) (hF : F ≤ 64) (hF1 : 1 ≤ F) (hC : C ≤ 3) (w : World) : Fn Tryz.prog 19 [.int .i64 (F : Int), .int .i64 (C : Int)].toArray w [] (fun u hn => ∃ pv gv ov, u = .agg #[pv, gv, ov] ∧ ∀ w, Here hn w → PartG w pv gv ov (bootL F C)) := by
  refine enter Tryz.func19 ?_
  refine run ?_
  intro Rb
  refine drawM 5 [1] [0, 2, 4] [3] ?_
  refine runS ?_
  refine eMake (m := 4) (sz := 5) (z := .agg #[.bool false, .bool false, .int .i64 0, .slice none 0 0, .slice none 0 0]) ?_ (by omega) (hcs := by exact made_rows [.bool false, .bool false, .int .i64 0, .slice none 0 0, .slice none 0 0] 4 5 rfl (by omega))
  refine eMake (m := C) (sz := 2) (z := .agg #[.int .i64 0, .int .i64 0]) ?_ (by omega) (hcs := by exact made_rows [.int .i64 0, .int .i64 0] C 2 rfl (by omega))
  refine eAlloc ?_
  refine eNil ?_
  rintro _ _ ⟨Bp, rfl, rfl⟩ _ _ ⟨Bo, rfl, rfl⟩ _ _ ⟨Bg, rfl, rfl⟩
  refine dBuild ?_
  refine dNil ?_
  refine opsF ?_
  simp only [List.cons_append, List.nil_append]
  obtain ⟨GC, hGC⟩ : ∃ G : Array Value, G = ((List.replicate 4 [Value.bool false, .bool false, .int .i64 0, .slice none 0 0, .slice none 0 0]).flatten).toArray := ⟨_, rfl⟩
  obtain ⟨OC, hOC⟩ : ∃ G : Array Value, G = ((List.replicate C [Value.int .i64 0, .int .i64 0]).flatten).toArray := ⟨_, rfl⟩
  rw [← hGC, ← hOC]
  refine run ?_
  refine loopS (σ := Nat × Value × Hp) (fun s => [(6, .int .i64 (s.1 : Int))]) (fun s => ⟨Bp, #[s.2.1, .slice (some ⟨Bg, 0, none⟩) 4 4, .slice (some ⟨Bo, 0, none⟩) C C], 38⟩ :: ⟨Rb, #[.slice none 0 0, .slice none 0 0, .slice none 0 0], 38⟩ :: ⟨Bg, GC, 129⟩ :: ⟨Bo, OC, 133⟩ :: s.2.2) (fun s => s.1 ≤ F ∧ Acc 70 2 s.2.1 s.2.2 ((bootL s.1 C).pages.map pgV)) (fun s => F - s.1) (0, _, []) ⟨by omega, Acc.nil _ _⟩ ?_
  rintro ⟨k, pv, ha⟩ m hm ⟨hk, hA⟩
  dsimp only at hm hk hA ⊢
  have hpl : (bootL k C).pages.length = k := by simp [bootL]
  refine run ?_
  refine st_cond _ rfl (fun hc => ?_) (fun hc => ?_)
  · have hlt : k < F := by simp at hc; omega
    have hstep : ∀ (x : PgD) (v' : Value) (ha' : Hp), x = ⟨bif decide (k < 16) then -1 else 0, -2⟩ → Acc 70 2 v' ha' ((bootL k C).pages.map pgV ++ [pgV x]) → Acc 70 2 v' ha' ((bootL (k + 1) C).pages.map pgV) := by
      rintro x v' ha' rfl h
      simpa [bootL, List.range_succ] using h
    refine run ?_
    intro X
    refine st_cond _ rfl (fun hc2 => ?_) (fun hc2 => ?_)
    · have hc2' : decide (k < 16) = true := by simp at hc2 ⊢; omega
      refine run ?_
      intro T
      refine appendR (c := pgV ⟨-1, -2⟩) [_, _, _, _, _, _] hA (fun v' ha' hA' => ?_) (by simp [hpl]; omega) (news_own (m := 2) mh rfl)
      obtain ⟨g, gc, cur, rfl, hha, _⟩ := hA'.open (by simp)
      simp only [List.cons_append, List.nil_append]
      refine run ?_
      refine nextS (k + 1, _, ha') ⟨by omega, hstep _ _ _ (by rw [hc2']; rfl) hA'⟩
    · have hc2' : decide (k < 16) = false := by simp at hc2 ⊢; omega
      refine run ?_
      intro T
      refine appendR (c := pgV ⟨0, -2⟩) [_, _, _, _, _, _] hA (fun v' ha' hA' => ?_) (by simp [hpl]; omega) (news_own (m := 2) mh rfl)
      obtain ⟨g, gc, cur, rfl, hha, _⟩ := hA'.open (by simp)
      simp only [List.cons_append, List.nil_append]
      refine run ?_
      refine nextS (k + 1, _, ha') ⟨by omega, hstep _ _ _ (by rw [hc2']; rfl) hA'⟩
  have hge : k = F := by simp at hc; omega
  subst hge
  subst hGC hOC
  obtain ⟨q, qc, hq, _⟩ : ∃ q qc, pv = .slice q (bootL k C).pages.length qc ∧ True := by
    rcases hA.2 with ⟨h, _⟩ | ⟨_, g, cap, cur, rfl, _, _⟩
    · rw [List.map_eq_nil_iff] at h; rw [h] at hpl; simp at hpl; omega
    · exact ⟨_, cap, by rw [List.length_map], trivial⟩
  subst hq
  refine run ?_
  refine finA ?_
  refine ⟨_, _, _, rfl, fun w' hw' => bootG (tg := 129) (tq := 133) hA (by omega) (by omega) (hw'.sub ?_)⟩
  intro e he
  simp only [List.mem_cons] at he ⊢
  rcases he with rfl | rfl | he
  · simp
  · simp
  · simp [he]
end Go.Proofs.YtiaelhhmlbfkmaaGreat
