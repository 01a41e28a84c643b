/- Layers 10, 17: the program's Apply, Forget. -/
import Derived.Test.YtcjbpdejlfomkaaTlG
namespace Go.Proofs.Ytcjbpdejlfomkaa
open Go.RowKit
set_option linter.unusedVariables false
set_option linter.unusedSimpArgs false
set_option maxRecDepth 20000
def applyL (es : List EnD) (due : List IvD) : List EnD := keepL (fun e => due.any fun i => i.takes e) es
def ApR (r : Option (List EnD × List IvD)) (u : Value) (hn : Hp) : Prop := match r with
  | none => u = .tuple #[.agg #[.slice none 0 0, .slice none 0 0], .int .i64 1]
  | some x => ∃ v1 h1 v2 h2, u = .tuple #[.agg #[v1, v2], .int .i64 0] ∧ Own 50 14 v1 h1 (x.1.map enV) ∧ Own 115 4 v2 h2 (x.2.map ivV) ∧ HpLe (h1 ++ h2) hn
def applyG (es : List EnD) (ds due : List IvD) : Option (List EnD × List IvD) := bif tlbOk es ds && due.all IvD.may then some (applyL es due, ds) else none
theorem tlbOk_may {es : List EnD} {ds : List IvD} (h : tlbOk es ds = true) : (∀ e ∈ es, e.may = true) ∧ es.length ≤ 8 ∧ ds.length ≤ 8 := by
  simp only [tlbOk, Bool.and_eq_true, decide_eq_true_eq] at h
  refine ⟨fun e he => ?_, h.1.2, h.2⟩
  obtain ⟨j, hj, rfl⟩ := List.getElem_of_mem he
  have := List.all_eq_true.1 h.1.1.1 j (List.mem_range.2 hj)
  simp only [enOk, Bool.and_eq_true] at this
  rw [List.getD_eq_getElem?_getD, List.getElem?_eq_getElem hj] at this
  exact this.1
/-- What lay in the elder world lies there still when one's own blocks are written. -/
theorem SlAt.keep {w0 wc w' : World} {hp hp2 h1 : Hp} {v : Value} {sz : Nat} {xs : List (List Value)} (h : SlAt w0 v sz xs) (hG : Good w0 [] (h1 ++ hp) wc) (hg : Good wc (h1.map (·.b)) hp2 w') : SlAt w' v sz xs := by
  obtain ⟨⟨p, c, rfl, hp⟩, hl⟩ := h
  refine ⟨⟨p, c, rfl, fun hne => ?_⟩, hl⟩
  obtain ⟨b, off, rfl, hr⟩ := hp hne
  refine ⟨b, off, rfl, fun i c hc => ?_⟩
  intro j u hj
  have h3 := hr i c hc j u hj
  refine hg.cell (hG.cell h3 (by simp)) fun hm => ?_
  obtain ⟨e, he, hb⟩ := List.mem_map.1 hm
  have h4 : b < w0.heap.size := block_lt_of_cell h3
  rcases hG.own e (List.mem_append_left _ he) with h5 | h5
  · simp at h5
  · rw [hb] at h5; omega
theorem notin_left {w0 w : World} {mu : List Nat} {h1 hp : Hp} {e : Blk} (hG : Good w0 mu (h1 ++ hp) w) (he : e ∈ hp) : e.b ∉ h1.map (·.b) := by
  have hn := hG.nodup
  rw [List.map_append, List.nodup_append] at hn
  exact fun hm => hn.2.2 _ hm _ (List.mem_map.2 ⟨e, he, rfl⟩) rfl
attribute [local irreducible] Hy St Ops DH DHF DE1 DE2 DE3 DS DCh
theorem iApply_e {w : World} (es : List EnD) (ds due : List IvD) (v u lv : Value) (h : SlAt w v 14 (es.map enV)) (hd : SlAt w u 4 (ds.map ivV)) (hcap : ∃ q c, v = .slice q es.length c ∧ es.length ≤ c) (hl : SlAt w lv 4 (due.map ivV)) :
    Fn Try.prog 54 [.agg #[v, u], lv].toArray w [] (fun r hn => ApR (applyG es ds due) r hn) := by
  have h' := h
  have hd' := hd
  have hl' := hl
  obtain ⟨q, cap, rfl, _, _⟩ := h.opened
  obtain ⟨q2, cap2, rfl, _, _⟩ := hd.opened
  obtain ⟨q3, cap3, rfl, hne3, _⟩ := hl.opened
  refine enter Try.func54 ?_
  refine run ?_
  intro B C R
  refine callE (fun wc hG => tCheck_e es ds _ _ (h'.good hG) (hd'.good hG) hcap) ?_
  cases ht : tlbOk es ds with
  | false =>
    refine runC ?_
    have hg : applyG es ds due = none := by simp [applyG, ht]
    rw [hg]
    refine finA1 (cs := #[.slice none 0 0, .slice none 0 0]) ?_
    rfl
  | true =>
  obtain ⟨hmay, h8, h8d⟩ := tlbOk_may ht
  refine runC ?_
  refine callEG (fun _ wc hG => iMay_e due (hl'.good hG)) ?_
  refine runC ?_
  cases hm : due.all IvD.may with
  | false =>
    refine runC ?_
    have hg : applyG es ds due = none := by simp [applyG, ht, hm]
    rw [hg]
    refine finA1 (cs := #[.slice none 0 0, .slice none 0 0]) ?_
    rfl
  | true =>
  have hg : applyG es ds due = some (applyL es due, ds) := by simp only [applyG, ht, hm]; rfl
  rw [hg]
  refine runC ?_
  refine callB (fun wc hG => tlbCopy_e es ds _ _ (h'.good hG) (hd'.good hG) (by omega) (by omega)) ?_
  rintro _ hn ⟨v1, h1, v2, h2, rfl, hO1, hO2, hle⟩
  obtain ⟨p1, c1, e1⟩ := hO1.opened
  obtain ⟨p2, c2, e2⟩ := hO2.opened
  rw [List.length_map] at e1 e2
  subst e1 e2
  refine ops_sub hle ?_
  refine ops_perm (_ ++ (h1 ++ h2)) List.perm_append_comm ?_
  simp only [List.cons_append, List.nil_append]
  refine runC ?_
  intro X
  refine runC ?_
  have hdue : ∀ i ∈ due, i.may = true := fun i hi => List.all_eq_true.1 hm i hi
  refine callM (R := fun u hn => Own 50 14 u hn ((applyL es due).map enV)) h1 (⟨X, #[.slice p1 es.length c1, .slice p2 ds.length c2], 48⟩ :: ⟨R, #[.slice none 0 0, .slice none 0 0], 48⟩ :: ⟨C, #[.slice q3 due.length cap3], 46⟩ :: ⟨B, #[.slice q es.length cap, .slice q2 ds.length cap2], 48⟩ :: h2) (fun wc hG => ?_) (fun v4 h4 hO4 => ?_) (by (refine perm_cnt fun a => ?_; simp only [cntB_app, cntB_cons, cntB_nil]; omega))
  · refine deleteEn_e (us := [.pointer (some ⟨C, 0, none⟩)]) (fun e => due.any fun i => i.takes e) es hO1 hG.hereN (by omega) (fun x hx w' ha => ?_)
    obtain ⟨hp, hg⟩ := ha
    have hC : (⟨C, #[.slice q3 due.length cap3], 46⟩ : Blk) ∈ (⟨X, #[.slice p1 es.length c1, .slice p2 ds.length c2], 48⟩ :: ⟨R, #[.slice none 0 0, .slice none 0 0], 48⟩ :: ⟨C, #[.slice q3 due.length cap3], 46⟩ :: ⟨B, #[.slice q es.length cap, .slice q2 ds.length cap2], 48⟩ :: h2 : Hp) := by simp
    exact apply1_e due hdue x (hmay x hx) C (hg.cell (by rw [cell_of_block (hG.here _ (List.mem_append_right _ hC))]; rfl) (notin_left hG hC)) (hl'.keep hG hg)
  generalize applyL es due = al at hO4
  obtain ⟨p4, c4, e4⟩ := hO4.opened
  rw [List.length_map] at e4
  subst e4
  refine ops_perm (_ ++ h4) List.perm_append_comm ?_
  simp only [List.cons_append, List.nil_append]
  refine runC ?_
  refine z_store tb_ok (b := R) (off := 0) (cs := #[.slice none 0 0, .slice none 0 0]) (cs' := #[.slice p4 al.length c4, .slice p2 ds.length c2]) (tb := 48) (vs := [.slice p4 al.length c4, .slice p2 ds.length c2]) (sz := 2) rfl rfl rfl rfl rfl (List.Perm.swap ..) rfl (Nat.le_refl 2) rfl ?_
  refine runC ?_
  refine finA1 (cs := #[.slice p4 al.length c4, .slice p2 ds.length c2]) ?_
  exact ⟨_, h4, _, h2, rfl, hO4, hO2, by (refine hpLe_cnt fun a => ?_; simp only [cntB_app, cntB_cons, cntB_nil]; omega)⟩
end Go.Proofs.Ytcjbpdejlfomkaa
