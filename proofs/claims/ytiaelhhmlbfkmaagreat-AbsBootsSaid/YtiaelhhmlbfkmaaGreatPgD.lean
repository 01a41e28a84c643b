/- Layer 16: Unmap, the document's; All. -/
import Derived.Test.YtiaelhhmlbfkmaaGreatPgC
namespace Go.Proofs.YtiaelhhmlbfkmaaGreat
open Go.RowKit
set_option linter.unusedVariables false
set_option linter.unusedSimpArgs false
set_option maxRecDepth 20000
attribute [local irreducible] Hy St Ops DH DHF
theorem rUnmap_e (ws : List Nat) (hw : W64 ws) {w : World} {v : Value} (h : SlAt w v 1 (ws.map uV)) (root : Int) (page : Nat) (hp : page ≤ 4095) (note : Int) (h0 : 0 ≤ note) (h15 : note ≤ 15) (hn : ws.length ≤ 512) : Fn Tryz.prog 302 [.agg #[v], .int .i64 root, .int .i64 (page : Int), .int .i64 note].toArray w [] (fun u hn => UnR (unmapL ws root page note) u hn) := by
  obtain ⟨q, cap, rfl, hne, hle⟩ := h.opened
  refine enter Tryz.func302 ?_
  refine run ?_
  intro B C D
  refine run ?_
  refine callB (fun wc hG => rWay_e ws hw (h.good hG) root page hp (by omega)) ?_
  rintro u hn2 ⟨v2, h2, rfl, hO, hle2⟩
  refine ops_sub hle2 ?_
  refine ops_perm (_ ++ h2) List.perm_append_comm ?_
  simp only [List.cons_append, List.nil_append]
  refine run ?_
  intro E
  refine run ?_
  have hl4 := wayL_len ws root page 3
  cases hok : (wayL ws root page 3).ok with
  | false =>
    have e : unmapL ws root page note = (badM 2, noDs) := by simp only [unmapL, hok]; rfl
    rw [e]
    refine runC ?_
    refine finAA (cs2 := #[.int .i64 0, .int .i64 0, .bool false, .bool false, .bool false, .bool false, .bool false, .int .i64 0, .int .i64 0]) ⟨_, _, rfl, Own.nil _ _, trivial⟩
  | true =>
    have hfine := wayL_fine hok
    have hnt := way_tab hok
    simp only [unmapL, hok]
    generalize wayL ws root page 3 = W at hO hok hfine hnt hl4 ⊢
    have hle4 := hfine.le
    have hpos := hfine.pos
    obtain ⟨g, cap2, cur, rfl, rfl, hnth, hszc, _⟩ := hO.setI (k := W.fs.length - 1) (by omega)
    simp only [cond_true, Bool.true_and, Bool.not_true, cond_false]
    refine runC ?_
    have hlv : W.lv = W.fs.length - 1 := rfl
    have e1 : decide ((W.lv : Int) < 3) = !decide (W.lv = 3) := by rw [Bool.eq_iff_iff, decide_eq_true_eq]; simp; omega
    refine st_cond _ rfl (fun hc => ?_) (fun hc => ?_)
    · rw [e1] at hc
      rw [hc, cond_true]
      refine runC ?_
      refine finAA (cs2 := #[.int .i64 0, .int .i64 0, .bool false, .bool false, .bool false, .bool false, .bool false, .int .i64 0, .int .i64 0]) ⟨_, _, rfl, Own.nil _ _, trivial⟩
    rw [e1] at hc
    rw [hc, cond_false]
    simp only [Bool.or_eq_false_iff, Bool.not_eq_false', decide_eq_true_eq] at hc
    refine run ?_
    have hlv3 : W.fs.length - 1 = 3 := by omega
    rw [hlv3] at hnth
    have hf0 : hasF ws.length (W.fs.getD 3 0) = true := hfine.has _ (by rw [List.getD_eq_getElem?_getD, List.getElem?_eq_getElem (by omega)]; simp)
    have hn8 := (hasF_iff hf0).2.1
    have hp3 : W.place page = atN (W.fs.getD 3 0) 3 page := by unfold WkD.place; rw [hlv, hlv3]
    rw [hp3]
    refine drawC 11 9 [0, 1, 2, 3, 4, 5, 6, 8] [7, 9, 10] [⟨E, #[.int .i64 W.d.kind, .int .i64 W.d.frame, .bool W.d.r, .bool W.d.w, .bool W.d.x, .bool W.d.af, .bool W.d.ng, .int .i64 W.d.soft, .int .i64 W.d.note], 124⟩, ⟨B, #[.slice q ws.length cap], 24⟩, ⟨g, cur, 3⟩] ?_
    refine runZ ?_
    refine cCall (fun wc hG => rPutw_e ws (h.good hG) (W.fs.getD 3 0) 3 (by omega) hf0 page hp (noteD note) (noteD_may h0 h15) (by omega)) ?_
    rintro u hn4 ⟨v4, h4, rfl, hO4, hle4'⟩
    obtain ⟨g4, cap4, cur4, rfl, rfl, hr4⟩ := hO4.row (n := ws.length) (by rw [List.length_map, putL_len]) (by omega)
    refine cStore (b := C) (tb := 24) (cs := #[.slice none 0 0]) (cs' := #[.slice (some ⟨g4, 0, none⟩) ws.length cap4]) (hp' := hn4 ++ [⟨E, #[.int .i64 W.d.kind, .int .i64 W.d.frame, .bool W.d.r, .bool W.d.w, .bool W.d.x, .bool W.d.af, .bool W.d.ng, .int .i64 W.d.soft, .int .i64 W.d.note], 124⟩, ⟨D, #[.int .i64 0, .int .i64 0, .bool false, .bool false, .bool false, .bool false, .bool false, .int .i64 0, .int .i64 0], 124⟩, ⟨B, #[.slice q ws.length cap], 24⟩, ⟨g, cur, 3⟩]) ?_ clcntP
    refine cStore (b := D) (tb := 124) (cs' := #[.int .i64 W.d.kind, .int .i64 W.d.frame, .bool W.d.r, .bool W.d.w, .bool W.d.x, .bool W.d.af, .bool W.d.ng, .int .i64 W.d.soft, .int .i64 W.d.note]) (cs := #[.int .i64 0, .int .i64 0, .bool false, .bool false, .bool false, .bool false, .bool false, .int .i64 0, .int .i64 0]) (hp' := ⟨C, #[.slice (some ⟨g4, 0, none⟩) ws.length cap4], 24⟩ :: (hn4 ++ [⟨E, #[.int .i64 W.d.kind, .int .i64 W.d.frame, .bool W.d.r, .bool W.d.w, .bool W.d.x, .bool W.d.af, .bool W.d.ng, .int .i64 W.d.soft, .int .i64 W.d.note], 124⟩, ⟨B, #[.slice q ws.length cap], 24⟩, ⟨g, cur, 3⟩])) ?_ clcntP (hput := by (first | ((simp only [putAt, Value.cells, List.toList_toArray, List.setIfInBounds_toArray, List.set_cons_zero, List.set_cons_succ, List.drop_succ_cons, List.drop_zero, List.take_succ_cons, List.take_zero, List.cons_append, List.nil_append, List.append_nil]) <;> rfl) | rfl))
    refine dc_nil ?_
    refine opsC ?_
    refine run ?_
    refine finAA ⟨_, [⟨g4, cur4, 47⟩], rfl, hO4, by (exact cnt1 hle4')⟩
end Go.Proofs.YtiaelhhmlbfkmaaGreat
