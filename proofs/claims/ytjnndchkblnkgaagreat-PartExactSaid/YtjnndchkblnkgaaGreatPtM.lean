/- Layer 18 (part): the reference's put and del. -/
import Derived.Test.YtjnndchkblnkgaaGreatPtL
namespace Go.Proofs.YtjnndchkblnkgaaGreat
open Go.RowKit
set_option linter.unusedVariables false
set_option linter.unusedSimpArgs false
set_option maxRecDepth 20000
attribute [local irreducible] Hy St Ops DH DHF
section
variable {P : Program} {T : Tab} {n : Nat} {w0 : World} {mu : List Nat} {l : Fm} {hp : Hp} {dd : Option Tmp} {ty : TypeId} {pos : String} {af : Array Edge} {gg : Option (Nat × Bool)}
/-- A slice's beginning, wherever it lies. -/
theorem x_sliceHV (ok : TabOk P T) {t e sz m cap : Nat} {p : Option Addr} {kh : IntKind} {x hi : Operand} {j : Int} (hx : ev l x = some (.slice p m cap)) (hhi : ev l hi = some (.int kh j)) (ht : lk T.sl t = some (e, sz))
    (h0 : 0 ≤ j) (h2 : j ≤ cap) : Hy P n w0 mu l hp ⟨dd, .slice t x none (some hi) none, ty, pos, af, gg⟩ (sliced p 0 j.toNat cap sz) := by
  obtain ⟨hu, hsz⟩ := ok.gsl ht
  refine hy_run fun a w hk _ => ?_
  have he : P.elem t = e := by simp [Program.elem, hu]
  have hs := run_sizeOf hsz w
  simp only [execOp, Option.map_some, Option.map_none, hk.ev hx, hk.ev hhi]
  simp only [Sem.run_bind]
  rw [run_sliceAt_slice (w := w) t _ _ _ _ (elem_of hu), run_slice_h (w := w) t _ m cap (elem_of hu) kh j h0 h2, he, hs]
  simp
end
section
variable {n : Nat} {w0 : World} {mu : List Nat} {l : Fm} {hp : Hp} {Q : Exit → Fm → Hp → Prop} {all : Array Oper} {rest : List Oper} {ty : TypeId} {pos : String} {af : Array Edge} {ds : List (Nat × Nat)} {tail : List Oper} {i : Nat} {iv fr : Fm}
/-- A guarded operation that is not reached. -/
theorem absDG {op : Op} {d j dj : Nat} {want b : Bool} (hf : wnt b want = false) (h : DHF Tryz.prog n w0 mu all ds tail l hp Q (i + 1) rest ((i, gv (wnt b want) undef) :: iv) ((d, gv (wnt b want) undef) :: fr)) (hj : (all[j]?).bind (·.dst) = some dj := by rfl) (hb : look (depFm ds iv af.toList ++ l) dj = some (.bool b) := by rfl) (hdj : Nat.blt dj n = true := by rfl) (hlk : lk ds i = some d := by rfl) : DHF Tryz.prog n w0 mu all ds tail l hp Q i (⟨some d, op, ty, pos, af, some (j, want)⟩ :: rest) iv fr :=
  dhf1g hlk hj hb hdj (fun hg => hyAbs hg hf) h
end
theorem SlAt.row2 {w : World} {b o cap sz n : Nat} {xs : List (List Value)} (h : SlAt w (.slice (some ⟨b, o, none⟩) n cap) sz xs) {i : Nat} {c : List Value} (hi : xs[i]? = some c) : w.rangeAt b (o + i * sz) c := by
  obtain ⟨⟨p, cp, e, hr⟩, _⟩ := h
  cases e
  obtain ⟨b', o', e', hx⟩ := hr (by intro e; subst e; cases hi)
  cases e'
  exact hx i c hi
theorem acc_some {e sz : Nat} {xs : List (List Value)} (hall : ∀ c ∈ xs, c.length = sz ∧ c.all (·.oneCell') = true) (hle : xs.length ≤ 1000000) : ∃ v hn, Acc e sz v hn xs := by
  rcases Classical.em (xs = []) with rfl | hx
  · exact ⟨_, _, Acc.nil _ _⟩
  · have hl := flatten_len xs (fun c hc => (hall c hc).1)
    exact ⟨_, _, hall, .inr ⟨hx, 0, xs.length, xs.flatten.toArray, rfl, rfl, ⟨hl, Nat.le_refl _, by unfold maxLen; omega, by rw [List.size_toArray]; exact hl, by rw [← hl, List.take_length]⟩⟩⟩
theorem del_e {w : World} (xs : List MpD) (v : Value) (f : Int) (h : SlAt w v 2 (xs.map mpV)) (hl : xs.length < 100000) : Fn Tryz.prog 65 [v, .int .i64 f].toArray w [] (fun u hp => Own 79 2 u hp ((PtD.delM xs f).map mpV)) := by
  obtain ⟨q, cap, rfl, hne, hle⟩ := h.opened
  refine enter Tryz.func65 ?_
  refine run ?_
  refine loopS (σ := Nat × Value × Hp) (fun s => [(5, s.2.1), (6, .int .i64 (s.1 : Int))]) (fun s => s.2.2) (fun s => s.1 ≤ xs.length ∧ Acc 79 2 s.2.1 s.2.2 ((PtD.delM (xs.take s.1) f).map mpV)) (fun s => xs.length - s.1) (0, _, []) ⟨by omega, Acc.nil _ _⟩ ?_
  rintro ⟨k, v, ha⟩ m hm ⟨hk, hA⟩
  dsimp only at hm hk hA ⊢
  have hdl : (PtD.delM (xs.take k) f).length ≤ xs.length := Nat.le_trans (List.length_filter_le _ _) (by rw [List.length_take]; omega)
  refine run ?_
  refine st_cond _ rfl (fun hc => ?_) (fun hc => ?_)
  · have hlt : k < xs.length := by simp at hc; omega
    obtain ⟨b, o, rfl⟩ := hne (by intro e; subst e; simp at hlt)
    have h1 := (h.row hlt)
    have h2 := rangeAt_cell (k := 1) h1 rfl
    simp only [mpV] at h1
    refine run ?_
    refine st_cond _ rfl (fun hp => ?_) (fun hp => ?_)
    · simp only [Bool.not_eq_true'] at hp
      refine run ?_
      intro T
      refine appendA (c := mpV (xs.getD k default)) hA (fun v' ha' hA' => ?_) (by simp; omega) (news_own (m := 2) mh rfl)
      refine run ?_
      refine nextS (k + 1, v', ha') ⟨hlt, ?_⟩
      dsimp only
      rw [PtD.delM_keep hlt hp, List.map_append]
      exact hA'
    · simp only [Bool.not_eq_false'] at hp
      refine run ?_
      refine nextS (k + 1, v, ha) ⟨hlt, ?_⟩
      dsimp only
      rw [PtD.delM_skip hlt hp]
      exact hA
  · have : k = xs.length := by simp at hc; omega
    subst this
    refine run ?_
    refine fin1 ?_
    rw [List.take_length] at hA
    exact hA.own
theorem sl_take {w : World} {q : Option Addr} {cap : Nat} {xs : List MpD} (h : SlAt w (.slice q xs.length cap) 2 (xs.map mpV)) (k : Nat) (hk : k ≤ xs.length) : SlAt w (sliced q 0 ((k : Int)).toNat cap 2) 2 ((xs.take k).map mpV) := by
  obtain ⟨⟨p, c, e, hr⟩, hle⟩ := h
  rw [List.length_map] at e
  cases e
  have hlen : ((xs.take k).map mpV).length = k := by rw [List.length_map, List.length_take]; omega
  have hmx : xs.length ≤ 281474976710656 := by simpa using hle
  refine ⟨?_, by rw [hlen]; omega⟩
  rcases Nat.eq_zero_or_pos k with rfl | hp
  · exact ⟨_, _, by rw [hlen]; rfl, fun hne => absurd (by simp) hne⟩
  · obtain ⟨b, off, rfl, hx⟩ := hr (by intro e; rw [List.map_eq_nil_iff] at e; subst e; simp at hk; omega)
    refine ⟨some ⟨b, off, none⟩, cap, ?_, fun _ => ⟨b, off, rfl, fun i c hc => ?_⟩⟩
    · rw [hlen]
      simp [sliced, slice_add]
    · refine hx i c ?_
      rw [List.getElem?_map] at hc ⊢
      rw [List.getElem?_take] at hc
      split at hc
      · exact hc
      · cases hc
theorem put_e {w : World} (xs : List MpD) (q : Option Addr) (cap : Nat) (x : MpD) (h : SlAt w (.slice q xs.length cap) 2 (xs.map mpV)) (hcap : xs.length ≤ cap) (hl : xs.length < 100000) : Fn Tryz.prog 64 [.slice q xs.length cap, .agg #[.int .i64 x.mid, .int .i64 x.frm]].toArray w [] (fun u hp => Own 79 2 u hp ((PtD.insM xs x.mid x.frm).map mpV)) := by
  have hne : xs ≠ [] → ∃ b o, q = some ⟨b, o, none⟩ := by
    obtain ⟨q', cap', e, hne, _⟩ := h.opened
    cases e
    exact hne
  have hlb := PtD.lowb_le xs x.mid
  refine enter Tryz.func64 ?_
  refine run ?_
  intro B
  refine run ?_
  refine loopS (σ := Nat) (fun k => [(5, .int .i64 (k : Int))]) (fun _ => [⟨B, #[.int .i64 x.mid, .int .i64 x.frm], 79⟩]) (fun k => k ≤ PtD.lowb xs x.mid) (fun k => xs.length - k) 0 (Nat.zero_le _) ?_
  rintro k m hm hk
  rcases Nat.lt_or_ge k xs.length with hlt | hge
  · obtain ⟨b, o, rfl⟩ := hne (by intro e; subst e; simp at hlt)
    have h1 := rangeAt_cell0 (h.row hlt)
    refine run ?_
    refine drawAll ?_
    refine runDG ?_
    refine runC ?_
    have e0 : decide ((k : Int) < (xs.length : Int)) = true := by simp; omega
    refine st_cond _ rfl (fun hp => ?_) (fun hp => ?_)
    · rw [e0, Bool.true_and, decide_eq_true_eq] at hp
      refine runC ?_
      refine nextS (k + 1) ?_
      rcases Nat.lt_or_ge k (PtD.lowb xs x.mid) with h3 | h3
      · exact h3
      · have h4 : k = PtD.lowb xs x.mid := by omega
        have := PtD.lowb_at (l := xs) (mid := x.mid) (by omega)
        rw [← h4] at this
        omega
    · rw [e0, Bool.true_and, decide_eq_false_iff_not] at hp
      have hkl : k = PtD.lowb xs x.mid := by
        rcases Nat.lt_or_ge k (PtD.lowb xs x.mid) with h3 | h3
        · exact absurd (PtD.lowb_lt h3) hp
        · omega
      refine runC ?_
      have hkl' : (PtD.lowb xs x.mid) = k := hkl.symm
      have hsl := sl_take h k (by omega)
      have hmx : (xs.take k).length = k := by rw [List.length_take]; omega
      refine drawM 6 [0, 1, 2, 4] [3, 5] [] ?_
      refine runS ?_
      refine de1_s rfl (fun hxS => x_sliceHV tb_ok rfl rfl rfl (by omega) (by omega)) ?_
      refine runS ?_
      refine eCall (fun wc hG => copyMaps_e (xs.take k) _ (hsl.good hG) (by omega)) (acc_some mp_all (by rw [List.length_map]; omega)) ?_
      refine eBSlice ?_
      refine eNil ?_
      rintro _ _ ⟨T, rfl, rfl⟩ v1 h1 hA
      simp only [DN]
      refine dNil ?_
      refine opsF ?_
      simp only [List.cons_append, List.nil_append]
      refine appendA (c := mpV x) (hp' := [⟨T, #[.int .i64 x.mid, .int .i64 x.frm], 79⟩, ⟨B, #[.int .i64 x.mid, .int .i64 x.frm], 79⟩]) hA (fun v' ha' hA' => ?_) (by rw [List.length_map, hmx]; omega) (news_own (m := 2) mh rfl) (hperm := by (refine perm_cnt fun a => ?_; simp only [cntB_app, cntB_cons, cntB_nil]; omega))
      obtain ⟨g1, c1, cur1, rfl, rfl, hr1⟩ := hA'.own.row (n := k + 1) (by simp; omega) (by omega)
      simp only [List.cons_append, List.nil_append]
      refine runC ?_
      have hDl : ((xs.drop k).map mpV).flatten.length = (xs.length - k) * 2 := by rw [flatten_len (sz := 2) _ (fun c hc => (mp_all c hc).1), List.length_map, List.length_drop]
      have hD1 : (((xs.drop k).map mpV).flatten).all (·.oneCell') = true := by
        rw [List.all_flatten, List.all_eq_true]
        exact fun c hc => (mp_all c hc).2
      have hrd : w.rangeAt b (o + k * 2) ((xs.drop k).map mpV).flatten := by
        refine range_flatten (sz := 2) _ _ (fun c hc => (mp_all c hc).1) fun i c hc => ?_
        rw [List.getElem?_map, List.getElem?_drop] at hc
        have := h.row2 (i := k + i) (c := c) (by rw [List.getElem?_map]; exact hc)
        rwa [Nat.add_mul, ← Nat.add_assoc] at this
      refine op1 (by rfl) (x_sliceL tb_ok rfl rfl rfl (by omega) (by omega) (by omega) (o' := o + k * 2) (m' := xs.length - k) (c' := cap - k) (by simp) (by simp) (by simp)) ?_
      refine runC ?_
      refine z_appendO (news := ((xs.drop k).map mpV).flatten) tb_ok (by rfl) rfl rfl rfl rfl rfl rfl (.refl _) hr1 hDl (news_old hrd (by simp)) hD1 (by omega) (by omega) (fun g2 c2 cur2 hr2 => ?_)
      refine ops_le [⟨g2, cur2, 79⟩] (by (refine hpLe_cnt fun a => ?_; simp only [cntB_app, cntB_cons, cntB_nil]; omega)) ?_
      refine runC ?_
      refine fin1 ?_
      have hlen2 : ((PtD.insM xs x.mid x.frm).map mpV).length = k + 1 + (xs.length - k) := by rw [List.length_map, PtD.insM_len]; omega
      refine ⟨mp_all, .inr ⟨g2, c2, cur2, by rw [hlen2], rfl, ?_⟩⟩
      rw [hlen2, PtD.insM, hkl']
      have e : ((xs.take k ++ x :: xs.drop k).map mpV).flatten = ((xs.take k).map mpV ++ [mpV x]).flatten ++ ((xs.drop k).map mpV).flatten := by simp
      rw [e]
      exact hr2
  · have hkl : k = xs.length := by omega
    have hkl2 : PtD.lowb xs x.mid = xs.length := by omega
    refine run ?_
    refine drawAll ?_
    have hf : decide ((k : Int) < (xs.length : Int)) = false := by simp; omega
    refine opD (x_move rfl) ?_
    refine opD (x_move rfl) ?_
    refine opD (x_len tb_ok rfl rfl) ?_
    refine opD (v := .bool false) (by rw [← hf]; exact x_lss rfl rfl) ?_
    refine runDG ?_
    refine runC ?_
    have hkl' : (PtD.lowb xs x.mid) = k := hkl2.trans hkl.symm
    have hsl := sl_take h k (by omega)
    have hmx : (xs.take k).length = k := by rw [List.length_take]; omega
    refine drawM 6 [0, 1, 2, 4] [3, 5] [] ?_
    refine runS ?_
    refine de1_s rfl (fun hxS => x_sliceHV tb_ok rfl rfl rfl (by omega) (by omega)) ?_
    refine runS ?_
    refine eCall (fun wc hG => copyMaps_e (xs.take k) _ (hsl.good hG) (by omega)) (acc_some mp_all (by rw [List.length_map]; omega)) ?_
    refine eBSlice ?_
    refine eNil ?_
    rintro _ _ ⟨T, rfl, rfl⟩ v1 h1 hA
    simp only [DN]
    refine dNil ?_
    refine opsF ?_
    simp only [List.cons_append, List.nil_append]
    refine appendA (c := mpV x) (hp' := [⟨T, #[.int .i64 x.mid, .int .i64 x.frm], 79⟩, ⟨B, #[.int .i64 x.mid, .int .i64 x.frm], 79⟩]) hA (fun v' ha' hA' => ?_) (by rw [List.length_map, hmx]; omega) (news_own (m := 2) mh rfl) (hperm := by (refine perm_cnt fun a => ?_; simp only [cntB_app, cntB_cons, cntB_nil]; omega))
    obtain ⟨g1, c1, cur1, rfl, rfl, hr1⟩ := hA'.own.row (n := k + 1) (by simp; omega) (by omega)
    simp only [List.cons_append, List.nil_append]
    refine runC ?_
    refine op1 (by rfl) (x_sliceLV tb_ok rfl rfl rfl (by omega) (by omega)) ?_
    obtain ⟨p', c', es⟩ : ∃ p' c', sliced q ((k : Int)).toNat xs.length cap 2 = .slice p' 0 c' := ⟨_, _, by rw [sliced, hkl]; simp; exact ⟨rfl, rfl⟩⟩
    rw [es]
    refine runC ?_
    refine op1 (by rfl) (x_append0 tb_ok (by_ := 0) rfl rfl rfl hr1.le) ?_
    refine ops_le [⟨g1, cur1, 79⟩] (by (refine hpLe_cnt fun a => ?_; simp only [cntB_app, cntB_cons, cntB_nil]; omega)) ?_
    refine runC ?_
    refine fin1 ?_
    have hlen2 : ((PtD.insM xs x.mid x.frm).map mpV).length = k + 1 := by rw [List.length_map, PtD.insM_len]; omega
    refine ⟨mp_all, .inr ⟨g1, c1, cur1, by rw [hlen2], rfl, ?_⟩⟩
    rw [hlen2, PtD.insM, hkl', List.drop_eq_nil_of_le (by omega)]
    have e : ((xs.take k ++ [x]).map mpV).flatten = ((xs.take k).map mpV ++ [mpV x]).flatten := by simp
    rw [e]
    exact hr1
end Go.Proofs.YtjnndchkblnkgaaGreat
