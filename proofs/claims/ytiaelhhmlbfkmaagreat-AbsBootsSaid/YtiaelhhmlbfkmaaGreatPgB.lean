/- Layers 5 and 16: tables, ways, what is put: the document's. -/
import Derived.Test.YtiaelhhmlbfkmaaGreatDsE
namespace Go.Proofs.YtiaelhhmlbfkmaaGreat
open Go.RowKit
set_option linter.unusedVariables false
set_option linter.unusedSimpArgs false
set_option maxRecDepth 20000
/-- All are words. -/
def W64 (ws : List Nat) : Prop := ∀ x ∈ ws, x < 18446744073709551616
theorem W64.at {ws : List Nat} (h : W64 ws) (p : Nat) : ws.getD p 0 < 18446744073709551616 := by
  rw [List.getD_eq_getElem?_getD]
  cases hp : ws[p]? with
  | none => simp
  | some x => exact h x (List.mem_of_getElem? hp)
theorem W64.set {ws : List Nat} (h : W64 ws) {x : Nat} (hx : x < 18446744073709551616) (p : Nat) : W64 (ws.set p x) := by
  intro y hy
  rcases List.mem_or_eq_of_mem_set hy with hy | rfl
  · exact h y hy
  · exact hx
theorem W64.putL {ws : List Nat} (h : W64 ws) (p level : Nat) (d : DsD) : W64 (putL ws p level d) := h.set (DsD.word_lt _ _ _) p
theorem W64.zeroK {ws : List Nat} (h : W64 ws) (o k : Nat) : W64 (zeroK ws o k) := by
  induction k with
  | zero => exact h
  | succ k ih => exact ih.set (by decide) _
theorem W64.zeroF {ws : List Nat} (h : W64 ws) (f : Int) : W64 (zeroF ws f) := h.zeroK _ _
theorem W64.linkL {page : Nat} : ∀ (l : List Int) (p level : Nat) {ws : List Nat}, W64 ws → W64 (linkL page l p level ws).2 := by
  intro l
  induction l with
  | nil => intro p level ws h; exact h
  | cons f r ih => intro p level ws h; exact ih _ _ ((h.zeroF f).putL _ _ _)
theorem W64.eightL {ws : List Nat} (h : W64 ws) (o level : Nat) (d : DsD) (k : Nat) : W64 (eightL ws o level d k) := by
  induction k with
  | zero => exact h
  | succ k ih => exact ih.putL _ _ _
attribute [local irreducible] Hy St Ops DH DHF
section
variable {P : Program} {T : Tab} {n : Nat} {w0 : World} {mu : List Nat} {l : Fm} {hp : Hp} {dd : Option Nat} {ty : TypeId} {pos : String} {af : Array Edge} {gg : Option (Nat × Bool)} {t u : TypeId} {x y : Operand}
/-- Sums, products of natural numbers. -/
theorem x_addN {pi qi : Int} (hx : ev l x = some (.int .i64 pi)) (hy : ev l y = some (.int .i64 qi)) (p q r : Nat) (hpi : pi = (p : Int)) (hqi : qi = (q : Int)) (hr : p + q = r) (hb : r < 9223372036854775808) : Hy P n w0 mu l hp ⟨dd, .binOp .add t x y u, ty, pos, af, gg⟩ (.int .i64 (r : Int)) := by
  subst hpi hqi hr
  have := hy_addI (o := ⟨dd, .binOp .add t x y u, ty, pos, af, gg⟩) (P := P) (n := n) (w0 := w0) (mu := mu) (hp := hp) rfl hx hy (by omega) (by omega)
  rwa [← Int.natCast_add] at this
theorem x_mulN {pi qi : Int} (hx : ev l x = some (.int .i64 pi)) (hy : ev l y = some (.int .i64 qi)) (p q r : Nat) (hpi : pi = (p : Int)) (hqi : qi = (q : Int)) (hr : p * q = r) (hb : r < 9223372036854775808) : Hy P n w0 mu l hp ⟨dd, .binOp .mul t x y u, ty, pos, af, gg⟩ (.int .i64 (r : Int)) := by
  subst hpi hqi hr
  have e : (p : Int) * (q : Int) = ((p * q : Nat) : Int) := by simp
  have := hy_mulI (o := ⟨dd, .binOp .mul t x y u, ty, pos, af, gg⟩) (P := P) (n := n) (w0 := w0) (mu := mu) (hp := hp) rfl hx hy (by rw [e]; omega) (by rw [e]; omega)
  rwa [e] at this
end
theorem rThere_e (n cap : Nat) (q : Option Addr) (hn : n < 1000000) (f : Int) (w : World) : Fn Tryz.prog 99 [.agg #[.slice q n cap], .int .i64 f].toArray w [] (fun u _ => u = .bool (hasF n f)) := by
  refine enter Tryz.func99 ?_
  refine run ?_
  intro B
  refine run ?_
  refine callE (fun wc hG => rFrames_e n cap (by omega) q wc) ?_
  refine run ?_
  refine callE (fun wc hG => num_e f _ wc) ?_
  refine run ?_
  refine fin1 ?_
  unfold hasF
  congr 2
  rw [Bool.eq_iff_iff, decide_eq_true_eq, decide_eq_true_eq]; omega
theorem rTable_e (ws : List Nat) (hw : W64 ws) {w : World} {v : Value} (h : SlAt w v 1 (ws.map uV)) (stage : Int) (hs : stage = 1 ∨ stage = 2) (level : Nat) (hl : level < 4) (f : Int) (hf : hasF ws.length f = true) (page : Nat) (hp : page ≤ 4095) (hn : ws.length < 1000000) : Fn Tryz.prog 147 [.agg #[v], .int .i64 stage, .int .i64 (level : Int), .int .i64 f, .int .i64 (page : Int)].toArray w [] (fun u _ => u = dsV (ofL stage level (ws.getD (atN f level page) 0))) := by
  obtain ⟨q, cap, rfl, hne, hle⟩ := h.opened
  have hfi := hasF_iff hf
  have hpl := atN_lt (level := level) (page := page) hf
  have hi8 := indexN_lt level page
  have hne0 : ws ≠ [] := by intro e; subst e; simp at hpl
  obtain ⟨b, o, rfl⟩ := hne hne0
  have hr := rangeAt_cell0 (h.row hpl)
  simp only [uV, Nat.mul_one] at hr
  refine enter Tryz.func147 ?_
  refine run ?_
  intro B C
  refine run ?_
  refine drawN 13 ?_
  refine runD ?_
  refine callD (fun wc hG => rIndex_e level hl page hp wc) ?_
  refine opD (x_addN rfl rfl (f.toNat * 8) (indexN level page) (atN f level page) (by omega) rfl rfl (by omega)) ?_
  refine runD ?_
  refine callD (fun wc hG => rOf_e stage hs level hl _ (hw.at _) wc) ?_
  refine runD ?_
  refine run ?_
  exact finA rfl
theorem rTable2_e (ws : List Nat) (hw : W64 ws) {w : World} {v : Value} (h : SlAt w v 1 (ws.map uV)) (level : Nat) (hl : level < 4) (f : Int) (hf : hasF ws.length f = true) (page : Nat) (hp : page ≤ 4095) (hn : ws.length < 1000000) : Fn Tryz.prog 147 [.agg #[v], .int .i64 2, .int .i64 (level : Int), .int .i64 f, .int .i64 (page : Int)].toArray w [] (fun u _ => u = dsV (dAt ws (atN f level page) level)) := rTable_e ws hw h 2 (.inr rfl) level hl f hf page hp hn
/-- Four results, the second a struct. -/
theorem fin4 {fn : Func} {R : Value → Hp → Prop} {l : Fm} {hp : Hp} {a t b s0 s1 s2 : Nat} {cs : Array Value} {tb : TypeId} {v v1 v2 : Value} (h : R (.tuple #[v, .agg cs, v1, v2]) hp) (hr : fn.results = #[.tmp s0, .cell a t, .tmp s1, .tmp s2] := by rfl) (h0 : look l s0 = some v := by rfl) (hv : look l a = some (.pointer (some ⟨b, 0, none⟩)) := by rfl) (h1 : look l s1 = some v1 := by rfl) (h2 : look l s2 = some v2 := by rfl) (hag : mem Tb.ag t = true := by rfl) (hm : (⟨b, cs, tb⟩ : Blk) ∈ hp := by (first | (with_reducible apply mh) | (focus ((repeat (first | (with_reducible apply mh) | (with_reducible apply mt) | (with_reducible apply List.mem_append_right))); done)))) (hz : lk Tb.sz t = some cs.size := by rfl) : Fin Tryz.prog fn R .ret l hp :=
  ⟨.inl rfl, [v, .agg cs, v1, v2], by rw [hr]; exact ⟨h0, ⟨⟨b, cs, tb⟩, hm, hv, .inr ⟨tb_ok.gag hag, tb_ok.gsz hz, rfl⟩⟩, h1, h2, trivial⟩, h⟩
theorem rWay_e (ws : List Nat) (hw : W64 ws) {w : World} {v : Value} (h : SlAt w v 1 (ws.map uV)) (root : Int) (page : Nat) (hp : page ≤ 4095) (hn : ws.length < 1000000) : Fn Tryz.prog 137 [.agg #[v], .int .i64 root, .int .i64 (page : Int)].toArray w [] (fun u hn => ∃ v2 h2, u = .tuple #[v2, dsV (bif (wayL ws root page 3).ok then (wayL ws root page 3).d else noDs), .int .i64 (bif (wayL ws root page 3).ok then ((wayL ws root page 3).lv : Int) else ((wayL ws root page 3).fs.length : Int)), .bool (wayL ws root page 3).ok] ∧ Own 3 1 v2 h2 ((wayL ws root page 3).fs.map inV) ∧ HpLe h2 hn) := by
  obtain ⟨q, cap, rfl, hne, hle⟩ := h.opened
  refine enter Tryz.func137 ?_
  refine run ?_
  intro B C
  refine run ?_
  refine loopS (σ := Nat × Int × List Int × DsD × Value × Hp) (fun s => [(10, s.2.2.2.2.1), (11, .int .i64 s.2.1), (12, .int .i64 (s.1 : Int))]) (fun s => ⟨C, dsC noDs, 124⟩ :: ⟨B, #[.slice q ws.length cap], 24⟩ :: s.2.2.2.2.2) (fun s => s.1 < 4 ∧ s.2.2.1.length = s.1 ∧ walkL ws page 3 (4 - s.1) s.1 s.2.1 s.2.2.1 s.2.2.2.1 = wayL ws root page 3 ∧ Acc 3 1 s.2.2.2.2.1 s.2.2.2.2.2 (s.2.2.1.map inV)) (fun s => 4 - s.1) (0, root, [], noDs, _, []) ⟨(by decide : 0 < 4), rfl, rfl, Acc.nil _ _⟩ ?_
  rintro ⟨level, f, fs, d, v2, ha⟩ m hm ⟨hl, hfs, hwk, hA⟩
  dsimp only at hm hl hfs hwk hA ⊢
  refine run ?_
  refine callE (fun wc hG => rThere_e ws.length cap q hn f wc) ?_
  refine run ?_
  have h4 : 4 - level = (3 - level) + 1 := by omega
  rw [h4, walkL] at hwk
  refine st_cond _ rfl (fun hc => ?_) (fun hc => ?_)
  · have hh : hasF ws.length f = false := by simpa using hc
    rw [hh, cond_false] at hwk
    rw [← hwk]
    refine run ?_
    refine fin4 ?_
    refine ⟨_, ha, ?_, hA.own, by (exact clcntL)⟩
    simp only [cond_false, hfs]
    rfl
  · have hh : hasF ws.length f = true := by simpa using hc
    rw [hh, cond_true] at hwk
    refine run ?_
    intro T
    refine appendA (c := inV f) (hp' := [⟨T, #[.int .i64 f], 3⟩, ⟨C, dsC noDs, 124⟩, ⟨B, #[.slice q ws.length cap], 24⟩]) hA (fun v' ha' hA' => ?_) (by simp; omega) (news_own (m := 1) mh rfl) (hperm := by (exact clcntP))
    refine ops_le (⟨C, dsC noDs, 124⟩ :: ⟨B, #[.slice q ws.length cap], 24⟩ :: ha') clcntL ?_
    refine run ?_
    refine callE (fun wc hG => rTable2_e ws hw (h.good hG) level hl f hh page hp hn) ?_
    generalize hd' : dAt ws (atN f level page) level = d' at hwk
    have htab : d'.kind = 1 → level < 3 := fun e => dAt_tab (by rw [hd']; exact e)
    refine run ?_
    intro D
    refine st_cond _ rfl (fun hc2 => ?_) (fun hc2 => ?_)
    · have hk : (!decide (d'.kind = 1)) = true := hc2
      rw [hk, Bool.true_or, cond_true] at hwk
      rw [← hwk]
      obtain ⟨q3, cap3, rfl⟩ := hA'.own.opened
      refine run ?_
      refine late 4 2 ?_
      refine lateQA 3 1 ?_
      refine lateQA 3 2 ?_
      refine drawMA 3 [0, 1, 2] [] [] ?_
      refine runS ?_
      refine eNil ?_
      simp only [DN]
      refine dNil ?_
      refine opsF ?_
      simp only [List.cons_append, List.nil_append, List.append_nil]
      refine run ?_
      refine fin4 ?_
      refine ⟨_, ha', ?_, by simpa using hA'.own, by (exact clcntL)⟩
      simp only [cond_true, WkD.lv, List.length_append, List.length_map, hfs, List.length_singleton, List.length_cons, List.length_nil, Nat.zero_add, Nat.add_sub_cancel]
    · have hk : decide (d'.kind = 1) = true := by simpa using hc2
      have h3 := htab (of_decide_eq_true hk)
      rw [hk, show decide (level = 3) = false from decide_eq_false (by omega)] at hwk
      simp only [Bool.not_true, Bool.or_false, cond_false] at hwk
      refine run ?_
      refine nextS (level + 1, d'.frame, fs ++ [f], d', v', ha') ⟨by dsimp only; omega, by simp [hfs], ?_, by simpa using hA'⟩
      rw [← hwk]
      show walkL ws page 3 (4 - (level + 1)) _ _ _ _ = _
      rw [show 4 - (level + 1) = 3 - level by omega]
/-- A memory's words changed in their place. -/
theorem Own.setU {e : Nat} {v : Value} {h : Hp} {xs : List Nat} (hA : Own e 1 v h (xs.map uV)) {k : Nat} (hk : k < xs.length) : ∃ g cap cur, v = .slice (some ⟨g, 0, none⟩) xs.length cap ∧ h = [⟨g, cur, e⟩] ∧ k + 1 ≤ cur.size ∧
    ∀ z : Nat, Own e 1 (.slice (some ⟨g, 0, none⟩) xs.length cap) [⟨g, cur.setIfInBounds k (.int .u64 (z : Int)), e⟩] ((xs.set k z).map uV) := by
  obtain ⟨g, cap, cur, rfl, rfl, hr⟩ := hA.row (n := xs.length) (by simp) (by omega)
  have hall0 : ∀ (ys : List Nat), ∀ c ∈ ys.map uV, c.length = 1 ∧ c.all (·.oneCell') = true := by
    intro ys c hc
    obtain ⟨x, _, rfl⟩ := List.mem_map.1 hc
    exact ⟨rfl, rfl⟩
  have hall : ∀ c ∈ xs.map uV, c.length = 1 := fun c hc => (hall0 xs c hc).1
  have hi : (xs.map uV)[k]? = some (uV (xs.getD k 0)) := by
    rw [List.getElem?_map, List.getD_eq_getElem?_getD, List.getElem?_eq_getElem hk]; rfl
  have hsz := hr.size
  have hle := hr.le
  refine ⟨g, cap, cur, rfl, rfl, by omega, fun z => ⟨hall0 _, .inr ⟨g, cap, _, by simp, rfl, ?_⟩⟩⟩
  have h2 := hr.put hall hi (k := 0) (vs := [.int .u64 (z : Int)]) (by simp)
  have e1 : (uV (xs.getD k 0)).take 0 ++ [Value.int .u64 (z : Int)] ++ (uV (xs.getD k 0)).drop (0 + [Value.int .u64 (z : Int)].length) = uV z := rfl
  rw [e1, Nat.mul_one, Nat.add_zero] at h2
  have e2 : ((xs.set k z).map uV).length = xs.length := by simp
  rw [e2, List.map_set]
  exact h2
theorem Own.setG {e g n cap : Nat} {cur : Array Value} {xs : List Nat} (hA : Own e 1 (.slice (some ⟨g, 0, none⟩) n cap) [⟨g, cur, e⟩] (xs.map uV)) {k : Nat} (hk : k < xs.length) : k + 1 ≤ cur.size ∧ k < n ∧ n = xs.length ∧
    ∀ z : Nat, Own e 1 (.slice (some ⟨g, 0, none⟩) n cap) [⟨g, cur.setIfInBounds k (.int .u64 (z : Int)), e⟩] ((xs.set k z).map uV) := by
  obtain ⟨g', cap', cur', e1, e2, h1, h2⟩ := hA.setU hk
  injection e1 with e1 e3 e4
  injection e1 with e1
  injection e1 with e1
  injection e2 with e2
  injection e2 with _ e2
  subst e1 e3 e4 e2
  exact ⟨h1, hk, rfl, h2⟩
theorem ops_sub {n : Nat} {w0 : World} {mu : List Nat} {l : Fm} {Q : Exit → Fm → Hp → Prop} {all : Array Oper} {ops : List Oper} {h1 hn rest : Hp} (hle : HpLe h1 hn) (h : Ops Tryz.prog n w0 mu all ops l (h1 ++ rest) Q) : Ops Tryz.prog n w0 mu all ops l (hn ++ rest) Q := ops_le _ (cnt1 hle) h
/-- Three results, the first a struct. -/
theorem finA3 {fn : Func} {R : Value → Hp → Prop} {l : Fm} {hp : Hp} {a t b s1 s2 : Nat} {cs : Array Value} {tb : TypeId} {v1 v2 : Value} (h : R (.tuple #[.agg cs, v1, v2]) hp) (hr : fn.results = #[.cell a t, .tmp s1, .tmp s2] := by rfl) (hv : look l a = some (.pointer (some ⟨b, 0, none⟩)) := by rfl) (h1 : look l s1 = some v1 := by rfl) (h2 : look l s2 = some v2 := by rfl) (hag : mem Tb.ag t = true := by rfl) (hm : (⟨b, cs, tb⟩ : Blk) ∈ hp := by (first | (with_reducible apply mh) | (focus ((repeat (first | (with_reducible apply mh) | (with_reducible apply mt) | (with_reducible apply List.mem_append_right))); done)))) (hz : lk Tb.sz t = some cs.size := by rfl) : Fin Tryz.prog fn R .ret l hp :=
  ⟨.inl rfl, [.agg cs, v1, v2], by rw [hr]; exact ⟨⟨⟨b, cs, tb⟩, hm, hv, .inr ⟨tb_ok.gag hag, tb_ok.gsz hz, rfl⟩⟩, h1, h2, trivial⟩, h⟩
theorem rGetw_e (ws : List Nat) (hw : W64 ws) {w : World} {v : Value} (h : SlAt w v 1 (ws.map uV)) (root : Int) (page : Nat) (hp : page ≤ 4095) (hn : ws.length < 1000000) : Fn Tryz.prog 60 [.agg #[v], .int .i64 root, .int .i64 (page : Int)].toArray w [] (fun u hn => u = .tuple #[dsV (getL ws root page).d, .int .i64 ((getL ws root page).level : Int), .int .i64 (getL ws root page).e]) := by
  obtain ⟨q, cap, rfl, hne, hle⟩ := h.opened
  refine enter Tryz.func60 ?_
  refine run ?_
  intro B C
  refine run ?_
  refine callB (fun wc hG => rWay_e ws hw (h.good hG) root page hp hn) ?_
  rintro u hn2 ⟨v2, h2, rfl, hO, hle2⟩
  refine ops_perm (_ ++ hn2) List.perm_append_comm ?_
  simp only [List.cons_append, List.nil_append]
  refine run ?_
  intro D
  cases hk : (wayL ws root page 3).ok with
  | false =>
    have hg : getL ws root page = ⟨noDs, 0, 2⟩ := by simp [getL, hk]
    rw [hg]
    refine runC ?_
    refine finA3 ?_
    rfl
  | true =>
    have hg : getL ws root page = ⟨(wayL ws root page 3).d, (wayL ws root page 3).lv, 0⟩ := by simp [getL, hk]
    rw [hg]
    simp only [cond_true]
    refine runC ?_
    refine finA3 ?_
    rfl
theorem rPutw_e (ws : List Nat) {w : World} {v : Value} (h : SlAt w v 1 (ws.map uV)) (f : Int) (level : Nat) (hl : level < 4) (hf : hasF ws.length f = true) (page : Nat) (hp : page ≤ 4095) (d : DsD) (hm : d.may 2 level = true) (hn : ws.length < 1000000) : Fn Tryz.prog 144 [.agg #[v], .int .i64 f, .int .i64 (level : Int), .int .i64 (page : Int), dsV d].toArray w [] (fun u hn => MemR (putL ws (atN f level page) level d) u hn) := by
  have hfi := hasF_iff hf
  have hpl := atN_lt (level := level) (page := page) hf
  obtain ⟨q, cap, rfl, hne, hle⟩ := h.opened
  refine enter Tryz.func144 ?_
  refine run ?_
  intro B C D
  refine run ?_
  refine callB (fun wc hG => copyMem_e ws _ (h.good hG) hn) ?_
  rintro u hn2 ⟨v2, h2, rfl, hO, hle2⟩
  obtain ⟨g, cap2, cur, rfl, rfl, hsz, hset⟩ := hO.setU hpl
  refine ops_sub hle2 ?_
  simp only [List.cons_append, List.nil_append]
  refine run ?_
  intro E
  refine run ?_
  refine drawN 11 ?_
  refine runD ?_
  refine callD (fun wc hG => rIndex_e level hl page hp wc) ?_
  refine opD (x_addN rfl rfl (f.toNat * 8) (indexN level page) (atN f level page) (by omega) rfl rfl (by omega)) ?_
  refine runD ?_
  refine callD (fun wc hG => rWord_e 2 (.inr rfl) level hl d hm wc) ?_
  refine runD ?_
  refine run ?_
  refine finA ⟨_, _, rfl, hset _, ?_⟩
  (exact clcntL)
theorem idx_least {α : Type} [Inhabited α] (p : α → Bool) (l : List α) : ∀ j, p (l.getD j default) = true → ∃ j0, j0 ≤ j ∧ p (l.getD j0 default) = true ∧ ∀ i, i < j0 → p (l.getD i default) = false := by
  intro j
  induction j using Nat.strongRecOn with
  | ind j ih =>
    intro h
    by_cases hx : ∃ i, i < j ∧ p (l.getD i default) = true
    · obtain ⟨i, hi, hp⟩ := hx
      obtain ⟨j0, h0, h1, h2⟩ := ih i hi hp
      exact ⟨j0, by omega, h1, h2⟩
    · refine ⟨j, Nat.le_refl _, h, fun i hi => ?_⟩
      cases hp : p (l.getD i default) with
      | false => rfl
      | true => exact absurd ⟨i, hi, hp⟩ hx
theorem idxI_first (l : List Int) (k : Nat) (hk : k < l.length) : decide (idxI (fun t => decide (t = l.getD k default)) l = (k : Int)) = !(l.take k).any (fun t => decide (t = l.getD k 0)) := by
  cases h : (l.take k).any (fun t => decide (t = l.getD k 0)) with
  | false =>
    rw [idxI_at hk (by simp) fun j hj => ?_]
    · simp
    · have h2 := List.any_eq_false.1 h (l.getD j 0) (by
        rw [List.getD_eq_getElem?_getD, List.getElem?_eq_getElem (by omega)]
        exact List.mem_take_iff_getElem.2 ⟨j, by omega, rfl⟩)
      simpa using h2
  | true =>
    obtain ⟨x, hx, hxe⟩ := List.any_eq_true.1 h
    obtain ⟨j, hj, rfl⟩ := List.mem_take_iff_getElem.1 hx
    have hj1 : j < l.length := by omega
    have hje : decide (l.getD j default = l.getD k default) = true := by
      rw [List.getD_eq_getElem?_getD, List.getElem?_eq_getElem hj1]; exact hxe
    obtain ⟨j0, h0, h1, h2⟩ := idx_least (fun t => decide (t = l.getD k default)) l j hje
    rw [idxI_at (k := j0) (by omega) h1 h2]
    simp; omega
theorem rFree_e (n cap : Nat) (q : Option Addr) (hn : n < 1000000) (fs l : List Int) {w : World} {v1 v2 : Value} (h1 : SlAt w v1 1 (l.map inV)) (h2 : SlAt w v2 1 (fs.map inV)) : Fn Tryz.prog 143 [.agg #[.slice q n cap], v1, v2].toArray w [] (fun u _ => u = .bool (freeL n fs l)) := by
  obtain ⟨q1, cap1, rfl, hne1, hle1⟩ := h1.opened
  obtain ⟨q2, cap2, rfl, hne2, hle2⟩ := h2.opened
  refine enter Tryz.func143 ?_
  refine run ?_
  intro B
  refine run ?_
  refine loopS (σ := Nat) (fun k => [(7, .int .i64 (k : Int))]) (fun _ => [⟨B, #[.slice q n cap], 24⟩]) (fun k => k ≤ l.length ∧ ∀ j, j < k → freeAt n fs l j = true) (fun k => l.length - k) 0 ⟨Nat.zero_le _, fun j hj => absurd hj (by omega)⟩ ?_
  rintro k m rfl ⟨hk, hyes⟩
  refine run ?_
  refine st_cond _ rfl (fun hc => ?_) (fun hc => ?_)
  · have hlt : k < l.length := by simp at hc; omega
    obtain ⟨b, o, rfl⟩ := hne1 (by intro e; subst e; simp at hlt)
    have hr := rangeAt_cell0 (h1.row hlt)
    simp only [Nat.mul_one] at hr
    refine run ?_
    refine drawAll ?_
    refine runDG ?_
    refine callD (fun wc hG => rThere_e n cap q hn _ wc) ?_
    refine runDG ?_
    refine callDG (fun hg wc hG => in_e _ l _ (h1.good hG)) ?_
    refine runDG ?_
    refine callDG (fun hg wc hG => in_e _ fs _ (h2.good hG)) ?_
    refine runDG ?_
    refine run ?_
    have e1 := idxI_first l k hlt
    have e2 : (0 ≤ idxI (fun t => decide (t = l.getD k default)) fs) ↔ fs.any (fun t => decide (t = l.getD k 0)) = true := by
      rw [← idxI_ge]; simp
    refine st_cond _ rfl (fun hc2 => ?_) (fun hc2 => ?_)
    · refine run ?_
      refine fin1 ?_
      rw [freeL_false hlt]
      rw [e1] at hc2
      have : freeAt n fs l k = false := by
        unfold freeAt
        cases hh : fs.any (fun t => decide (t = l.getD k 0)) with
        | true => simp
        | false =>
          have : decide (0 ≤ idxI (fun t => decide (t = l.getD k default)) fs) = false := by
            rw [decide_eq_false_iff_not, e2, hh]; simp
          rw [this] at hc2
          have h3 : hasF n (l[k]?.getD 0) = false ∨ l[k]?.getD 0 ∈ List.take k l := by simpa using hc2
          simp
          intro h
          rcases h3 with h4 | h4
          · rw [h4] at h; cases h
          · exact h4
      exact this
    · refine run ?_
      refine nextS (k + 1) ⟨hlt, fun j hj => ?_⟩
      rcases Nat.lt_succ_iff_lt_or_eq.1 hj with hj | rfl
      · exact hyes j hj
      · rw [e1] at hc2
        unfold freeAt
        cases hh : fs.any (fun t => decide (t = l.getD j 0)) with
        | true =>
          have : decide (0 ≤ idxI (fun t => decide (t = l.getD j default)) fs) = true := by
            rw [decide_eq_true_eq, e2, hh]
          rw [this] at hc2
          simp at hc2
        | false =>
          have : decide (0 ≤ idxI (fun t => decide (t = l.getD j default)) fs) = false := by
            rw [decide_eq_false_iff_not, e2, hh]; simp
          rw [this] at hc2
          simpa using hc2
  · refine run ?_
    refine fin1 ?_
    have : k = l.length := by simp at hc; omega
    subst this
    rw [freeL_true hyes]
theorem rZero_e (ws : List Nat) {w : World} {v v1 : Value} (h : SlAt w v 1 (ws.map uV)) (f : Int) (hf : hasF ws.length f = true) (hv1 : SlAt w v1 1 ([f].map inV)) (hn : ws.length < 1000000) : Fn Tryz.prog 145 [.agg #[v], v1].toArray w [] (fun u hn => MemR (zeroF ws f) u hn) := by
  have hfi := hasF_iff hf
  obtain ⟨q, cap, rfl, hne, hle⟩ := h.opened
  obtain ⟨q1, cap1, rfl, hne1, hle1⟩ := hv1.opened
  refine enter Tryz.func145 ?_
  refine run ?_
  intro B C
  refine run ?_
  refine callB (fun wc hG => copyMem_e ws _ (h.good hG) hn) ?_
  rintro u hn2 ⟨v2, h2, rfl, hO, hle2⟩
  refine ops_sub hle2 ?_
  obtain ⟨g, cap3, cur, rfl, rfl, _⟩ := hO.row (n := ws.length) (by simp) (by omega)
  simp only [List.cons_append, List.nil_append]
  refine run ?_
  intro D
  refine run ?_
  refine loopS (σ := Nat × List Nat × Array Value) (fun s => [(6, .int .i64 (s.1 : Int))]) (fun s => [⟨g, s.2.2, 47⟩, ⟨D, #[.slice (some ⟨g, 0, none⟩) ws.length cap3], 24⟩, ⟨C, #[.slice none 0 0], 24⟩, ⟨B, #[.slice q ws.length cap], 24⟩]) (fun s => (s.1 = 0 ∧ s.2.1 = ws ∨ s.1 = 1 ∧ s.2.1 = zeroF ws f) ∧ Own 47 1 (.slice (some ⟨g, 0, none⟩) ws.length cap3) [⟨g, s.2.2, 47⟩] (s.2.1.map uV)) (fun s => 1 - s.1) (0, ws, cur) ⟨.inl ⟨rfl, rfl⟩, hO⟩ ?_
  rintro ⟨i, us, cu⟩ m hm ⟨hi, hU⟩
  dsimp only at hm hi hU ⊢
  refine run ?_
  refine st_cond _ rfl (fun hc => ?_) (fun hc => ?_)
  · have hi0 : i = 0 := by
      rcases hi with h | h
      · exact h.1
      · rw [h.1] at hc; simp at hc
    subst hi0
    obtain rfl : us = ws := by
      rcases hi with h | h
      · exact h.2
      · exact absurd h.1 (by decide)
    obtain ⟨b1, o1, rfl⟩ := hne1 (by simp)
    have hl1 : ([f] : List Int).length = 1 := rfl
    have hr := rangeAt_cell0 (hv1.row (k := 0) (by simp))
    simp only [Nat.zero_mul, Nat.add_zero, show ([f] : List Int).getD 0 default = f from rfl] at hr
    refine run ?_
    refine loopS (σ := Nat × Array Value) (fun s => [(7, .int .i64 (s.1 : Int))]) (fun s => [⟨g, s.2, 47⟩, ⟨D, #[.slice (some ⟨g, 0, none⟩) us.length cap3], 24⟩, ⟨C, #[.slice none 0 0], 24⟩, ⟨B, #[.slice q us.length cap], 24⟩]) (fun s => s.1 ≤ 8 ∧ Own 47 1 (.slice (some ⟨g, 0, none⟩) us.length cap3) [⟨g, s.2, 47⟩] ((zeroK us (f.toNat * 8) s.1).map uV)) (fun s => 8 - s.1) (0, cu) ⟨by dsimp only; omega, hU⟩ ?_
    rintro ⟨k, cv⟩ m2 hm2 ⟨hk, hV⟩
    dsimp only at hm2 hk hV ⊢
    refine run ?_
    refine st_cond _ rfl (fun hc2 => ?_) (fun hc2 => ?_)
    · have hk8 : k < 8 := by simp at hc2; omega
      obtain ⟨hsz, hlt, _, hset⟩ := hV.setG (k := f.toNat * 8 + k) (by rw [zeroK_len]; omega)
      refine run ?_
      refine drawN 9 ?_
      refine runD ?_
      rw [show f * 8 + (k : Int) = ((f.toNat * 8 + k : Nat) : Int) by omega]
      refine run ?_
      refine nextS (k + 1, _) ⟨hk8, hset 0⟩
    · have : k = 8 := by simp at hc2; omega
      subst this
      refine run ?_
      refine nextS (1, zeroF us f, cv) ⟨.inr ⟨rfl, rfl⟩, hV⟩
  · refine run ?_
    have hi1 : us = zeroF ws f := by
      rcases hi with h | h
      · rw [h.1] at hc; simp at hc
      · exact h.2
    subst hi1
    refine finA ⟨_, _, rfl, hU, ?_⟩
    (exact clcntL)
end Go.Proofs.YtiaelhhmlbfkmaaGreat
