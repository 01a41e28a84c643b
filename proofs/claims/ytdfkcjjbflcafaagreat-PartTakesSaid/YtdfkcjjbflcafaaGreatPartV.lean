/- Layer 18 (part): a partition in memory of one's own. -/
import Derived.Test.YtdfkcjjbflcafaaGreatPartU
namespace Go.Proofs.YtdfkcjjbflcafaaGreat
open Go.RowKit
set_option linter.unusedVariables false
set_option linter.unusedSimpArgs false
set_option maxRecDepth 20000
attribute [local irreducible] Hy St Ops DH DHF
/-- A guest's two slices, and their blocks. -/
structure GB where
  vv : Value
  mv : Value
  hv : Hp
  hm : Hp
def ghs (G : Nat → GB) : Nat → Hp
  | 0 => []
  | n + 1 => ghs G n ++ ((G n).hv ++ (G n).hm)
theorem ghs_congr {G G' : Nat → GB} : ∀ n, (∀ i, i < n → G' i = G i) → ghs G' n = ghs G n := by
  intro n
  induction n with
  | zero => intro _; rfl
  | succ n ih => intro h; rw [ghs, ghs, ih (fun i hi => h i (by omega)), h n (by omega)]
theorem ghs_pick {i : Nat} : ∀ (n : Nat) (G : Nat → GB), i < n → ∃ r, ∀ G' : Nat → GB, (∀ j, j ≠ i → G' j = G j) → (ghs G' n).Perm ((G' i).hv ++ ((G' i).hm ++ r)) := by
  intro n
  induction n with
  | zero => intro G h; omega
  | succ n ih =>
    intro G hi
    rcases Nat.lt_succ_iff_lt_or_eq.1 hi with h | rfl
    · obtain ⟨r, hr⟩ := ih G h
      refine ⟨r ++ ((G n).hv ++ (G n).hm), fun G' hG => ?_⟩
      rw [ghs, hG n (by omega)]
      refine ((hr G' hG).append_right _).trans ?_
      rw [List.append_assoc, List.append_assoc]
    · refine ⟨ghs G i, fun G' hG => ?_⟩
      rw [ghs, ghs_congr i (fun j hj => hG j (by omega)), ← List.append_assoc (G' i).hv]
      exact List.perm_append_comm
/-- Where it lies. -/
structure Lay where
  pb : Nat
  pcap : Nat
  gb : Nat
  gcap : Nat
  ob : Nat
  ocap : Nat
  pc : Array Value
  gc : Array Value
  oc : Array Value
  G : Nat → GB
def gsRow (P : PtD) (G : Nat → GB) (i : Nat) : List Value := [.bool (P.gs i).live, .bool (P.gs i).dying, .int .i64 (P.gs i).first, (G i).vv, (G i).mv]
structure OwnP (P : PtD) (Y : Lay) : Prop where
  pg : Row Y.pb Y.pcap Y.pc 2 P.pages.length (P.pages.map pgV).flatten
  gs : Row Y.gb Y.gcap Y.gc 5 P.guests.length ((List.range P.guests.length).map (gsRow P Y.G)).flatten
  on : Row Y.ob Y.ocap Y.oc 2 P.on.length (P.on.map stV).flatten
  vc : ∀ i, i < 4 → Own 3 1 (Y.G i).vv (Y.G i).hv ((P.gs i).vcpus.map inV)
  mp : ∀ i, i < 4 → Own 80 2 (Y.G i).mv (Y.G i).hm ((P.gs i).maps.map mpV)
  wf : P.Wf
  n : P.Len
  sm : P.Small 1000
abbrev Lay.pv (Y : Lay) (P : PtD) : Value := .slice (some ⟨Y.pb, 0, none⟩) P.pages.length Y.pcap
abbrev Lay.gv (Y : Lay) (P : PtD) : Value := .slice (some ⟨Y.gb, 0, none⟩) P.guests.length Y.gcap
abbrev Lay.ov (Y : Lay) (P : PtD) : Value := .slice (some ⟨Y.ob, 0, none⟩) P.on.length Y.ocap
/-- Its blocks but the head's. -/
abbrev Lay.in (Y : Lay) : Hp := ⟨Y.pb, Y.pc, 56⟩ :: ⟨Y.gb, Y.gc, 63⟩ :: ⟨Y.ob, Y.oc, 52⟩ :: ghs Y.G 4
def Lay.L (Y : Lay) : PtL := ⟨Y.pb, 0, Y.pcap, Y.gb, 0, Y.gcap, Y.ob, 0, Y.ocap, fun i => (Y.G i).vv, fun i => (Y.G i).mv⟩
theorem ghs_mem {G : Nat → GB} {i : Nat} {e : Blk} : ∀ n, i < n → (e ∈ (G i).hv ∨ e ∈ (G i).hm) → e ∈ ghs G n := by
  intro n
  induction n with
  | zero => intro h; omega
  | succ n ih =>
    intro hi he
    rw [ghs, List.mem_append, List.mem_append]
    rcases Nat.lt_succ_iff_lt_or_eq.1 hi with h | rfl
    · exact .inl (ih h he)
    · exact .inr he
theorem pg_at {P : PtD} {i : Nat} (hi : i < P.pages.length) : (P.pages.map pgV)[i]? = some [.int .i64 (P.pg i).own, .int .i64 (P.pg i).wit] := by
  rw [List.getElem?_map, PtD.pg, List.getD_eq_getElem?_getD, List.getElem?_eq_getElem hi]; rfl
theorem st_at {P : PtD} {i : Nat} (hi : i < P.on.length) : (P.on.map stV)[i]? = some [.int .i64 (P.st i).vm, .int .i64 (P.st i).cpu] := by
  rw [List.getElem?_map, PtD.st, List.getD_eq_getElem?_getD, List.getElem?_eq_getElem hi]; rfl
theorem pg_len {xs : List PgD} : ∀ c ∈ xs.map pgV, c.length = 2 := fun c hc => by obtain ⟨x, _, rfl⟩ := List.mem_map.1 hc; rfl
theorem st_len {xs : List StD} : ∀ c ∈ xs.map stV, c.length = 2 := fun c hc => by obtain ⟨x, _, rfl⟩ := List.mem_map.1 hc; rfl
theorem gs_len {P : PtD} {G : Nat → GB} {n : Nat} : ∀ c ∈ (List.range n).map (gsRow P G), c.length = 5 := fun c hc => by obtain ⟨x, _, rfl⟩ := List.mem_map.1 hc; rfl
theorem OwnP.partV {P : PtD} {Y : Lay} (h : OwnP P Y) {w : World} (hh : Here Y.in w) : PartV w Y.L P := by
  have h4 := h.n.g4
  have hsm := h.sm
  have hp := hh _ (List.mem_cons_self ..)
  have hg := hh _ (List.mem_cons_of_mem _ (List.mem_cons_self ..))
  have ho := hh _ (List.mem_cons_of_mem _ (List.mem_cons_of_mem _ (List.mem_cons_self ..)))
  have hr : ∀ e ∈ ghs Y.G 4, w.heap[e.b]? = some (.cells e.cs e.t (0, 0)) := fun e he => hh e (List.mem_cons_of_mem _ (List.mem_cons_of_mem _ (List.mem_cons_of_mem _ he)))
  refine ⟨fun i hi => h.pg.range pg_len hp (pg_at hi), fun i hi => h.gs.range gs_len hg (getD_range_map _ hi), fun i hi => ?_, fun i hi => ?_, fun i hi => h.on.range st_len ho (st_at hi), h.wf⟩
  · have := hsm.vc i hi
    exact (h.vc i (by omega)).lie (fun e he => hr e (ghs_mem 4 (by omega) (.inl he))) (by rw [List.length_map]; omega)
  · have := hsm.vc i hi
    exact (h.mp i (by omega)).lie (fun e he => hr e (ghs_mem 4 (by omega) (.inr he))) (by rw [List.length_map]; omega)
theorem OwnP.partQ {P : PtD} {Y : Lay} (h : OwnP P Y) {w : World} {bx tx : Nat} (hh : Here (⟨bx, #[Y.pv P, Y.gv P, Y.ov P], tx⟩ :: Y.in) w) : PartQ w bx Y.L P := by
  have h0 := hh _ (List.mem_cons_self ..)
  exact ⟨h.partV fun e he => hh e (List.mem_cons_of_mem _ he), h.n, by rw [cell_of_block h0]; rfl, by rw [cell_of_block h0]; rfl, by rw [cell_of_block h0]; rfl⟩
theorem SlAt.of_ranges {α : Type} {w : World} {b cap sz : Nat} {f : Nat → List Value} {n : Nat} (hle : n ≤ 281474976710656) (h : ∀ i, i < n → w.rangeAt b (0 + i * sz) (f i)) : SlAt w (.slice (some ⟨b, 0, none⟩) n cap) sz ((List.range n).map f) := by
  refine ⟨⟨_, cap, by simp, fun _ => ⟨b, 0, rfl, fun i c hc => ?_⟩⟩, by simpa using hle⟩
  have hi : i < n := by have := (List.getElem?_eq_some_iff.1 hc).1; simpa using this
  rw [getD_range_map _ hi] at hc
  cases hc
  exact h i hi
theorem map_range {α β : Type} [Inhabited α] (xs : List α) (f : α → β) : (List.range xs.length).map (fun i => f (xs.getD i default)) = xs.map f := by
  apply List.ext_getElem?
  intro i
  by_cases hi : i < xs.length
  · simp [hi]
  · simp [hi]
theorem OwnP.partG {P : PtD} {Y : Lay} (h : OwnP P Y) {w : World} (hh : Here Y.in w) : PartG w (Y.pv P) (Y.gv P) (Y.ov P) P := by
  have hv := h.partV hh
  have hsm := h.sm
  refine ⟨?_, ⟨fun i => (Y.G i).vv, fun i => (Y.G i).mv, SlAt.of_ranges (α := Nat) (by have := hsm.gs; omega) (fun i hi => hv.gs i hi), fun i hi => ⟨hv.vc i hi, hv.mp i hi⟩⟩, ?_, h.wf⟩
  · have := SlAt.of_ranges (α := Nat) (cap := Y.pcap) (by have := hsm.pg; omega) (fun i hi => hv.pg i hi)
    rw [← map_range P.pages pgV]
    exact this
  · have := SlAt.of_ranges (α := Nat) (cap := Y.ocap) (by have := hsm.on; omega) (fun i hi => hv.st i hi)
    rw [← map_range P.on stV]
    exact this
theorem own_some {e sz : Nat} {xs : List (List Value)} (hall : ∀ c ∈ xs, c.length = sz ∧ c.all (·.oneCell') = true) (hle : xs.length ≤ 1000000) : ∃ v hn, Own e sz v hn xs := by
  have hl := flatten_len xs (fun c hc => (hall c hc).1)
  exact ⟨_, _, hall, .inr ⟨0, xs.length, xs.flatten.toArray, rfl, rfl, ⟨hl, Nat.le_refl _, by unfold maxLen; omega, by rw [List.size_toArray]; exact hl, by rw [← hl, List.take_length]⟩⟩⟩
theorem pg_all {xs : List PgD} : ∀ c ∈ xs.map pgV, c.length = 2 ∧ c.all (·.oneCell') = true := fun c hc => by obtain ⟨x, _, rfl⟩ := List.mem_map.1 hc; exact ⟨rfl, rfl⟩
theorem st_all {xs : List StD} : ∀ c ∈ xs.map stV, c.length = 2 ∧ c.all (·.oneCell') = true := fun c hc => by obtain ⟨x, _, rfl⟩ := List.mem_map.1 hc; exact ⟨rfl, rfl⟩
theorem mp_all {xs : List MpD} : ∀ c ∈ xs.map mpV, c.length = 2 ∧ c.all (·.oneCell') = true := fun c hc => by obtain ⟨x, _, rfl⟩ := List.mem_map.1 hc; exact ⟨rfl, rfl⟩
theorem in_all {xs : List Int} : ∀ c ∈ xs.map inV, c.length = 1 ∧ c.all (·.oneCell') = true := fun c hc => by obtain ⟨x, _, rfl⟩ := List.mem_map.1 hc; exact ⟨rfl, rfl⟩
theorem SlAt.one {w : World} {v : Value} {sz : Nat} {xs : List (List Value)} (h : SlAt w v sz xs) : v.oneCell' = true := by
  obtain ⟨⟨q, cap, rfl, _⟩, _⟩ := h; rfl
theorem Own.one {e sz : Nat} {v : Value} {h : Hp} {xs : List (List Value)} (hA : Own e sz v h xs) : v.oneCell' = true := by
  obtain ⟨q, cap, rfl⟩ := hA.opened; rfl
theorem Own.row {e sz n : Nat} {v : Value} {h : Hp} {xs : List (List Value)} (hA : Own e sz v h xs) (hn : xs.length = n) (h0 : 0 < n) : ∃ g cap cur, v = .slice (some ⟨g, 0, none⟩) n cap ∧ h = [⟨g, cur, e⟩] ∧ Row g cap cur sz n xs.flatten := by
  rcases hA.2 with ⟨rfl, rfl, rfl⟩ | ⟨g, cap, cur, rfl, rfl, hrow⟩
  · simp at hn; omega
  · subst hn; exact ⟨g, cap, cur, rfl, rfl, hrow⟩
def updG (G : Nat → GB) (i : Nat) (b : GB) : Nat → GB := fun j => if j = i then b else G j
theorem updG_self (G : Nat → GB) (i : Nat) (b : GB) : updG G i b i = b := by simp [updG]
theorem updG_ne (G : Nat → GB) (i : Nat) (b : GB) {j : Nat} (h : j ≠ i) : updG G i b j = G j := by simp [updG, h]
theorem perm_out (A L R : Hp) : (L ++ (R ++ A)).Perm (A ++ (L ++ R)) := by
  rw [← List.append_assoc]
  exact List.perm_append_comm
theorem set_map_range {α : Type} {f g : Nat → α} {n k : Nat} (hk : k < n) (h : ∀ j, j ≠ k → g j = f j) : ((List.range n).map f).set k (g k) = (List.range n).map g := by
  apply List.ext_getElem?
  intro i
  by_cases hi : i = k
  · subst hi; simp [hk]
  · rw [List.getElem?_set_ne (Ne.symm hi)]
    by_cases hn : i < n
    · simp [hn, h i hi]
    · simp [hn]
/-- A guest's two slices, others. -/
theorem gsRow_slices {g cap n k : Nat} {gc : Array Value} {P : PtD} {G : Nat → GB} (h : Row g cap gc 5 n ((List.range n).map (gsRow P G)).flatten) (hk : k < n) (b : GB) : Row g cap (putAt gc (k * 5 + 3) [b.vv, b.mv]) 5 n ((List.range n).map (gsRow P (updG G k b))).flatten := by
  have := h.put gs_len (getD_range_map _ hk) (k := 3) (vs := [b.vv, b.mv]) (by simp)
  rw [← set_map_range (f := gsRow P G) (g := gsRow P (updG G k b)) hk (fun j hj => by simp only [gsRow, updG_ne _ _ _ hj])]
  have e : (gsRow P G k).take 3 ++ [b.vv, b.mv] ++ (gsRow P G k).drop (3 + [b.vv, b.mv].length) = gsRow P (updG G k b) k := by simp only [gsRow, updG_self]; rfl
  rwa [e] at this
theorem copied_e {w : World} {pv gv ov : Value} {P : PtD} (h : PartG w pv gv ov P) (hn : P.Len) (hs : P.Small 1000) : Fn Tryz.prog 25 [.agg #[pv, gv, ov]].toArray w [] (fun u hn => ∃ Y bx, u = .pointer (some ⟨bx, 0, none⟩) ∧ OwnP P Y ∧ HpLe (⟨bx, #[Y.pv P, Y.gv P, Y.ov P], 54⟩ :: Y.in) hn) := by
  obtain ⟨L, rfl, rfl, rfl, hv⟩ := h.open hn
  obtain ⟨vv, mv, hg1, hg2⟩ := h.guests
  have hgall : ∀ c ∈ (List.range P.guests.length).map (fun i => [Value.bool (P.gs i).live, .bool (P.gs i).dying, .int .i64 (P.gs i).first, vv i, mv i]), c.length = 5 ∧ c.all (·.oneCell') = true := fun c hc => by
    obtain ⟨i, hi, rfl⟩ := List.mem_map.1 hc
    have := hg2 i (List.mem_range.1 hi)
    exact ⟨rfl, by simp only [List.all_cons, List.all_nil, this.1.one, this.2.one]; rfl⟩
  have g4 := hn.g4
  have l1 : (P.pages.map pgV).length ≤ 64 := by have := hn.p1; simpa using this
  have l2 : (P.on.map stV).length ≤ 3 := by have := hn.o1; simpa using this
  have l3 : ((List.range P.guests.length).map (fun i => [Value.bool (P.gs i).live, .bool (P.gs i).dying, .int .i64 (P.gs i).first, vv i, mv i])).length = 4 := by simp [g4]
  refine enter Tryz.func25 ?_
  refine run ?_
  intro B
  refine run ?_
  refine drawM 11 [0, 1, 3, 4, 6, 7] [2, 5, 8] [9, 10] ?_
  refine runS ?_
  refine eCall (fun wc hG => clonePages_e _ _ (h.pages.good hG) pg_all (by omega)) (own_some pg_all (by omega)) ?_
  refine eCall (fun wc hG => cloneGuests_e _ _ (hg1.good hG) hgall (by omega)) (own_some hgall (by omega)) ?_
  refine eCall (fun wc hG => cloneSeats_e _ _ (h.on.good hG) st_all (by omega)) (own_some st_all (by omega)) ?_
  refine eNil ?_
  rintro _ _ hO _ _ hGu _ _ hPg
  obtain ⟨ob, ocap, oc, rfl, rfl, ro⟩ := hO.row (n := P.on.length) (by simp) (by have := hn.o0; omega)
  obtain ⟨gb, gcap, gc, rfl, rfl, rg⟩ := hGu.row (n := P.guests.length) (by simp) (by omega)
  obtain ⟨pb, pcap, pc, rfl, rfl, rp⟩ := hPg.row (n := P.pages.length) (by simp) (by have := hn.p0; omega)
  refine dBuild ?_
  refine dBuild ?_
  refine dNil ?_
  refine opsF ?_
  simp only [List.cons_append, List.nil_append]
  refine run ?_
  intro X
  refine run ?_
  refine loopS (σ := Nat × (Nat → GB) × Array Value) (fun s => [(24, .int .i64 (s.1 : Int))]) (fun s => ⟨X, #[.slice (some ⟨pb, 0, none⟩) P.pages.length pcap, .slice (some ⟨gb, 0, none⟩) P.guests.length gcap, .slice (some ⟨ob, 0, none⟩) P.on.length ocap], 54⟩ :: ⟨ob, oc, 52⟩ :: ⟨gb, s.2.2, 63⟩ :: ⟨pb, pc, 56⟩ :: ghs s.2.1 s.1)
    (fun s => s.1 ≤ 4 ∧ Row gb gcap s.2.2 5 P.guests.length ((List.range P.guests.length).map (gsRow P s.2.1)).flatten ∧ (∀ i, i < s.1 → Own 3 1 (s.2.1 i).vv (s.2.1 i).hv ((P.gs i).vcpus.map inV) ∧ Own 80 2 (s.2.1 i).mv (s.2.1 i).hm ((P.gs i).maps.map mpV)) ∧ ∀ i, s.1 ≤ i → i < 4 → (s.2.1 i).vv = vv i ∧ (s.2.1 i).mv = mv i) (fun s => 4 - s.1) (0, fun i => ⟨vv i, mv i, [], []⟩, gc) ⟨by simp, rg, fun i hi => absurd hi (by simp), fun i _ _ => ⟨rfl, rfl⟩⟩ ?_
  rintro ⟨k, G, gc⟩ m hm ⟨hk, hrow, hown, hold⟩
  dsimp only at hm hk hrow hown hold ⊢
  refine run ?_
  refine st_cond _ rfl (fun hc => ?_) (fun hc => ?_)
  · have hlt : k < 4 := by simp at hc; omega
    obtain ⟨hvk, hmk⟩ := hg2 k (by omega)
    have hat : ((List.range P.guests.length).map (gsRow P G))[k]? = some (gsRow P G k) := getD_range_map _ (by omega)
    have n3 := hrow.nth gs_len hat (k := 3) rfl
    have n4 := hrow.nth gs_len hat (k := 4) rfl
    rw [(hold k (Nat.le_refl _) hlt).1] at n3
    rw [(hold k (Nat.le_refl _) hlt).2] at n4
    refine run ?_
    refine late 14 1 ?_
    refine lateA 13 1 ?_
    refine lateA 12 1 ?_
    refine drawMA 12 [0, 1, 2, 3, 4, 5, 7, 8, 9, 10] [6, 11] [] ?_
    refine runS ?_
    have sv := (hs.vc k (by omega)).1
    have sm := (hs.vc k (by omega)).2
    refine eCall (fun wc hG => cloneInts_e _ _ (hvk.good hG) in_all (by simp; omega)) (own_some in_all (by simp; omega)) ?_
    refine eCall (fun wc hG => cloneMaps_e _ _ (hmk.good hG) mp_all (by simp; omega)) (own_some mp_all (by simp; omega)) ?_
    refine eNil ?_
    rintro mv' hm' hM vv' hv' hV
    simp only [DN]
    refine dNil ?_
    refine opsF ?_
    refine ops_perm ([_, _, _, _] ++ (ghs G k ++ (hv' ++ hm'))) ((List.Perm.append_left _ (List.Perm.append_left _ List.perm_append_comm)).trans (by rw [List.append_nil]; exact perm_out _ _ _)) ?_
    obtain ⟨q1, c1, rfl⟩ := hV.opened
    obtain ⟨q2, c2, rfl⟩ := hM.opened
    simp only [List.cons_append, List.nil_append]
    have hgz : 20 ≤ gc.size := by have := hrow.size; have := hrow.le; omega
    refine run ?_
    refine nextS (k + 1, updG G k ⟨(.slice q1 ((P.gs k).vcpus.map inV).length c1), (.slice q2 ((P.gs k).maps.map mpV).length c2), hv', hm'⟩, putAt gc (k * 5 + 3) [(.slice q1 ((P.gs k).vcpus.map inV).length c1), (.slice q2 ((P.gs k).maps.map mpV).length c2)]) ⟨by dsimp only; omega, gsRow_slices hrow (by omega) ⟨(.slice q1 ((P.gs k).vcpus.map inV).length c1), (.slice q2 ((P.gs k).maps.map mpV).length c2), hv', hm'⟩, fun i hi => ?_, fun i h1 h2 => ?_⟩ (h2 := ?_)
    · dsimp only at hi ⊢
      rcases Nat.lt_succ_iff_lt_or_eq.1 hi with hi | rfl
      · rw [updG_ne _ _ _ (by omega)]; exact hown i hi
      · rw [updG_self]; exact ⟨hV, hM⟩
    · dsimp only at h1 ⊢
      rw [updG_ne _ _ _ (by omega)]; exact hold i (by omega) h2
    · dsimp only
      rw [ghs, ghs_congr (G := G) k (fun i hi => updG_ne _ _ _ (by omega)), updG_self]
      simp only [putAt]
      (repeat (first | exact True.intro | exact HpLe.refl _ | (with_reducible exact HpLe.left _ _) | (with_reducible exact HpLe.right _ _) | (refine Exists.intro _ (And.intro (by first | exact p0 | exact p1 | exact p2 | exact p3 | exact p4 | exact p5) ?_)) | (with_reducible apply HpLe.app) | (with_reducible apply HpLe.skip)))
  have hk4 : k = 4 := by simp at hc; omega
  subst hk4
  refine run ?_
  refine fin1 ?_
  refine ⟨⟨pb, pcap, gb, gcap, ob, ocap, pc, gc, oc, G⟩, X, rfl, ⟨rp, hrow, ro, fun i hi => (hown i hi).1, fun i hi => (hown i hi).2, h.wf, hn, hs⟩, ?_⟩
  (repeat (first | exact True.intro | exact HpLe.refl _ | (with_reducible exact HpLe.left _ _) | (with_reducible exact HpLe.right _ _) | (refine Exists.intro _ (And.intro (by first | exact p0 | exact p1 | exact p2 | exact p3 | exact p4 | exact p5) ?_)) | (with_reducible apply HpLe.app) | (with_reducible apply HpLe.skip)))
end Go.Proofs.YtdfkcjjbflcafaaGreat
