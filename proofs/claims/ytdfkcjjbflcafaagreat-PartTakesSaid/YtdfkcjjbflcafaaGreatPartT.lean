/- Layer 18 (part): a script, opened out of any argument. -/
import Derived.Test.YtdfkcjjbflcafaaGreatPartS
import Derived.Test.YtdfkcjjbflcafaaGreatOpenS
namespace Go.Proofs.YtdfkcjjbflcafaaGreat
open Go.ChangeShapes Go.WideShapes Go.ChangeAt Go.RowKit
set_option linter.unusedVariables false
set_option linter.unusedSimpArgs false
set_option maxRecDepth 20000
theorem i64_wf {n : Int} (h : (Lit.int .i64 n).wf = true) : I64 n := by
  simp only [Lit.wf, Bool.and_eq_true, decide_eq_true_eq] at h
  exact ⟨Int.le_trans (by decide) h.1, Int.le_trans h.2 (by decide)⟩
theorem okW_i {v : Value} (h : okW (.i .i64) v = true) : ∃ a, v = .int .i64 a ∧ I64 a := by
  cases v <;> simp only [okW, Bool.and_eq_true, decide_eq_true_eq, Bool.false_eq_true] at h
  obtain ⟨rfl, h⟩ := h
  exact ⟨_, rfl, i64_wf h⟩
theorem okW_b {v : Value} (h : okW .b v = true) : ∃ a, v = .bool a := by
  cases v <;> simp only [okW, Bool.false_eq_true] at h
  exact ⟨_, rfl⟩
theorem okLvW_cons {k : Leaf} {ks : List Leaf} {cs : List Value} (h : okLvW (k :: ks) cs = true) : ∃ v r, cs = v :: r ∧ okW k v = true ∧ okLvW ks r = true := by
  cases cs with
  | nil => cases h
  | cons v r => simp only [okLvW, Bool.and_eq_true] at h; exact ⟨v, r, rfl, h⟩
theorem okLvW_nil {cs : List Value} (h : okLvW [] cs = true) : cs = [] := by cases cs with | nil => rfl | cons _ _ => cases h
theorem ints2_of {cs : List Value} (h : okLvW [.i .i64, .i .i64] cs = true) : ∃ a b, cs = [.int .i64 a, .int .i64 b] ∧ I64 a ∧ I64 b := by
  obtain ⟨_, _, rfl, h1, h⟩ := okLvW_cons h
  obtain ⟨_, _, rfl, h2, h⟩ := okLvW_cons h
  obtain rfl := okLvW_nil h
  obtain ⟨a, rfl, ha⟩ := okW_i h1
  obtain ⟨b, rfl, hb⟩ := okW_i h2
  exact ⟨a, b, rfl, ha, hb⟩
theorem act_of {cs : List Value} (h : okLvW [.i .i64, .i .i64, .i .i64, .i .i64, .i .i64, .i .i64, .i .i64, .b] cs = true) : ∃ x : ActD, cs = actV x ∧ x.Wf := by
  obtain ⟨_, _, rfl, h1, h⟩ := okLvW_cons h
  obtain ⟨_, _, rfl, h2, h⟩ := okLvW_cons h
  obtain ⟨_, _, rfl, h3, h⟩ := okLvW_cons h
  obtain ⟨_, _, rfl, h4, h⟩ := okLvW_cons h
  obtain ⟨_, _, rfl, h5, h⟩ := okLvW_cons h
  obtain ⟨_, _, rfl, h6, h⟩ := okLvW_cons h
  obtain ⟨_, _, rfl, h7, h⟩ := okLvW_cons h
  obtain ⟨_, _, rfl, h8, h⟩ := okLvW_cons h
  obtain rfl := okLvW_nil h
  obtain ⟨a1, rfl, b1⟩ := okW_i h1
  obtain ⟨a2, rfl, b2⟩ := okW_i h2
  obtain ⟨a3, rfl, b3⟩ := okW_i h3
  obtain ⟨a4, rfl, b4⟩ := okW_i h4
  obtain ⟨a5, rfl, b5⟩ := okW_i h5
  obtain ⟨a6, rfl, b6⟩ := okW_i h6
  obtain ⟨a7, rfl, b7⟩ := okW_i h7
  obtain ⟨a8, rfl⟩ := okW_b h8
  exact ⟨⟨a1, a2, a3, a4, a5, a6, a7, a8⟩, rfl, ⟨b1, b2, b3, b4, b5, b6, b7⟩⟩
theorem le_reach {n : Nat} (h : n ≤ reachBytes) : n ≤ 281474976710656 := Nat.le_trans h (by decide)
section
variable {H : Type} {enc : TypeId × Value → H} {w : World} {base : Nat} {spare : Nat → Bool} {held : Bool}
/-- What open_each yields, as rows. -/
theorem slAt_each {α : Type} [Inhabited α] {p : Option Addr} {xs : List α} {cap s : Nat} {f : α → List Value} {q : α → Prop} (hl : xs.length ≤ reachBytes) (h : (xs = []) ∨ ∃ b off, p = some ⟨b, off, none⟩ ∧ ∀ i, i < xs.length → ∃ cs, w.rangeAt b (off + i * s) cs ∧ cs.length = s ∧ (cs = f (xs.getD i default) ∧ q (xs.getD i default))) :
    SlAt w (.slice p xs.length cap) s (xs.map f) ∧ ∀ a ∈ xs, q a := by
  refine ⟨⟨⟨p, cap, by rw [List.length_map], fun hne => ?_⟩, by rw [List.length_map]; exact le_reach hl⟩, fun a ha => ?_⟩
  · rcases h with rfl | ⟨b, off, rfl, h⟩
    · exact absurd rfl hne
    · refine ⟨b, off, rfl, fun i c hc => ?_⟩
      have hi : i < xs.length := by
        have := (List.getElem?_eq_some_iff.1 hc).1
        simpa using this
      obtain ⟨cs, h1, _, rfl, _⟩ := h i hi
      simp only [List.getElem?_map, List.getElem?_eq_getElem hi, Option.map_some, Option.some.injEq] at hc
      rw [List.getD_eq_getElem?_getD, List.getElem?_eq_getElem hi] at h1
      subst hc
      exact h1
  · rcases h with rfl | ⟨b, off, rfl, h⟩
    · cases ha
    · obtain ⟨i, hi, rfl⟩ := List.mem_iff_getElem.1 ha
      obtain ⟨cs, _, _, _, h2⟩ := h i hi
      rw [List.getD_eq_getElem?_getD, List.getElem?_eq_getElem hi] at h2
      exact h2
theorem open_flat {α : Type} [Inhabited α] {f : α → List Value} {q : α → Prop} {t e : TypeId} {ks : List Leaf} {fuel : Nat} {cs : List Value} {x : DataW H × List MemPlace} (ht : Tryz.prog.underlying t = some (.slice e)) (hlk : lfOf Tryz.prog 8 e = some ks) (hsz : szOf Tryz.prog e = some ks.length) (hpos : 0 < ks.length) (hby : Nat.ble 1 (Tryz.prog.bytesOf e) = true)
    (hE : ∀ cs, okLvW ks cs = true → ∃ a, cs = f a ∧ q a) (h : DataW.trod enc Tryz.prog w base spare held fuel t cs = some x) (hz : Szd Tryz.prog t x.1) : ∃ v, ∃ xs : List α, cs = [v] ∧ SlAt w v ks.length (xs.map f) ∧ ∀ a ∈ xs, q a := by
  obtain ⟨p, xs, cap, rfl, hl, hr⟩ := open_each (α := α) (R := fun cs a => cs = f a ∧ q a) ht hsz hpos hby (fun n cs x hx _ => hE cs (trod_leaves 8 e ks hlk hsz n cs x hx)) h hz
  exact ⟨_, xs, rfl, slAt_each hl hr⟩
theorem open_ints {fuel : Nat} {cs : List Value} {x : DataW H × List MemPlace} (h : DataW.trod enc Tryz.prog w base spare held fuel 60 cs = some x) (hz : Szd Tryz.prog 60 x.1) : ∃ v, ∃ xs : List Int, cs = [v] ∧ SlAt w v 1 (xs.map inV) ∧ ∀ a ∈ xs, I64 a :=
  open_flat (ks := [.i .i64]) Tryz.underlying60 (by kernel_rfl) (by kernel_rfl) (by decide) (by kernel_rfl) (fun cs h => by
    obtain ⟨_, _, rfl, h1, h⟩ := okLvW_cons h
    obtain rfl := okLvW_nil h
    obtain ⟨a, rfl, ha⟩ := okW_i h1
    exact ⟨a, rfl, ha⟩) h hz
theorem open_pages {fuel : Nat} {cs : List Value} {x : DataW H × List MemPlace} (h : DataW.trod enc Tryz.prog w base spare held fuel 22 cs = some x) (hz : Szd Tryz.prog 22 x.1) : ∃ v, ∃ xs : List PgD, cs = [v] ∧ SlAt w v 2 (xs.map pgV) ∧ ∀ a ∈ xs, I64 a.own ∧ I64 a.wit :=
  open_flat (ks := [.i .i64, .i .i64]) Tryz.underlying22 (by kernel_rfl) (by kernel_rfl) (by decide) (by kernel_rfl) (fun cs h => by obtain ⟨a, b, rfl, h1, h2⟩ := ints2_of h; exact ⟨⟨a, b⟩, rfl, h1, h2⟩) h hz
theorem open_seats {fuel : Nat} {cs : List Value} {x : DataW H × List MemPlace} (h : DataW.trod enc Tryz.prog w base spare held fuel 24 cs = some x) (hz : Szd Tryz.prog 24 x.1) : ∃ v, ∃ xs : List StD, cs = [v] ∧ SlAt w v 2 (xs.map stV) ∧ ∀ a ∈ xs, I64 a.vm ∧ I64 a.cpu :=
  open_flat (ks := [.i .i64, .i .i64]) Tryz.underlying24 (by kernel_rfl) (by kernel_rfl) (by decide) (by kernel_rfl) (fun cs h => by obtain ⟨a, b, rfl, h1, h2⟩ := ints2_of h; exact ⟨⟨a, b⟩, rfl, h1, h2⟩) h hz
theorem open_maps {fuel : Nat} {cs : List Value} {x : DataW H × List MemPlace} (h : DataW.trod enc Tryz.prog w base spare held fuel 61 cs = some x) (hz : Szd Tryz.prog 61 x.1) : ∃ v, ∃ xs : List MpD, cs = [v] ∧ SlAt w v 2 (xs.map mpV) ∧ ∀ a ∈ xs, I64 a.mid ∧ I64 a.frm :=
  open_flat (ks := [.i .i64, .i .i64]) Tryz.underlying61 (by kernel_rfl) (by kernel_rfl) (by decide) (by kernel_rfl) (fun cs h => by obtain ⟨a, b, rfl, h1, h2⟩ := ints2_of h; exact ⟨⟨a, b⟩, rfl, h1, h2⟩) h hz
theorem open_acts {fuel : Nat} {cs : List Value} {x : DataW H × List MemPlace} (h : DataW.trod enc Tryz.prog w base spare held fuel 27 cs = some x) (hz : Szd Tryz.prog 27 x.1) : ∃ v, ∃ xs : List ActD, cs = [v] ∧ SlAt w v 8 (xs.map actV) ∧ ∀ a ∈ xs, a.Wf :=
  open_flat (ks := [.i .i64, .i .i64, .i .i64, .i .i64, .i .i64, .i .i64, .i .i64, .b]) Tryz.underlying27 (by kernel_rfl) (by kernel_rfl) (by decide) (by kernel_rfl) (fun cs h => act_of h) h hz
/-- A guest. -/
theorem open_guest {fuel : Nat} {cs : List Value} {x : DataW H × List MemPlace} (h : DataW.trod enc Tryz.prog w base spare held fuel 63 cs = some x) (hz : Szd Tryz.prog 63 x.1) :
    ∃ g : GsD × Value × Value, cs = [.bool g.1.live, .bool g.1.dying, .int .i64 g.1.first, g.2.1, g.2.2] ∧ SlAt w g.2.1 1 (g.1.vcpus.map inV) ∧ SlAt w g.2.2 2 (g.1.maps.map mpV) ∧ I64 g.1.first ∧ (∀ x ∈ g.1.vcpus, I64 x) ∧ ∀ x ∈ g.1.maps, I64 x.mid ∧ I64 x.frm := by
  obtain ⟨hl, n, hf⟩ := trod_fields Tryz.underlying63 h hz
  rw [cellsOf_sz (show szOf Tryz.prog 63 = some 5 from tb_ok.gsz rfl)] at hl
  match cs, hl with
  | [c0, c1, c2, c3, c4], _ =>
    have c1s : Tryz.prog.cellsOf 4 = 1 := by kernel_rfl
    have c2s : Tryz.prog.cellsOf 3 = 1 := by kernel_rfl
    have c3s : Tryz.prog.cellsOf 60 = 1 := by kernel_rfl
    have c4s : Tryz.prog.cellsOf 61 = 1 := by kernel_rfl
    obtain ⟨_, h0, _⟩ := hf 0 _ rfl
    obtain ⟨_, h1, _⟩ := hf 1 _ rfl
    obtain ⟨_, h2, _⟩ := hf 2 _ rfl
    obtain ⟨_, h3, z3⟩ := hf 3 _ rfl
    obtain ⟨_, h4, z4⟩ := hf 4 _ rfl
    simp only [List.getElem_toArray, List.getElem_cons_zero, List.getElem_cons_succ, c1s, c2s, c3s, c4s, List.drop_zero, List.drop_succ_cons, List.take_succ_cons, List.take_zero] at h0 h1 h2 h3 h4 z3 z4
    obtain ⟨b0, e0, _⟩ := DataW.trod_bool Tryz.underlying4 h0
    obtain ⟨b1, e1, _⟩ := DataW.trod_bool Tryz.underlying4 h1
    obtain ⟨k, e2, _, hw⟩ := DataW.trod_int Tryz.underlying3 h2
    obtain ⟨v, xs, e3, s3, w3⟩ := open_ints h3 z3
    obtain ⟨v4, ms, e4, s4, w4⟩ := open_maps h4 z4
    cases e0; cases e1; cases e2; cases e3; cases e4
    exact ⟨(⟨b0, b1, k, xs, ms⟩, c3, c4), rfl, s3, s4, i64_wf hw, w3, w4⟩
theorem open_part {fuel : Nat} {cs : List Value} {x : DataW H × List MemPlace} (h : DataW.trod enc Tryz.prog w base spare held fuel 26 cs = some x) (hz : Szd Tryz.prog 26 x.1) : ∃ pv gv ov P, cs = [pv, gv, ov] ∧ PartG w pv gv ov P := by
  obtain ⟨hl, n, hf⟩ := trod_fields Tryz.underlying26 h hz
  rw [cellsOf_sz (show szOf Tryz.prog 26 = some 3 from tb_ok.gsz rfl)] at hl
  match cs, hl with
  | [c0, c1, c2], _ =>
    have c1s : Tryz.prog.cellsOf 22 = 1 := by kernel_rfl
    have c2s : Tryz.prog.cellsOf 23 = 1 := by kernel_rfl
    have c3s : Tryz.prog.cellsOf 24 = 1 := by kernel_rfl
    obtain ⟨_, h0, z0⟩ := hf 0 _ rfl
    obtain ⟨_, h1, z1⟩ := hf 1 _ rfl
    obtain ⟨_, h2, z2⟩ := hf 2 _ rfl
    simp only [List.getElem_toArray, List.getElem_cons_zero, List.getElem_cons_succ, c1s, c2s, c3s, List.drop_zero, List.drop_succ_cons, List.take_succ_cons, List.take_zero] at h0 h1 h2 z0 z1 z2
    obtain ⟨pv, ps, e0, s0, w0⟩ := open_pages h0 z0
    obtain ⟨ov, os, e2, s2, w2⟩ := open_seats h2 z2
    obtain ⟨p, gs, cap, e1, hl1, hr⟩ := open_each (α := GsD × Value × Value) Tryz.underlying23 (tb_ok.gsz (t := 63) (s := 5) rfl) (by decide) (by kernel_rfl) (fun n cs x hx hz => open_guest hx hz) h1 z1
    cases e0; cases e1; cases e2
    have hgs : ∀ i, (PtD.mk ps (gs.map (·.1)) os).gs i = (gs.getD i default).1 := fun i => by
      simp only [PtD.gs, List.getD_eq_getElem?_getD, List.getElem?_map]
      cases gs[i]? <;> rfl
    refine ⟨_, _, _, ⟨ps, gs.map (·.1), os⟩, rfl, s0, ⟨fun i => (gs.getD i default).2.1, fun i => (gs.getD i default).2.2, ⟨⟨p, cap, by simp, fun hne => ?_⟩, by simpa using le_reach hl1⟩, fun i hi => ?_⟩, s2, ?_⟩
    · rcases hr with rfl | ⟨b, off, rfl, hr⟩
      · exact absurd rfl hne
      · refine ⟨b, off, rfl, fun i c hc => ?_⟩
        have hi : i < gs.length := by
          have := (List.getElem?_eq_some_iff.1 hc).1
          simpa using this
        obtain ⟨cs, h1, _, rfl, _⟩ := hr i hi
        simp only [List.length_map] at hc
        rw [getD_range_map _ hi] at hc
        simp only [Option.some.injEq] at hc
        subst hc
        rw [hgs]
        exact h1
    · simp only [List.length_map] at hi
      rcases hr with rfl | ⟨b, off, rfl, hr⟩
      · exact absurd hi (by simp)
      · obtain ⟨cs, _, _, _, a, b, _⟩ := hr i hi
        rw [hgs]
        exact ⟨a, b⟩
    · refine ⟨fun f hf => ?_, fun i hi => ?_, fun c hc => ?_⟩
      · have := w0 ((PtD.mk ps (gs.map (·.1)) os).pg f) (by
          simp only [PtD.pg, List.getD_eq_getElem?_getD, List.getElem?_eq_getElem hf]; simp)
        exact this
      · simp only [List.length_map] at hi
        rcases hr with rfl | ⟨b, off, rfl, hr⟩
        · exact absurd hi (by simp)
        · obtain ⟨cs, _, _, _, _, _, a⟩ := hr i hi
          rw [hgs]
          exact a
      · have := w2 ((PtD.mk ps (gs.map (·.1)) os).st c) (by
          simp only [PtD.st, List.getD_eq_getElem?_getD, List.getElem?_eq_getElem hc]; simp)
        exact this
theorem script_of {fuel : Nat} {v : Value} {x : DataW H × List MemPlace} (hv : ∃ cs, v = .agg cs) (h : DataW.trod enc Tryz.prog w base spare held fuel 29 v.cells.toList = some x) (hz : Szd Tryz.prog 29 x.1) : ∃ P A, ScrG w v P A := by
  obtain ⟨cs, rfl⟩ := hv
  obtain ⟨hl, n, hf⟩ := trod_fields Tryz.underlying29 h hz
  rw [cellsOf_sz (show szOf Tryz.prog 29 = some 4 from tb_ok.gsz rfl)] at hl
  obtain ⟨cs⟩ := cs
  simp only [Value.cells] at hl hf
  match cs, hl with
  | [c0, c1, c2, c3], _ =>
    have c1s : Tryz.prog.cellsOf 26 = 3 := by kernel_rfl
    have c2s : Tryz.prog.cellsOf 27 = 1 := by kernel_rfl
    obtain ⟨_, h0, z0⟩ := hf 0 _ rfl
    obtain ⟨_, h1, z1⟩ := hf 1 _ rfl
    simp only [List.getElem_toArray, List.getElem_cons_zero, List.getElem_cons_succ, c1s, c2s, List.drop_zero, List.drop_succ_cons, List.take_succ_cons, List.take_zero] at h0 h1 z0 z1
    obtain ⟨pv, gv, ov, P, e0, hP⟩ := open_part h0 z0
    obtain ⟨lv, A, e1, s1, w1⟩ := open_acts h1 z1
    cases e0; cases e1
    exact ⟨P, A, ⟨c0, c1, c2, c3, rfl, hP, s1⟩, w1⟩
end
end Go.Proofs.YtdfkcjjbflcafaaGreat
