/- Library: slices.Clone. -/
import Derived.Test.YtjnndchkblnkgaaLay2
import Derived.Test.YtjnndchkblnkgaaLay1
namespace Go.Proofs.Ytjnndchkblnkgaa
open Go.RowKit
set_option linter.unusedVariables false
set_option linter.unusedSimpArgs false
set_option maxRecDepth 20000
attribute [local irreducible] Hy St Ops DH DHF
theorem cloneInts_e {w : World} (v : Value) (xs : List (List Value)) (h : SlAt w v 1 xs) (hall : ∀ c ∈ xs, c.length = 1 ∧ c.all (·.oneCell') = true) (hl : xs.length < 1000000) : Fn Try.prog 39 [v].toArray w [] (fun u hn => Own 3 1 u hn xs) := by
  obtain ⟨⟨q, cap, rfl, hne⟩, _⟩ := h
  refine enter Try.func39 ?_
  refine run ?_
  refine op1 (by rfl) (x_nilS tb_ok rfl rfl) ?_
  refine run ?_
  refine st_cond _ rfl (fun hp => ?_) (fun hp => ?_)
  · obtain rfl : xs = [] := by
      rcases Classical.em (xs = []) with h | h
      · exact h
      · obtain ⟨b, o, rfl, _⟩ := hne h; cases hp
    refine run ?_
    refine fin1 ?_
    exact ⟨by simp, .inl ⟨rfl, rfl, rfl⟩⟩
  refine run ?_
  refine z_bslice0 tb_ok (by rfl) (by rfl) (fun g => ?_)
  refine run ?_
  rcases Classical.em (xs = []) with rfl | hx
  · cases q with
    | none => cases hp
    | some q =>
    refine op1 (by rfl) (x_append0 tb_ok (by_ := 0) rfl rfl rfl (Nat.le_refl _)) ?_
    refine run ?_
    refine fin1 ?_
    exact ⟨by simp, .inr ⟨g, 0, #[], rfl, rfl, ⟨rfl, Nat.le_refl _, by decide, rfl, rfl⟩⟩⟩
  · obtain ⟨b, o, rfl, hr⟩ := hne hx
    refine z_appendAll tb_ok (by rfl) rfl ⟨rfl, Nat.le_refl _, by decide, rfl, rfl⟩ rfl rfl rfl rfl rfl rfl (.refl _) rfl hall hr (by simp) hl (fun v' ha' hA => ?_)
    refine run ?_
    refine fin1 ?_
    rw [List.append_nil]
    exact hA
theorem clonePages_e {w : World} (v : Value) (xs : List (List Value)) (h : SlAt w v 2 xs) (hall : ∀ c ∈ xs, c.length = 2 ∧ c.all (·.oneCell') = true) (hl : xs.length < 1000000) : Fn Try.prog 36 [v].toArray w [] (fun u hn => Own 51 2 u hn xs) := by
  obtain ⟨⟨q, cap, rfl, hne⟩, _⟩ := h
  refine enter Try.func36 ?_
  refine run ?_
  refine op1 (by rfl) (x_nilS tb_ok rfl rfl) ?_
  refine run ?_
  refine st_cond _ rfl (fun hp => ?_) (fun hp => ?_)
  · obtain rfl : xs = [] := by
      rcases Classical.em (xs = []) with h | h
      · exact h
      · obtain ⟨b, o, rfl, _⟩ := hne h; cases hp
    refine run ?_
    refine fin1 ?_
    exact ⟨by simp, .inl ⟨rfl, rfl, rfl⟩⟩
  refine run ?_
  refine z_bslice0 tb_ok (by rfl) (by rfl) (fun g => ?_)
  refine run ?_
  rcases Classical.em (xs = []) with rfl | hx
  · cases q with
    | none => cases hp
    | some q =>
    refine op1 (by rfl) (x_append0 tb_ok (by_ := 0) rfl rfl rfl (Nat.le_refl _)) ?_
    refine run ?_
    refine fin1 ?_
    exact ⟨by simp, .inr ⟨g, 0, #[], rfl, rfl, ⟨rfl, Nat.le_refl _, by decide, rfl, rfl⟩⟩⟩
  · obtain ⟨b, o, rfl, hr⟩ := hne hx
    refine z_appendAll tb_ok (by rfl) rfl ⟨rfl, Nat.le_refl _, by decide, rfl, rfl⟩ rfl rfl rfl rfl rfl rfl (.refl _) rfl hall hr (by simp) hl (fun v' ha' hA => ?_)
    refine run ?_
    refine fin1 ?_
    rw [List.append_nil]
    exact hA
theorem cloneSeats_e {w : World} (v : Value) (xs : List (List Value)) (h : SlAt w v 2 xs) (hall : ∀ c ∈ xs, c.length = 2 ∧ c.all (·.oneCell') = true) (hl : xs.length < 1000000) : Fn Try.prog 38 [v].toArray w [] (fun u hn => Own 59 2 u hn xs) := by
  obtain ⟨⟨q, cap, rfl, hne⟩, _⟩ := h
  refine enter Try.func38 ?_
  refine run ?_
  refine op1 (by rfl) (x_nilS tb_ok rfl rfl) ?_
  refine run ?_
  refine st_cond _ rfl (fun hp => ?_) (fun hp => ?_)
  · obtain rfl : xs = [] := by
      rcases Classical.em (xs = []) with h | h
      · exact h
      · obtain ⟨b, o, rfl, _⟩ := hne h; cases hp
    refine run ?_
    refine fin1 ?_
    exact ⟨by simp, .inl ⟨rfl, rfl, rfl⟩⟩
  refine run ?_
  refine z_bslice0 tb_ok (by rfl) (by rfl) (fun g => ?_)
  refine run ?_
  rcases Classical.em (xs = []) with rfl | hx
  · cases q with
    | none => cases hp
    | some q =>
    refine op1 (by rfl) (x_append0 tb_ok (by_ := 0) rfl rfl rfl (Nat.le_refl _)) ?_
    refine run ?_
    refine fin1 ?_
    exact ⟨by simp, .inr ⟨g, 0, #[], rfl, rfl, ⟨rfl, Nat.le_refl _, by decide, rfl, rfl⟩⟩⟩
  · obtain ⟨b, o, rfl, hr⟩ := hne hx
    refine z_appendAll tb_ok (by rfl) rfl ⟨rfl, Nat.le_refl _, by decide, rfl, rfl⟩ rfl rfl rfl rfl rfl rfl (.refl _) rfl hall hr (by simp) hl (fun v' ha' hA => ?_)
    refine run ?_
    refine fin1 ?_
    rw [List.append_nil]
    exact hA
theorem cloneMaps_e {w : World} (v : Value) (xs : List (List Value)) (h : SlAt w v 2 xs) (hall : ∀ c ∈ xs, c.length = 2 ∧ c.all (·.oneCell') = true) (hl : xs.length < 1000000) : Fn Try.prog 40 [v].toArray w [] (fun u hn => Own 75 2 u hn xs) := by
  obtain ⟨⟨q, cap, rfl, hne⟩, _⟩ := h
  refine enter Try.func40 ?_
  refine run ?_
  refine op1 (by rfl) (x_nilS tb_ok rfl rfl) ?_
  refine run ?_
  refine st_cond _ rfl (fun hp => ?_) (fun hp => ?_)
  · obtain rfl : xs = [] := by
      rcases Classical.em (xs = []) with h | h
      · exact h
      · obtain ⟨b, o, rfl, _⟩ := hne h; cases hp
    refine run ?_
    refine fin1 ?_
    exact ⟨by simp, .inl ⟨rfl, rfl, rfl⟩⟩
  refine run ?_
  refine z_bslice0 tb_ok (by rfl) (by rfl) (fun g => ?_)
  refine run ?_
  rcases Classical.em (xs = []) with rfl | hx
  · cases q with
    | none => cases hp
    | some q =>
    refine op1 (by rfl) (x_append0 tb_ok (by_ := 0) rfl rfl rfl (Nat.le_refl _)) ?_
    refine run ?_
    refine fin1 ?_
    exact ⟨by simp, .inr ⟨g, 0, #[], rfl, rfl, ⟨rfl, Nat.le_refl _, by decide, rfl, rfl⟩⟩⟩
  · obtain ⟨b, o, rfl, hr⟩ := hne hx
    refine z_appendAll tb_ok (by rfl) rfl ⟨rfl, Nat.le_refl _, by decide, rfl, rfl⟩ rfl rfl rfl rfl rfl rfl (.refl _) rfl hall hr (by simp) hl (fun v' ha' hA => ?_)
    refine run ?_
    refine fin1 ?_
    rw [List.append_nil]
    exact hA
theorem cloneGuests_e {w : World} (v : Value) (xs : List (List Value)) (h : SlAt w v 5 xs) (hall : ∀ c ∈ xs, c.length = 5 ∧ c.all (·.oneCell') = true) (hl : xs.length < 1000000) : Fn Try.prog 37 [v].toArray w [] (fun u hn => Own 57 5 u hn xs) := by
  obtain ⟨⟨q, cap, rfl, hne⟩, _⟩ := h
  refine enter Try.func37 ?_
  refine run ?_
  refine op1 (by rfl) (x_nilS tb_ok rfl rfl) ?_
  refine run ?_
  refine st_cond _ rfl (fun hp => ?_) (fun hp => ?_)
  · obtain rfl : xs = [] := by
      rcases Classical.em (xs = []) with h | h
      · exact h
      · obtain ⟨b, o, rfl, _⟩ := hne h; cases hp
    refine run ?_
    refine fin1 ?_
    exact ⟨by simp, .inl ⟨rfl, rfl, rfl⟩⟩
  refine run ?_
  refine z_bslice0 tb_ok (by rfl) (by rfl) (fun g => ?_)
  refine run ?_
  rcases Classical.em (xs = []) with rfl | hx
  · cases q with
    | none => cases hp
    | some q =>
    refine op1 (by rfl) (x_append0 tb_ok (by_ := 0) rfl rfl rfl (Nat.le_refl _)) ?_
    refine run ?_
    refine fin1 ?_
    exact ⟨by simp, .inr ⟨g, 0, #[], rfl, rfl, ⟨rfl, Nat.le_refl _, by decide, rfl, rfl⟩⟩⟩
  · obtain ⟨b, o, rfl, hr⟩ := hne hx
    refine z_appendAll tb_ok (by rfl) rfl ⟨rfl, Nat.le_refl _, by decide, rfl, rfl⟩ rfl rfl rfl rfl rfl rfl (.refl _) rfl hall hr (by simp) hl (fun v' ha' hA => ?_)
    refine run ?_
    refine fin1 ?_
    rw [List.append_nil]
    exact hA
end Go.Proofs.Ytjnndchkblnkgaa

/- Layer 18 (part): a partition in memory of one's own. -/
namespace Go.Proofs.Ytjnndchkblnkgaa
open Go.RowKit
set_option linter.unusedVariables false
set_option linter.unusedSimpArgs false
set_option maxRecDepth 20000
attribute [local irreducible] Hy St Ops DH DHF
/-- A guest's two slices, and their blocks. -/
structure GB where
  vv : Value
  mv : Value
  hv : Hp
  hm : Hp
def ghs (G : Nat → GB) : Nat → Hp
  | 0 => []
  | n + 1 => ghs G n ++ ((G n).hv ++ (G n).hm)
theorem ghs_congr {G G' : Nat → GB} : ∀ n, (∀ i, i < n → G' i = G i) → ghs G' n = ghs G n := by
  intro n
  induction n with
  | zero => intro _; rfl
  | succ n ih => intro h; rw [ghs, ghs, ih (fun i hi => h i (by omega)), h n (by omega)]
theorem ghs_pick {i : Nat} : ∀ (n : Nat) (G : Nat → GB), i < n → ∃ r, ∀ G' : Nat → GB, (∀ j, j ≠ i → G' j = G j) → (ghs G' n).Perm ((G' i).hv ++ ((G' i).hm ++ r)) := by
  intro n
  induction n with
  | zero => intro G h; omega
  | succ n ih =>
    intro G hi
    rcases Nat.lt_succ_iff_lt_or_eq.1 hi with h | rfl
    · obtain ⟨r, hr⟩ := ih G h
      refine ⟨r ++ ((G n).hv ++ (G n).hm), fun G' hG => ?_⟩
      rw [ghs, hG n (by omega)]
      refine ((hr G' hG).append_right _).trans ?_
      rw [List.append_assoc, List.append_assoc]
    · refine ⟨ghs G i, fun G' hG => ?_⟩
      rw [ghs, ghs_congr i (fun j hj => hG j (by omega)), ← List.append_assoc (G' i).hv]
      exact List.perm_append_comm
/-- Where it lies. -/
structure Lay where
  pb : Nat
  pcap : Nat
  gb : Nat
  gcap : Nat
  ob : Nat
  ocap : Nat
  pc : Array Value
  gc : Array Value
  oc : Array Value
  G : Nat → GB
def gsRow (P : PtD) (G : Nat → GB) (i : Nat) : List Value := [.bool (P.gs i).live, .bool (P.gs i).dying, .int .i64 (P.gs i).first, (G i).vv, (G i).mv]
structure OwnP (P : PtD) (Y : Lay) : Prop where
  pg : Row Y.pb Y.pcap Y.pc 2 P.pages.length (P.pages.map pgV).flatten
  gs : Row Y.gb Y.gcap Y.gc 5 P.guests.length ((List.range P.guests.length).map (gsRow P Y.G)).flatten
  on : Row Y.ob Y.ocap Y.oc 2 P.on.length (P.on.map stV).flatten
  vc : ∀ i, i < 4 → Own 3 1 (Y.G i).vv (Y.G i).hv ((P.gs i).vcpus.map inV)
  mp : ∀ i, i < 4 → Own 75 2 (Y.G i).mv (Y.G i).hm ((P.gs i).maps.map mpV)
  wf : P.Wf
  n : P.Len
  sm : P.Small 1000
abbrev Lay.pv (Y : Lay) (P : PtD) : Value := .slice (some ⟨Y.pb, 0, none⟩) P.pages.length Y.pcap
abbrev Lay.gv (Y : Lay) (P : PtD) : Value := .slice (some ⟨Y.gb, 0, none⟩) P.guests.length Y.gcap
abbrev Lay.ov (Y : Lay) (P : PtD) : Value := .slice (some ⟨Y.ob, 0, none⟩) P.on.length Y.ocap
/-- Its blocks but the head's. -/
abbrev Lay.in (Y : Lay) : Hp := ⟨Y.pb, Y.pc, 51⟩ :: ⟨Y.gb, Y.gc, 57⟩ :: ⟨Y.ob, Y.oc, 59⟩ :: ghs Y.G 4
def Lay.L (Y : Lay) : PtL := ⟨Y.pb, 0, Y.pcap, Y.gb, 0, Y.gcap, Y.ob, 0, Y.ocap, fun i => (Y.G i).vv, fun i => (Y.G i).mv⟩
theorem ghs_mem {G : Nat → GB} {i : Nat} {e : Blk} : ∀ n, i < n → (e ∈ (G i).hv ∨ e ∈ (G i).hm) → e ∈ ghs G n := by
  intro n
  induction n with
  | zero => intro h; omega
  | succ n ih =>
    intro hi he
    rw [ghs, List.mem_append, List.mem_append]
    rcases Nat.lt_succ_iff_lt_or_eq.1 hi with h | rfl
    · exact .inl (ih h he)
    · exact .inr he
theorem pg_at {P : PtD} {i : Nat} (hi : i < P.pages.length) : (P.pages.map pgV)[i]? = some [.int .i64 (P.pg i).own, .int .i64 (P.pg i).wit] := by
  rw [List.getElem?_map, PtD.pg, List.getD_eq_getElem?_getD, List.getElem?_eq_getElem hi]; rfl
theorem st_at {P : PtD} {i : Nat} (hi : i < P.on.length) : (P.on.map stV)[i]? = some [.int .i64 (P.st i).vm, .int .i64 (P.st i).cpu] := by
  rw [List.getElem?_map, PtD.st, List.getD_eq_getElem?_getD, List.getElem?_eq_getElem hi]; rfl
theorem pg_len {xs : List PgD} : ∀ c ∈ xs.map pgV, c.length = 2 := fun c hc => by obtain ⟨x, _, rfl⟩ := List.mem_map.1 hc; rfl
theorem st_len {xs : List StD} : ∀ c ∈ xs.map stV, c.length = 2 := fun c hc => by obtain ⟨x, _, rfl⟩ := List.mem_map.1 hc; rfl
theorem gs_len {P : PtD} {G : Nat → GB} {n : Nat} : ∀ c ∈ (List.range n).map (gsRow P G), c.length = 5 := fun c hc => by obtain ⟨x, _, rfl⟩ := List.mem_map.1 hc; rfl
theorem OwnP.partV {P : PtD} {Y : Lay} (h : OwnP P Y) {w : World} (hh : Here Y.in w) : PartV w Y.L P := by
  have h4 := h.n.g4
  have hsm := h.sm
  have hp := hh _ (List.mem_cons_self ..)
  have hg := hh _ (List.mem_cons_of_mem _ (List.mem_cons_self ..))
  have ho := hh _ (List.mem_cons_of_mem _ (List.mem_cons_of_mem _ (List.mem_cons_self ..)))
  have hr : ∀ e ∈ ghs Y.G 4, w.heap[e.b]? = some (.cells e.cs e.t (0, 0)) := fun e he => hh e (List.mem_cons_of_mem _ (List.mem_cons_of_mem _ (List.mem_cons_of_mem _ he)))
  refine ⟨fun i hi => h.pg.range pg_len hp (pg_at hi), fun i hi => h.gs.range gs_len hg (getD_range_map _ hi), fun i hi => ?_, fun i hi => ?_, fun i hi => h.on.range st_len ho (st_at hi), h.wf⟩
  · have := hsm.vc i hi
    exact (h.vc i (by omega)).lie (fun e he => hr e (ghs_mem 4 (by omega) (.inl he))) (by rw [List.length_map]; omega)
  · have := hsm.vc i hi
    exact (h.mp i (by omega)).lie (fun e he => hr e (ghs_mem 4 (by omega) (.inr he))) (by rw [List.length_map]; omega)
theorem OwnP.partQ {P : PtD} {Y : Lay} (h : OwnP P Y) {w : World} {bx tx : Nat} (hh : Here (⟨bx, #[Y.pv P, Y.gv P, Y.ov P], tx⟩ :: Y.in) w) : PartQ w bx Y.L P := by
  have h0 := hh _ (List.mem_cons_self ..)
  exact ⟨h.partV fun e he => hh e (List.mem_cons_of_mem _ he), h.n, by rw [cell_of_block h0]; rfl, by rw [cell_of_block h0]; rfl, by rw [cell_of_block h0]; rfl⟩
theorem SlAt.of_ranges {α : Type} {w : World} {b cap sz : Nat} {f : Nat → List Value} {n : Nat} (hle : n ≤ 281474976710656) (h : ∀ i, i < n → w.rangeAt b (0 + i * sz) (f i)) : SlAt w (.slice (some ⟨b, 0, none⟩) n cap) sz ((List.range n).map f) := by
  refine ⟨⟨_, cap, by simp, fun _ => ⟨b, 0, rfl, fun i c hc => ?_⟩⟩, by simpa using hle⟩
  have hi : i < n := by have := (List.getElem?_eq_some_iff.1 hc).1; simpa using this
  rw [getD_range_map _ hi] at hc
  cases hc
  exact h i hi
theorem map_range {α β : Type} [Inhabited α] (xs : List α) (f : α → β) : (List.range xs.length).map (fun i => f (xs.getD i default)) = xs.map f := by
  apply List.ext_getElem?
  intro i
  by_cases hi : i < xs.length
  · simp [hi]
  · simp [hi]
theorem OwnP.partG {P : PtD} {Y : Lay} (h : OwnP P Y) {w : World} (hh : Here Y.in w) : PartG w (Y.pv P) (Y.gv P) (Y.ov P) P := by
  have hv := h.partV hh
  have hsm := h.sm
  refine ⟨?_, ⟨fun i => (Y.G i).vv, fun i => (Y.G i).mv, SlAt.of_ranges (α := Nat) (by have := hsm.gs; omega) (fun i hi => hv.gs i hi), fun i hi => ⟨hv.vc i hi, hv.mp i hi⟩⟩, ?_, h.wf⟩
  · have := SlAt.of_ranges (α := Nat) (cap := Y.pcap) (by have := hsm.pg; omega) (fun i hi => hv.pg i hi)
    rw [← map_range P.pages pgV]
    exact this
  · have := SlAt.of_ranges (α := Nat) (cap := Y.ocap) (by have := hsm.on; omega) (fun i hi => hv.st i hi)
    rw [← map_range P.on stV]
    exact this
theorem own_some {e sz : Nat} {xs : List (List Value)} (hall : ∀ c ∈ xs, c.length = sz ∧ c.all (·.oneCell') = true) (hle : xs.length ≤ 1000000) : ∃ v hn, Own e sz v hn xs := by
  have hl := flatten_len xs (fun c hc => (hall c hc).1)
  exact ⟨_, _, hall, .inr ⟨0, xs.length, xs.flatten.toArray, rfl, rfl, ⟨hl, Nat.le_refl _, by unfold maxLen; omega, by rw [List.size_toArray]; exact hl, by rw [← hl, List.take_length]⟩⟩⟩
theorem pg_all {xs : List PgD} : ∀ c ∈ xs.map pgV, c.length = 2 ∧ c.all (·.oneCell') = true := fun c hc => by obtain ⟨x, _, rfl⟩ := List.mem_map.1 hc; exact ⟨rfl, rfl⟩
theorem st_all {xs : List StD} : ∀ c ∈ xs.map stV, c.length = 2 ∧ c.all (·.oneCell') = true := fun c hc => by obtain ⟨x, _, rfl⟩ := List.mem_map.1 hc; exact ⟨rfl, rfl⟩
theorem mp_all {xs : List MpD} : ∀ c ∈ xs.map mpV, c.length = 2 ∧ c.all (·.oneCell') = true := fun c hc => by obtain ⟨x, _, rfl⟩ := List.mem_map.1 hc; exact ⟨rfl, rfl⟩
theorem in_all {xs : List Int} : ∀ c ∈ xs.map inV, c.length = 1 ∧ c.all (·.oneCell') = true := fun c hc => by obtain ⟨x, _, rfl⟩ := List.mem_map.1 hc; exact ⟨rfl, rfl⟩
theorem SlAt.one {w : World} {v : Value} {sz : Nat} {xs : List (List Value)} (h : SlAt w v sz xs) : v.oneCell' = true := by
  obtain ⟨⟨q, cap, rfl, _⟩, _⟩ := h; rfl
theorem Own.one {e sz : Nat} {v : Value} {h : Hp} {xs : List (List Value)} (hA : Own e sz v h xs) : v.oneCell' = true := by
  obtain ⟨q, cap, rfl⟩ := hA.opened; rfl
theorem Own.row {e sz n : Nat} {v : Value} {h : Hp} {xs : List (List Value)} (hA : Own e sz v h xs) (hn : xs.length = n) (h0 : 0 < n) : ∃ g cap cur, v = .slice (some ⟨g, 0, none⟩) n cap ∧ h = [⟨g, cur, e⟩] ∧ Row g cap cur sz n xs.flatten := by
  rcases hA.2 with ⟨rfl, rfl, rfl⟩ | ⟨g, cap, cur, rfl, rfl, hrow⟩
  · simp at hn; omega
  · subst hn; exact ⟨g, cap, cur, rfl, rfl, hrow⟩
def updG (G : Nat → GB) (i : Nat) (b : GB) : Nat → GB := fun j => if j = i then b else G j
theorem updG_self (G : Nat → GB) (i : Nat) (b : GB) : updG G i b i = b := by simp [updG]
theorem updG_ne (G : Nat → GB) (i : Nat) (b : GB) {j : Nat} (h : j ≠ i) : updG G i b j = G j := by simp [updG, h]
theorem perm_out (A L R : Hp) : (L ++ (R ++ A)).Perm (A ++ (L ++ R)) := by
  rw [← List.append_assoc]
  exact List.perm_append_comm
theorem set_map_range {α : Type} {f g : Nat → α} {n k : Nat} (hk : k < n) (h : ∀ j, j ≠ k → g j = f j) : ((List.range n).map f).set k (g k) = (List.range n).map g := by
  apply List.ext_getElem?
  intro i
  by_cases hi : i = k
  · subst hi; simp [hk]
  · rw [List.getElem?_set_ne (Ne.symm hi)]
    by_cases hn : i < n
    · simp [hn, h i hi]
    · simp [hn]
/-- A guest's two slices, others. -/
theorem gsRow_slices {g cap n k : Nat} {gc : Array Value} {P : PtD} {G : Nat → GB} (h : Row g cap gc 5 n ((List.range n).map (gsRow P G)).flatten) (hk : k < n) (b : GB) : Row g cap (putAt gc (k * 5 + 3) [b.vv, b.mv]) 5 n ((List.range n).map (gsRow P (updG G k b))).flatten := by
  have := h.put gs_len (getD_range_map _ hk) (k := 3) (vs := [b.vv, b.mv]) (by simp)
  rw [← set_map_range (f := gsRow P G) (g := gsRow P (updG G k b)) hk (fun j hj => by simp only [gsRow, updG_ne _ _ _ hj])]
  have e : (gsRow P G k).take 3 ++ [b.vv, b.mv] ++ (gsRow P G k).drop (3 + [b.vv, b.mv].length) = gsRow P (updG G k b) k := by simp only [gsRow, updG_self]; rfl
  rwa [e] at this
theorem copied_e {w : World} {pv gv ov : Value} {P : PtD} (h : PartG w pv gv ov P) (hn : P.Len) (hs : P.Small 1000) : Fn Try.prog 23 [.agg #[pv, gv, ov]].toArray w [] (fun u hn => ∃ Y bx, u = .pointer (some ⟨bx, 0, none⟩) ∧ OwnP P Y ∧ HpLe (⟨bx, #[Y.pv P, Y.gv P, Y.ov P], 66⟩ :: Y.in) hn) := by
  obtain ⟨L, rfl, rfl, rfl, hv⟩ := h.open hn
  obtain ⟨vv, mv, hg1, hg2⟩ := h.guests
  have hgall : ∀ c ∈ (List.range P.guests.length).map (fun i => [Value.bool (P.gs i).live, .bool (P.gs i).dying, .int .i64 (P.gs i).first, vv i, mv i]), c.length = 5 ∧ c.all (·.oneCell') = true := fun c hc => by
    obtain ⟨i, hi, rfl⟩ := List.mem_map.1 hc
    have := hg2 i (List.mem_range.1 hi)
    exact ⟨rfl, by simp only [List.all_cons, List.all_nil, this.1.one, this.2.one]; rfl⟩
  have g4 := hn.g4
  have l1 : (P.pages.map pgV).length ≤ 64 := by have := hn.p1; simpa using this
  have l2 : (P.on.map stV).length ≤ 3 := by have := hn.o1; simpa using this
  have l3 : ((List.range P.guests.length).map (fun i => [Value.bool (P.gs i).live, .bool (P.gs i).dying, .int .i64 (P.gs i).first, vv i, mv i])).length = 4 := by simp [g4]
  refine enter Try.func23 ?_
  refine run ?_
  intro B
  refine run ?_
  refine drawM 11 [0, 1, 3, 4, 6, 7] [2, 5, 8] [9, 10] ?_
  refine runS ?_
  refine eCall (fun wc hG => clonePages_e _ _ (h.pages.good hG) pg_all (by omega)) (own_some pg_all (by omega)) ?_
  refine eCall (fun wc hG => cloneGuests_e _ _ (hg1.good hG) hgall (by omega)) (own_some hgall (by omega)) ?_
  refine eCall (fun wc hG => cloneSeats_e _ _ (h.on.good hG) st_all (by omega)) (own_some st_all (by omega)) ?_
  refine eNil ?_
  rintro _ _ hO _ _ hGu _ _ hPg
  obtain ⟨ob, ocap, oc, rfl, rfl, ro⟩ := hO.row (n := P.on.length) (by simp) (by have := hn.o0; omega)
  obtain ⟨gb, gcap, gc, rfl, rfl, rg⟩ := hGu.row (n := P.guests.length) (by simp) (by omega)
  obtain ⟨pb, pcap, pc, rfl, rfl, rp⟩ := hPg.row (n := P.pages.length) (by simp) (by have := hn.p0; omega)
  refine dBuild ?_
  refine dBuild ?_
  refine dNil ?_
  refine opsF ?_
  simp only [List.cons_append, List.nil_append]
  refine run ?_
  intro X
  refine run ?_
  refine loopS (σ := Nat × (Nat → GB) × Array Value) (fun s => [(24, .int .i64 (s.1 : Int))]) (fun s => ⟨X, #[.slice (some ⟨pb, 0, none⟩) P.pages.length pcap, .slice (some ⟨gb, 0, none⟩) P.guests.length gcap, .slice (some ⟨ob, 0, none⟩) P.on.length ocap], 66⟩ :: ⟨ob, oc, 59⟩ :: ⟨gb, s.2.2, 57⟩ :: ⟨pb, pc, 51⟩ :: ghs s.2.1 s.1)
    (fun s => s.1 ≤ 4 ∧ Row gb gcap s.2.2 5 P.guests.length ((List.range P.guests.length).map (gsRow P s.2.1)).flatten ∧ (∀ i, i < s.1 → Own 3 1 (s.2.1 i).vv (s.2.1 i).hv ((P.gs i).vcpus.map inV) ∧ Own 75 2 (s.2.1 i).mv (s.2.1 i).hm ((P.gs i).maps.map mpV)) ∧ ∀ i, s.1 ≤ i → i < 4 → (s.2.1 i).vv = vv i ∧ (s.2.1 i).mv = mv i) (fun s => 4 - s.1) (0, fun i => ⟨vv i, mv i, [], []⟩, gc) ⟨by simp, rg, fun i hi => absurd hi (by simp), fun i _ _ => ⟨rfl, rfl⟩⟩ ?_
  rintro ⟨k, G, gc⟩ m hm ⟨hk, hrow, hown, hold⟩
  dsimp only at hm hk hrow hown hold ⊢
  refine run ?_
  refine st_cond _ rfl (fun hc => ?_) (fun hc => ?_)
  · have hlt : k < 4 := by simp at hc; omega
    obtain ⟨hvk, hmk⟩ := hg2 k (by omega)
    have hat : ((List.range P.guests.length).map (gsRow P G))[k]? = some (gsRow P G k) := getD_range_map _ (by omega)
    have n3 := hrow.nth gs_len hat (k := 3) rfl
    have n4 := hrow.nth gs_len hat (k := 4) rfl
    rw [(hold k (Nat.le_refl _) hlt).1] at n3
    rw [(hold k (Nat.le_refl _) hlt).2] at n4
    refine run ?_
    refine late 14 1 ?_
    refine lateA 13 1 ?_
    refine lateA 12 1 ?_
    refine drawMA 12 [0, 1, 2, 3, 4, 5, 7, 8, 9, 10] [6, 11] [] ?_
    refine runS ?_
    have sv := (hs.vc k (by omega)).1
    have sm := (hs.vc k (by omega)).2
    refine eCall (fun wc hG => cloneInts_e _ _ (hvk.good hG) in_all (by simp; omega)) (own_some in_all (by simp; omega)) ?_
    refine eCall (fun wc hG => cloneMaps_e _ _ (hmk.good hG) mp_all (by simp; omega)) (own_some mp_all (by simp; omega)) ?_
    refine eNil ?_
    rintro mv' hm' hM vv' hv' hV
    simp only [DN]
    refine dNil ?_
    refine opsF ?_
    refine ops_perm ([_, _, _, _] ++ (ghs G k ++ (hv' ++ hm'))) ((List.Perm.append_left _ (List.Perm.append_left _ List.perm_append_comm)).trans (by rw [List.append_nil]; exact perm_out _ _ _)) ?_
    obtain ⟨q1, c1, rfl⟩ := hV.opened
    obtain ⟨q2, c2, rfl⟩ := hM.opened
    simp only [List.cons_append, List.nil_append]
    have hgz : 20 ≤ gc.size := by have := hrow.size; have := hrow.le; omega
    refine run ?_
    refine nextS (k + 1, updG G k ⟨(.slice q1 ((P.gs k).vcpus.map inV).length c1), (.slice q2 ((P.gs k).maps.map mpV).length c2), hv', hm'⟩, putAt gc (k * 5 + 3) [(.slice q1 ((P.gs k).vcpus.map inV).length c1), (.slice q2 ((P.gs k).maps.map mpV).length c2)]) ⟨by dsimp only; omega, gsRow_slices hrow (by omega) ⟨(.slice q1 ((P.gs k).vcpus.map inV).length c1), (.slice q2 ((P.gs k).maps.map mpV).length c2), hv', hm'⟩, fun i hi => ?_, fun i h1 h2 => ?_⟩ (h2 := ?_)
    · dsimp only at hi ⊢
      rcases Nat.lt_succ_iff_lt_or_eq.1 hi with hi | rfl
      · rw [updG_ne _ _ _ (by omega)]; exact hown i hi
      · rw [updG_self]; exact ⟨hV, hM⟩
    · dsimp only at h1 ⊢
      rw [updG_ne _ _ _ (by omega)]; exact hold i (by omega) h2
    · dsimp only
      rw [ghs, ghs_congr (G := G) k (fun i hi => updG_ne _ _ _ (by omega)), updG_self]
      simp only [putAt]
      (repeat (first | exact True.intro | exact HpLe.refl _ | (with_reducible exact HpLe.left _ _) | (with_reducible exact HpLe.right _ _) | (refine Exists.intro _ (And.intro (by first | exact p0 | exact p1 | exact p2 | exact p3 | exact p4 | exact p5) ?_)) | (with_reducible apply HpLe.app) | (with_reducible apply HpLe.skip)))
  have hk4 : k = 4 := by simp at hc; omega
  subst hk4
  refine run ?_
  refine fin1 ?_
  refine ⟨⟨pb, pcap, gb, gcap, ob, ocap, pc, gc, oc, G⟩, X, rfl, ⟨rp, hrow, ro, fun i hi => (hown i hi).1, fun i hi => (hown i hi).2, h.wf, hn, hs⟩, ?_⟩
  (repeat (first | exact True.intro | exact HpLe.refl _ | (with_reducible exact HpLe.left _ _) | (with_reducible exact HpLe.right _ _) | (refine Exists.intro _ (And.intro (by first | exact p0 | exact p1 | exact p2 | exact p3 | exact p4 | exact p5) ?_)) | (with_reducible apply HpLe.app) | (with_reducible apply HpLe.skip)))
end Go.Proofs.Ytjnndchkblnkgaa

/- Layer 18 (part): a partition copied by the reference. -/
namespace Go.Proofs.Ytjnndchkblnkgaa
open Go.RowKit
set_option linter.unusedVariables false
set_option linter.unusedSimpArgs false
set_option maxRecDepth 20000
attribute [local irreducible] Hy St Ops DH DHF
theorem take_next {α : Type} [Inhabited α] {xs : List α} {k : Nat} (h : k < xs.length) : xs.take (k + 1) = xs.take k ++ [xs.getD k default] := by
  rw [List.take_succ_eq_append_getElem h, List.getD_eq_getElem?_getD, List.getElem?_eq_getElem h]; rfl
end Go.Proofs.Ytjnndchkblnkgaa

/- Layer 18 (part): a partition of one's own is changed. -/
namespace Go.Proofs.Ytjnndchkblnkgaa
open Go.RowKit
set_option linter.unusedVariables false
set_option linter.unusedSimpArgs false
set_option maxRecDepth 20000
attribute [local irreducible] Hy St Ops DH DHF
namespace PtD
def setPg (P : PtD) (f : Nat) (x : PgD) : PtD := { P with pages := P.pages.set f x }
def setGs (P : PtD) (i : Nat) (g : GsD) : PtD := { P with guests := P.guests.set i g }
def setSt (P : PtD) (c : Nat) (s : StD) : PtD := { P with on := P.on.set c s }
variable (P : PtD)
theorem setPg_pg (f : Nat) (x : PgD) (hf : f < P.pages.length) (k : Nat) : (P.setPg f x).pg k = if k = f then x else P.pg k := by
  unfold setPg pg
  simp only [List.getD_eq_getElem?_getD, List.getElem?_set]
  by_cases h : f = k
  · subst h; simp [hf]
  · simp [h, Ne.symm h]
theorem setGs_gs (i : Nat) (g : GsD) (hi : i < P.guests.length) (k : Nat) : (P.setGs i g).gs k = if k = i then g else P.gs k := by
  unfold setGs gs
  simp only [List.getD_eq_getElem?_getD, List.getElem?_set]
  by_cases h : i = k
  · subst h; simp [hi]
  · simp [h, Ne.symm h]
theorem setSt_st (c : Nat) (s : StD) (hc : c < P.on.length) (k : Nat) : (P.setSt c s).st k = if k = c then s else P.st k := by
  unfold setSt st
  simp only [List.getD_eq_getElem?_getD, List.getElem?_set]
  by_cases h : c = k
  · subst h; simp [hc]
  · simp [h, Ne.symm h]
end PtD
theorem hle_of {h r : Hp} (hp : h.Perm r) : HpLe h r := hpLe_cnt fun a => by rw [cntB_perm hp]; exact Nat.le_refl _
theorem OwnP.setP {P : PtD} {Y : Lay} (h : OwnP P Y) {f : Nat} (hf : f < P.pages.length) (x : PgD) {pc : Array Value} (hr : Row Y.pb Y.pcap pc 2 P.pages.length ((P.pages.map pgV).set f (pgV x)).flatten) (hx : I64 x.own ∧ I64 x.wit) : OwnP (P.setPg f x) { Y with pc := pc } := by
  have hl : (P.setPg f x).pages.length = P.pages.length := by simp [PtD.setPg]
  refine ⟨?_, h.gs, h.on, h.vc, h.mp, ⟨fun k hk => ?_, h.wf.gs, h.wf.st⟩, ⟨by rw [hl]; exact h.n.p0, by rw [hl]; exact h.n.p1, h.n.g4, h.n.o0, h.n.o1⟩, ⟨by rw [hl]; exact h.sm.pg, h.sm.gs, h.sm.on, h.sm.vc⟩⟩
  · rw [hl]
    simpa [PtD.setPg, List.map_set] using hr
  · rw [hl] at hk
    rw [PtD.setPg_pg P f x hf]
    split
    · exact hx
    · exact h.wf.pg k hk
theorem OwnP.setS {P : PtD} {Y : Lay} (h : OwnP P Y) {c : Nat} (hc : c < P.on.length) (x : StD) {oc : Array Value} (hr : Row Y.ob Y.ocap oc 2 P.on.length ((P.on.map stV).set c (stV x)).flatten) (hx : I64 x.vm ∧ I64 x.cpu) : OwnP (P.setSt c x) { Y with oc := oc } := by
  have hl : (P.setSt c x).on.length = P.on.length := by simp [PtD.setSt]
  refine ⟨h.pg, h.gs, ?_, h.vc, h.mp, ⟨h.wf.pg, h.wf.gs, fun k hk => ?_⟩, ⟨h.n.p0, h.n.p1, h.n.g4, by rw [hl]; exact h.n.o0, by rw [hl]; exact h.n.o1⟩, ⟨h.sm.pg, h.sm.gs, by rw [hl]; exact h.sm.on, h.sm.vc⟩⟩
  · rw [hl]
    simpa [PtD.setSt, List.map_set] using hr
  · rw [hl] at hk
    rw [PtD.setSt_st P c x hc]
    split
    · exact hx
    · exact h.wf.st k hk
theorem OwnP.setG {P : PtD} {Y : Lay} (h : OwnP P Y) {i : Nat} (hi : i < 4) (g : GsD) (b : GB) {gc : Array Value} (hr : Row Y.gb Y.gcap gc 5 P.guests.length (((List.range P.guests.length).map (gsRow P Y.G)).set i [.bool g.live, .bool g.dying, .int .i64 g.first, b.vv, b.mv]).flatten)
    (hv : Own 3 1 b.vv b.hv (g.vcpus.map inV)) (hm : Own 75 2 b.mv b.hm (g.maps.map mpV)) (hw : I64 g.first ∧ (∀ x ∈ g.vcpus, I64 x) ∧ ∀ x ∈ g.maps, I64 x.mid ∧ I64 x.frm) (hs : g.vcpus.length ≤ 1000 ∧ g.maps.length ≤ 1000) : OwnP (P.setGs i g) { Y with gc := gc, G := updG Y.G i b } := by
  have g4 := h.n.g4
  have hl : (P.setGs i g).guests.length = P.guests.length := by simp [PtD.setGs]
  have hg : ∀ k, (P.setGs i g).gs k = if k = i then g else P.gs k := PtD.setGs_gs P i g (by omega)
  refine ⟨h.pg, ?_, h.on, fun k hk => ?_, fun k hk => ?_, ⟨h.wf.pg, fun k hk => ?_, h.wf.st⟩, ⟨h.n.p0, h.n.p1, by rw [hl]; exact g4, h.n.o0, h.n.o1⟩, ⟨h.sm.pg, by rw [hl]; exact h.sm.gs, h.sm.on, fun k hk => ?_⟩⟩
  · rw [hl]
    have e := set_map_range (f := gsRow P Y.G) (g := gsRow (P.setGs i g) (updG Y.G i b)) (n := P.guests.length) (k := i) (by omega) (fun j hj => by simp only [gsRow, updG_ne _ _ _ hj, hg j, if_neg hj])
    have e2 : gsRow (P.setGs i g) (updG Y.G i b) i = [.bool g.live, .bool g.dying, .int .i64 g.first, b.vv, b.mv] := by simp only [gsRow, updG_self, hg i, if_true]
    rw [e2] at e
    rw [← e]
    exact hr
  · show Own _ 1 (updG Y.G i b k).vv (updG Y.G i b k).hv _
    rw [hg k]
    by_cases hk' : k = i
    · subst hk'; rw [updG_self, if_pos rfl]; exact hv
    · rw [updG_ne _ _ _ hk', if_neg hk']; exact h.vc k hk
  · show Own _ 2 (updG Y.G i b k).mv (updG Y.G i b k).hm _
    rw [hg k]
    by_cases hk' : k = i
    · subst hk'; rw [updG_self, if_pos rfl]; exact hm
    · rw [updG_ne _ _ _ hk', if_neg hk']; exact h.mp k hk
  · rw [hl] at hk
    rw [hg k]
    split
    · exact hw
    · exact h.wf.gs k hk
  · rw [hl] at hk
    rw [hg k]
    split
    · exact hs
    · exact h.sm.vc k hk
/-- The blocks behind a pointer to it. -/
abbrev Lay.hd (Y : Lay) (P : PtD) (bx tx : Nat) : Hp := ⟨bx, #[Y.pv P, Y.gv P, Y.ov P], tx⟩ :: Y.in
theorem hdG (Y : Lay) (P : PtD) (i : Nat) (g : GsD) (gc : Array Value) (G : Nat → GB) (bx tx : Nat) : Lay.hd { Y with gc := gc, G := G } (P.setGs i g) bx tx = ⟨bx, #[Y.pv P, Y.gv P, Y.ov P], tx⟩ :: ⟨Y.pb, Y.pc, 51⟩ :: ⟨Y.gb, gc, 57⟩ :: ⟨Y.ob, Y.oc, 59⟩ :: ghs G 4 := by
  have : (P.setGs i g).guests.length = P.guests.length := by simp [PtD.setGs]
  simp only [Lay.hd, Lay.in, Lay.pv, Lay.gv, Lay.ov, this]
  rfl
theorem hdP (Y : Lay) (P : PtD) (f : Nat) (x : PgD) (pc : Array Value) (bx tx : Nat) : Lay.hd { Y with pc := pc } (P.setPg f x) bx tx = ⟨bx, #[Y.pv P, Y.gv P, Y.ov P], tx⟩ :: ⟨Y.pb, pc, 51⟩ :: ⟨Y.gb, Y.gc, 57⟩ :: ⟨Y.ob, Y.oc, 59⟩ :: ghs Y.G 4 := by
  have : (P.setPg f x).pages.length = P.pages.length := by simp [PtD.setPg]
  simp only [Lay.hd, Lay.in, Lay.pv, Lay.gv, Lay.ov, this]
  rfl
theorem hdS (Y : Lay) (P : PtD) (f : Nat) (x : StD) (oc : Array Value) (bx tx : Nat) : Lay.hd { Y with oc := oc } (P.setSt f x) bx tx = ⟨bx, #[Y.pv P, Y.gv P, Y.ov P], tx⟩ :: ⟨Y.pb, Y.pc, 51⟩ :: ⟨Y.gb, Y.gc, 57⟩ :: ⟨Y.ob, oc, 59⟩ :: ghs Y.G 4 := by
  have : (P.setSt f x).on.length = P.on.length := by simp [PtD.setSt]
  simp only [Lay.hd, Lay.in, Lay.pv, Lay.gv, Lay.ov, this]
  rfl
theorem hdY (Y : Lay) (P : PtD) (bx tx : Nat) : Lay.hd Y P bx tx = ⟨bx, #[Y.pv P, Y.gv P, Y.ov P], tx⟩ :: ⟨Y.pb, Y.pc, 51⟩ :: ⟨Y.gb, Y.gc, 57⟩ :: ⟨Y.ob, Y.oc, 59⟩ :: ghs Y.G 4 := rfl
/-- What a call answers: an error, or nothing and a partition. -/
def CallR (bx tx : Nat) (r : Except Int PtD) (u : Value) (hn : Hp) : Prop := match r with
  | .error e => u = .int .i64 e
  | .ok P => u = .int .i64 0 ∧ ∃ Y : Lay, OwnP P Y ∧ HpLe (Y.hd P bx tx) hn
section
variable {P : PtD} {Y : Lay} {bx tx : Nat} {w : World}
theorem guestO_e (h : OwnP P Y) (hh : Here (Y.hd P bx tx) w) {n : Int} (hn : 1 ≤ n ∧ n ≤ 4) : Fn Try.prog 51 [.pointer (some ⟨bx, 0, none⟩), .int .i64 n].toArray w [] (fun u _ => u = .pointer (some ⟨Y.gb, (n - 1).toNat * 5, none⟩)) := by
  refine Fn.mono (guest_e (h.partQ hh) (n - 1).toNat (by have := h.n.g4; omega) n (by omega)) fun v hp e => ?_
  rw [e]
  show Value.pointer (some ⟨Y.gb, 0 + (n - 1).toNat * 5, none⟩) = _
  rw [Nat.zero_add]
theorem Good.here' {w0 w : World} {mu : List Nat} {hp hi : Hp} (hG : Good w0 mu hp w) (hm : HpLe hi hp) : Here hi w := (hG.le hm).here
theorem OwnP.rowG (h : OwnP P Y) {i : Nat} (hi : i < 4) : ((List.range P.guests.length).map (gsRow P Y.G))[i]? = some [.bool (P.gs i).live, .bool (P.gs i).dying, .int .i64 (P.gs i).first, (Y.G i).vv, (Y.G i).mv] := getD_range_map _ (by have := h.n.g4; omega)
theorem OwnP.g0 (h : OwnP P Y) {i : Nat} (hi : i < 4) : nth Y.gc.toList (i * 5) = some (.bool (P.gs i).live) := h.gs.nth gs_len (h.rowG hi) (k := 0) rfl
theorem OwnP.g1 (h : OwnP P Y) {i : Nat} (hi : i < 4) : nth Y.gc.toList (i * 5 + 1) = some (.bool (P.gs i).dying) := h.gs.nth gs_len (h.rowG hi) (k := 1) rfl
theorem OwnP.g2 (h : OwnP P Y) {i : Nat} (hi : i < 4) : nth Y.gc.toList (i * 5 + 2) = some (.int .i64 (P.gs i).first) := h.gs.nth gs_len (h.rowG hi) (k := 2) rfl
theorem OwnP.g3 (h : OwnP P Y) {i : Nat} (hi : i < 4) : nth Y.gc.toList (i * 5 + 3) = some (Y.G i).vv := h.gs.nth gs_len (h.rowG hi) (k := 3) rfl
theorem OwnP.g4' (h : OwnP P Y) {i : Nat} (hi : i < 4) : nth Y.gc.toList (i * 5 + 4) = some (Y.G i).mv := h.gs.nth gs_len (h.rowG hi) (k := 4) rfl
theorem OwnP.p0' (h : OwnP P Y) {i : Nat} (hi : i < P.pages.length) : nth Y.pc.toList (i * 2) = some (.int .i64 (P.pg i).own) := h.pg.nth pg_len (pg_at hi) (k := 0) rfl
theorem OwnP.p1' (h : OwnP P Y) {i : Nat} (hi : i < P.pages.length) : nth Y.pc.toList (i * 2 + 1) = some (.int .i64 (P.pg i).wit) := h.pg.nth pg_len (pg_at hi) (k := 1) rfl
theorem OwnP.s0 (h : OwnP P Y) {i : Nat} (hi : i < P.on.length) : nth Y.oc.toList (i * 2) = some (.int .i64 (P.st i).vm) := h.on.nth st_len (st_at hi) (k := 0) rfl
theorem OwnP.s1 (h : OwnP P Y) {i : Nat} (hi : i < P.on.length) : nth Y.oc.toList (i * 2 + 1) = some (.int .i64 (P.st i).cpu) := h.on.nth st_len (st_at hi) (k := 1) rfl
theorem Row.cut {g cap sz n : Nat} {cur : Array Value} {xs : List (List Value)} (h : Row g cap cur sz n xs.flatten) (hall : ∀ c ∈ xs, c.length = sz) {i : Nat} {c : List Value} (hi : xs[i]? = some c) : (cur.toList.drop (i * sz)).take sz = c := by
  have hf := flatten_row hall hi
  rw [← h.take] at hf
  have hlt : i < xs.length := (List.getElem?_eq_some_iff.1 hi).1
  have hn : xs.length * sz = n * sz := by rw [← flatten_len xs hall, h.len]
  have hle : i * sz + sz ≤ n * sz := by rw [← hn, ← Nat.succ_mul]; exact Nat.mul_le_mul_right _ hlt
  rwa [List.drop_take, List.take_take, Nat.min_eq_left (by omega)] at hf
theorem OwnP.sRow (h : OwnP P Y) {i : Nat} (hi : i < P.on.length) : (Y.oc.toList.drop (i * 2)).take 2 = [.int .i64 (P.st i).vm, .int .i64 (P.st i).cpu] := h.on.cut st_len (st_at hi)
theorem OwnP.pRow (h : OwnP P Y) {i : Nat} (hi : i < P.pages.length) : (Y.pc.toList.drop (i * 2)).take 2 = [.int .i64 (P.pg i).own, .int .i64 (P.pg i).wit] := h.pg.cut pg_len (pg_at hi)
theorem OwnP.gRow (h : OwnP P Y) {i : Nat} (hi : i < 4) : (Y.gc.toList.drop (i * 5)).take 5 = [.bool (P.gs i).live, .bool (P.gs i).dying, .int .i64 (P.gs i).first, (Y.G i).vv, (Y.G i).mv] := h.gs.cut gs_len (h.rowG hi)
theorem OwnP.gsz (h : OwnP P Y) : 20 ≤ Y.gc.size := by have := h.gs.size; have := h.gs.le; have := h.n.g4; omega
theorem OwnP.psz (h : OwnP P Y) : P.pages.length * 2 ≤ Y.pc.size := by rw [h.pg.size]; exact Nat.mul_le_mul_right _ h.pg.le
theorem OwnP.osz (h : OwnP P Y) : P.on.length * 2 ≤ Y.oc.size := by rw [h.on.size]; exact Nat.mul_le_mul_right _ h.on.le
end
theorem ghs_upd (G : Nat → GB) {i : Nat} (hi : i < 4) : ∃ r, HpLe ((G i).hv ++ ((G i).hm ++ r)) (ghs G 4) ∧ ∀ vv mv hv hm, HpLe (ghs (updG G i ⟨vv, mv, hv, hm⟩) 4) (hv ++ (hm ++ r)) := by
  obtain ⟨r, hr⟩ := ghs_pick 4 G hi
  refine ⟨r, hle_of (hr G (fun _ _ => rfl)).symm, fun vv mv hv hm => ?_⟩
  have := hle_of (hr (updG G i ⟨vv, mv, hv, hm⟩) (fun j hj => updG_ne _ _ _ hj))
  rwa [updG_self] at this
/-- One element appended to a slice of one's own. -/
theorem appendW {n : Nat} {w0 : World} {mu : List Nat} {l : Fm} {hp : Hp} {Q : Exit → Fm → Hp → Prop} {all : Array Oper} {rest : List Oper} {ty : TypeId} {pos : String} {af : Array Edge} {t d e sz by_ cc a : Nat} {x y : Operand} {z v : Value} {c : List Value} {ha : Hp} {xs : List (List Value)} (hp' : Hp) (hA : Own e sz v ha xs) (h : ∀ v' ha', Own e sz v' ha' (xs ++ [c]) → Ops Try.prog n w0 mu all rest ((d, v') :: l) (ha' ++ hp') Q) (h63 : xs.length < 1000000) (hnews : NewsAt w0 mu hp a 0 c)
    (hperm : (ha ++ hp').Perm hp) (hd : Nat.blt d n = true := by rfl) (hx : ev l x = some v := by rfl) (hy : ev l y = some (.slice (some ⟨a, 0, none⟩) 1 cc) := by rfl) (ht : lk Tb.sl t = some (e, sz) := by rfl)
    (hz : lk Tb.zs e = some z := by rfl) (hzs : z.cells.size = sz := by rfl) (hb : lk Tb.eb e = some by_ := by rfl) (hby : Nat.ble by_ 4096 = true := by rfl) (hl : c.length = sz := by rfl) (h1 : c.all (·.oneCell') = true := by rfl) : Ops Try.prog n w0 mu all (⟨some d, .call { callee := .builtin .append, args := #[x, y], argTypes := #[t, t] }, ty, pos, af, none⟩ :: rest) l hp Q :=
  z_appendW tb_ok hA hd hx hy ht hz hzs hb hby hperm hl hnews h1 h63 h
/-! ### The small functions -/
theorem unless_e (b : Bool) (e : Int) (w : World) : Fn Try.prog 60 [.bool b, .int .i64 e].toArray w [] (fun u _ => u = .int .i64 (bif b then 0 else e)) := by
  refine enter Try.func60 ?_
  refine run ?_
  refine st_cond _ rfl (fun h => ?_) (fun h => ?_)
  · refine run ?_
    refine fin1 ?_
    rw [h]; rfl
  · refine run ?_
    refine fin1 ?_
    rw [h]; rfl
theorem machined_e (n : Int) (w : World) : Fn Try.prog 62 [.int .i64 n].toArray w [] (fun u _ => u = .int .i64 (bif PtD.btw n 1 4 then 0 else 2)) := by
  refine enter Try.func62 ?_
  refine run ?_
  refine callE (fun wc hG => between_e _ _ _ wc) ?_
  refine run ?_
  refine callE (fun wc hG => unless_e _ _ wc) ?_
  refine run ?_
  exact fin1 rfl
theorem middled_e (n : Int) (w : World) : Fn Try.prog 57 [.int .i64 n].toArray w [] (fun u _ => u = .int .i64 (bif PtD.btw n 0 15 then 0 else 2)) := by
  refine enter Try.func57 ?_
  refine run ?_
  refine callE (fun wc hG => between_e _ _ _ wc) ?_
  refine run ?_
  refine callE (fun wc hG => unless_e _ _ wc) ?_
  refine run ?_
  exact fin1 rfl
def firstL : List Int → Int
  | [] => 0
  | x :: r => bif decide (x = 0) then firstL r else x
theorem firstL_at : ∀ (l : List Int) (k : Nat), k < l.length → (∀ j, j < k → l.getD j 0 = 0) → l.getD k 0 ≠ 0 → firstL l = l.getD k 0 := by
  intro l
  induction l with
  | nil => intro k h; simp at h
  | cons x r ih =>
    intro k hk hj hn
    cases k with
    | zero => simp at hn ⊢; simp [firstL, hn]
    | succ k =>
      have h0 := hj 0 (by omega)
      simp at h0
      subst h0
      have := ih k (by simpa using hk) (fun j hj' => by have := hj (j + 1) (by omega); simpa using this) (by simpa using hn)
      simpa [firstL] using this
theorem firstL_none : ∀ (l : List Int), (∀ j, j < l.length → l.getD j 0 = 0) → firstL l = 0 := by
  intro l
  induction l with
  | nil => intro _; rfl
  | cons x r ih =>
    intro h
    have h0 := h 0 (by simp)
    simp at h0
    subst h0
    have := ih fun j hj => by have := h (j + 1) (by simpa using hj); simpa using this
    simpa [firstL] using this
theorem first_e {w : World} (xs : List Int) (v : Value) (h : SlAt w v 1 (xs.map inV)) : Fn Try.prog 59 [v].toArray w [] (fun u _ => u = .int .i64 (firstL xs)) := by
  obtain ⟨q, cap, rfl, hne, hle⟩ := h.opened
  refine enter Try.func59 ?_
  refine run ?_
  refine loopS (σ := Nat) (fun k => [(7, .int .i64 (k : Int))]) (fun _ => []) (fun k => k ≤ xs.length ∧ ∀ j, j < k → xs.getD j 0 = 0) (fun k => xs.length - k) 0 ⟨Nat.zero_le _, fun j hj => absurd hj (by omega)⟩ ?_
  rintro k m hm ⟨hk, hno⟩
  refine run ?_
  refine st_cond _ rfl (fun hc => ?_) (fun hc => ?_)
  · have hlt : k < xs.length := by simp at hc; omega
    obtain ⟨b, o, rfl⟩ := hne (by intro e; subst e; simp at hlt)
    have hr := rangeAt_cell0 (h.row hlt)
    simp only [Nat.mul_one] at hr
    have e0 : xs.getD k default = xs.getD k 0 := rfl
    rw [e0] at hr
    refine run ?_
    refine st_cond _ rfl (fun hp => ?_) (fun hp => ?_)
    · refine run ?_
      refine fin1 ?_
      rw [firstL_at xs k hlt hno (by simpa using hp)]
    · refine run ?_
      refine nextS (k + 1) ⟨hlt, fun j hj => ?_⟩
      rcases Nat.lt_succ_iff_lt_or_eq.1 hj with hj | rfl
      · exact hno j hj
      · simpa using hp
  · have hge : k = xs.length := by simp at hc; omega
    subst hge
    refine run ?_
    refine fin1 ?_
    rw [firstL_none xs hno]
/-- A literal slice of numbers, in a block of one's own. -/
theorem lits {w0 w : World} {mu : List Nat} {hp : Hp} (hG : Good w0 mu hp w) {b t n cap : Nat} {cs : Array Value} (hm : (⟨b, cs, t⟩ : Blk) ∈ hp) (xs : List Int) (hx : cs = ((xs.map inV).flatten).toArray) (hn : n = xs.length) (hl : xs.length ≤ 1000) : SlAt w (.slice (some ⟨b, 0, none⟩) n cap) 1 (xs.map inV) := by
  subst hx hn
  have := lie_rows (w := w) (cap := cap) (sz := 1) (xs := xs.map inV) (hG.here _ hm) (fun c hc => by obtain ⟨x, _, rfl⟩ := List.mem_map.1 hc; rfl) (by rw [List.length_map]; omega)
  rwa [List.length_map] at this
section
variable {P : PtD} {Y : Lay} {bx tx : Nat} {w : World}
theorem framed_e (h : OwnP P Y) (hh : Here (Y.hd P bx tx) w) (f : Int) : Fn Try.prog 61 [.pointer (some ⟨bx, 0, none⟩), .int .i64 f].toArray w [] (fun u _ => u = .int .i64 (bif PtD.btw f 16 ((P.pages.length : Int) - 1) then 0 else 2)) := by
  have hc := (h.partQ hh).cp
  have := h.n.p1
  refine enter Try.func61 ?_
  refine run ?_
  refine callE (fun wc hG => between_e _ _ _ wc) ?_
  refine run ?_
  refine callE (fun wc hG => unless_e _ _ wc) ?_
  refine run ?_
  exact fin1 rfl
end
end Go.Proofs.Ytjnndchkblnkgaa

/- Layer 18 (part): calls: a virtual processor more, run, stop. -/
namespace Go.Proofs.Ytjnndchkblnkgaa
open Go.RowKit
set_option linter.unusedVariables false
set_option linter.unusedSimpArgs false
set_option maxRecDepth 20000
attribute [local irreducible] Hy St Ops DH DHF
/-- A call. -/
structure ClD where
  kind : Int
  vm : Int
  frame : Int
  mid : Int
  vcpu : Int
  ccpu : Int
abbrev clV (c : ClD) : Value := .agg #[.int .i64 c.kind, .int .i64 c.vm, .int .i64 c.frame, .int .i64 c.mid, .int .i64 c.vcpu, .int .i64 c.ccpu]
structure ClD.Wf (c : ClD) : Prop where
  vm : I64 c.vm
  frame : I64 c.frame
  mid : I64 c.mid
  vcpu : I64 c.vcpu
/-- A guest's place by its number. -/
def ix (n : Int) : Nat := (n - 1).toNat
theorem ix_lt {n : Int} (h : 1 ≤ n ∧ n ≤ 4) : ix n < 4 := by unfold ix; omega
namespace PtD
def moreL (P : PtD) (vm : Int) : Except Int PtD :=
  bif !btw vm 1 4 then .error 2 else bif !(P.gs (ix vm)).live then .error 3 else bif decide (2 ≤ (P.gs (ix vm)).vcpus.length) then .error 5
  else .ok (P.setGs (ix vm) { P.gs (ix vm) with vcpus := (P.gs (ix vm)).vcpus ++ [-1] })
end PtD
section
variable {P : PtD} {Y : Lay} {bx tx : Nat} {w : World}
theorem more_e (h : OwnP P Y) (hN : HereN (Y.hd P bx 66) w) (c : ClD) : Fn Try.prog 48 [.pointer (some ⟨bx, 0, none⟩), clV c].toArray w ((Y.hd P bx 66).map (·.b)) (CallR bx 66 (P.moreL c.vm)) := by
  refine enterM _ hN Try.func48 ?_
  refine run ?_
  intro B
  refine run ?_
  refine callE (fun wc hG => machined_e _ wc) ?_
  cases hb : PtD.btw c.vm 1 4
  · refine runC ?_
    refine fin1 ?_
    simp [CallR, PtD.moreL, hb]
  refine runC ?_
  have hb' := hb
  simp only [PtD.btw, Bool.and_eq_true, decide_eq_true_eq] at hb'
  have hi : ix c.vm < 4 := ix_lt hb'
  refine callE (fun wc hG => guestO_e (bx := bx) (tx := 66) h (hG.here' (by (refine hpLe_cnt fun a => ?_; simp only [cntB_app, cntB_cons, cntB_nil]; omega))) hb') ?_
  obtain ⟨i, hi'⟩ : ∃ i, i = ix c.vm := ⟨_, rfl⟩
  rw [← hi'] at hi
  rw [show (c.vm - 1).toNat = i from hi'.symm]
  obtain ⟨q, cap, ev⟩ := (h.vc i hi).opened
  have n0 := h.g0 hi
  have n3 := h.g3 hi
  rw [ev, List.length_map] at n3
  have hz := h.gsz
  refine run ?_
  refine drawN 12 ?_
  refine runD ?_
  refine callD (fun wc hG => unless_e _ _ wc) ?_
  refine runD ?_
  refine callD (fun wc hG => unless_e _ _ wc) ?_
  refine runD ?_
  refine run ?_
  intro F
  refine callE (fun wc hG => first_e [_, _] _ (lits hG mh [_, _] rfl rfl (by simp))) ?_
  have key : P.moreL c.vm = bif decide (firstL [bif (P.gs i).live then 0 else 3, bif decide (((P.gs i).vcpus.length : Int) < 2) then 0 else 5] = 0) then .ok (P.setGs i { P.gs i with vcpus := (P.gs i).vcpus ++ [-1] }) else .error (firstL [bif (P.gs i).live then 0 else 3, bif decide (((P.gs i).vcpus.length : Int) < 2) then 0 else 5]) := by
    have e : decide (((P.gs i).vcpus.length : Int) < 2) = !decide (2 ≤ (P.gs i).vcpus.length) := by rw [Bool.eq_iff_iff]; simp; omega
    rw [e, PtD.moreL, hb, ← hi']
    cases (P.gs i).live <;> cases decide (2 ≤ (P.gs i).vcpus.length) <;> rfl
  generalize hE : firstL [bif (P.gs i).live then 0 else 3, bif decide (((P.gs i).vcpus.length : Int) < 2) then 0 else 5] = E at key
  refine run ?_
  refine st_cond _ rfl (fun hp => ?_) (fun hp => ?_)
  · refine run ?_
    refine fin1 ?_
    simp at hp
    rw [key]
    simp [CallR, hp]
  simp only [Bool.not_eq_false', decide_eq_true_eq] at hp
  subst hp
  have hlen : (P.gs i).vcpus.length < 2 := by
    cases hl : (P.gs i).live <;> cases hd : decide (((P.gs i).vcpus.length : Int) < 2) <;> rw [hl, hd] at hE <;> simp [firstL] at hE
    simp at hd; omega
  refine run ?_
  intro T
  obtain ⟨r, g1, g2⟩ := ghs_upd Y.G hi
  have hA := h.vc i hi
  rw [ev, List.length_map] at hA
  refine ops_le (⟨T, #[.int .i64 (-1)], 3⟩ :: ⟨Y.gb, Y.gc, 57⟩ :: ⟨bx, #[Y.pv P, Y.gv P, Y.ov P], 66⟩ :: ⟨Y.pb, Y.pc, 51⟩ :: ⟨Y.ob, Y.oc, 59⟩ :: ((Y.G i).hv ++ ((Y.G i).hm ++ r))) (by (refine hpLe_cnt fun a => ?_; have := HpLe.cnt g1 a; simp only [cntB_app, cntB_cons, cntB_nil] at *; omega)) ?_
  refine appendW (c := inV (-1)) (⟨T, #[.int .i64 (-1)], 3⟩ :: ⟨Y.gb, Y.gc, 57⟩ :: ⟨bx, #[Y.pv P, Y.gv P, Y.ov P], 66⟩ :: ⟨Y.pb, Y.pc, 51⟩ :: ⟨Y.ob, Y.oc, 59⟩ :: ((Y.G i).hm ++ r)) hA (fun v' ha' hA' => ?_) (by simp; omega) (news_own (m := 1) mh rfl) (by (refine perm_cnt fun a => ?_; simp only [cntB_app, cntB_cons, cntB_nil]; omega))
  obtain ⟨q', cap', ev'⟩ := hA'.opened
  subst ev'
  refine ops_perm (_ ++ ha') List.perm_append_comm ?_
  simp only [List.cons_append]
  refine run ?_
  refine fin1 ?_
  rw [key]
  have hf := (h.wf.gs i (by have := h.n.g4; omega))
  have hs := h.sm.vc i (by have := h.n.g4; omega)
  refine ⟨rfl, _, h.setG hi { P.gs i with vcpus := (P.gs i).vcpus ++ [-1] } ⟨(.slice q' ((P.gs i).vcpus.map inV ++ [inV (-1)]).length cap'), (Y.G i).mv, ha', (Y.G i).hm⟩ (h.gs.put gs_len (h.rowG hi) (k := 3) (vs := [_]) (by simp)) (by rw [List.map_append]; exact hA') (h.mp i hi) ⟨hf.1, fun x hx => ?_, hf.2.2⟩ ⟨by simp; omega, hs.2⟩, ?_⟩
  · rcases List.mem_append.1 hx with hx | hx
    · exact hf.2.1 x hx
    · simp at hx; subst hx; exact ⟨by decide, by decide⟩
  · have g3 := g2 (.slice q' ((P.gs i).vcpus.map inV ++ [inV (-1)]).length cap') (Y.G i).mv ha' (Y.G i).hm
    rw [hdG]
    simp only [putAt]
    (refine hpLe_cnt fun a => ?_; have := HpLe.cnt g3 a; simp only [cntB_app, cntB_cons, cntB_nil] at *; omega)
end
end Go.Proofs.Ytjnndchkblnkgaa

/- Layer 18 (part): Do, whatever the call: by what the call makes of an own partition. -/
namespace Go.Proofs.Ytjnndchkblnkgaa
open Go.RowKit
set_option linter.unusedVariables false
set_option linter.unusedSimpArgs false
set_option maxRecDepth 20000
attribute [local irreducible] Hy St Ops DH DHF
/-- What Do answers. -/
def DoR (r : Except Int PtD) (u : Value) (hn : Hp) : Prop := match r with
  | .error e => u = .tuple #[.agg #[.slice none 0 0, .slice none 0 0, .slice none 0 0], .int .i64 e]
  | .ok P => ∃ Y : Lay, u = .tuple #[.agg #[Y.pv P, Y.gv P, Y.ov P], .int .i64 0] ∧ OwnP P Y ∧ HpLe Y.in hn
section
variable {P : PtD} {w : World} {pv gv ov : Value}
theorem check_e (h : PartG w pv gv ov P) : Fn Try.prog 21 [.agg #[pv, gv, ov]].toArray w [] (fun u _ => u = .int .i64 (bif P.may then 0 else 1)) := by
  obtain ⟨p, pc, g, gc, o, oc, rfl, rfl, rfl, _⟩ := h.slices
  refine enter Try.func21 ?_
  refine run ?_
  intro B X
  refine callE (fun wc hG => mayB_e h hG mh) ?_
  refine run ?_
  refine st_cond _ rfl (fun hc => ?_) (fun hc => ?_)
  · refine run ?_
    refine fin1 ?_
    simp at hc; rw [hc]; rfl
  · refine run ?_
    refine fin1 ?_
    simp at hc; rw [hc]; rfl
set_option maxHeartbeats 4000000 in
theorem partDo_e (h : PartG w pv gv ov P) (hs : P.Small 1000) (cpu : Nat) (hc : cpu < P.on.length) (c : ClD) (r : Except Int PtD) (hr : ∀ e, r = .error e → e ≠ 0)
    (hH : P.may = true → (P.st cpu).vm = 0 → ∀ Y bx w, OwnP P Y → HereN (Y.hd P bx 66) w → Fn Try.prog 25 [.pointer (some ⟨bx, 0, none⟩), .int .i64 (cpu : Int), clV c].toArray w ((Y.hd P bx 66).map (·.b)) (CallR bx 66 r))
    (hU : P.may = true → (P.st cpu).vm ≠ 0 → ∀ Y bx w, OwnP P Y → HereN (Y.hd P bx 66) w → Fn Try.prog 24 [.pointer (some ⟨bx, 0, none⟩), .int .i64 (cpu : Int), clV c].toArray w ((Y.hd P bx 66).map (·.b)) (CallR bx 66 r)) :
    Fn Try.prog 8 [.agg #[pv, gv, ov], .int .i64 (cpu : Int), clV c].toArray w [] (DoR (bif P.may then r else .error 1)) := by
  obtain ⟨p, pc, g, gc, o, oc, rfl, rfl, rfl, _⟩ := h.slices
  have hlo := hs.on
  refine enter Try.func8 ?_
  refine run ?_
  intro B C R
  refine run ?_
  refine callE (fun wc hG => check_e (h.good hG)) ?_
  cases hm : P.may
  · refine runC ?_
    refine finA1 ?_
    rfl
  have hb : PtD.btw (cpu : Int) 0 ((P.on.length : Int) - 1) = true := by simp only [PtD.btw, Bool.and_eq_true, decide_eq_true_eq]; omega
  refine runC ?_
  refine callEG (fun hg wc hG => between_e _ _ _ wc) ?_
  rw [hb]
  refine runC ?_
  refine callB (fun wc hG => copied_e (h.good hG) (may_len hm) hs) ?_
  rintro _ hn ⟨Y, bx, rfl, hO, hle⟩
  refine ops_le (⟨R, #[.slice none 0 0, .slice none 0 0, .slice none 0 0], 26⟩ :: ⟨C, #[.int .i64 c.kind, .int .i64 c.vm, .int .i64 c.frame, .int .i64 c.mid, .int .i64 c.vcpu, .int .i64 c.ccpu], 37⟩ :: ⟨B, #[.slice p P.pages.length pc, .slice g P.guests.length gc, .slice o P.on.length oc], 26⟩ :: Y.hd P bx 66) (by rw [hdY]; (refine hpLe_cnt fun a => ?_; have := HpLe.cnt hle a; simp only [cntB_app, cntB_cons, cntB_nil] at *; omega)) ?_
  obtain ⟨L, e1, e2, e3, hV⟩ := h.open (may_len hm)
  cases e1
  cases e2
  cases e3
  have hst := hV.st0 hc
  refine runC ?_
  refine st_cond _ rfl (fun hv => ?_) (fun hv => ?_)
  · simp only [decide_eq_true_eq] at hv
    refine runC ?_
    refine callFM (fs := [.pointer (some ⟨bx, 0, none⟩)]) (vs := [.int .i64 (cpu : Int), clV c]) (us := []) (Y.hd P bx 66) [⟨R, #[.slice none 0 0, .slice none 0 0, .slice none 0 0], 26⟩, ⟨C, #[.int .i64 c.kind, .int .i64 c.vm, .int .i64 c.frame, .int .i64 c.mid, .int .i64 c.vcpu, .int .i64 c.ccpu], 37⟩, ⟨B, #[.slice (some ⟨L.pb, L.po, none⟩) P.pages.length L.pc, .slice (some ⟨L.gb, L.go, none⟩) P.guests.length L.gc, .slice (some ⟨L.ob, L.oo, none⟩) P.on.length L.oc], 26⟩] (fun wc hG => hH hm hv Y bx wc hO hG.hereN) (fun v hn2 hR => ?_) (by rw [hdY]; (refine perm_cnt fun a => ?_; simp only [cntB_app, cntB_cons, cntB_nil]; omega))
    cases hrr : r with
    | error e =>
      rw [hrr] at hR
      obtain rfl : v = .int .i64 e := hR
      have he : decide (e = 0) = false := by simp [hr e hrr]
      refine ops_le [⟨R, #[.slice none 0 0, .slice none 0 0, .slice none 0 0], 26⟩] (by (refine hpLe_cnt fun a => ?_; simp only [cntB_app, cntB_cons, cntB_nil]; omega)) ?_
      refine run ?_
      refine st_cond _ rfl (fun hp => ?_) (fun hp => by rw [he] at hp; cases hp)
      refine run ?_
      refine finA1 ?_
      rfl
    | ok P' =>
      rw [hrr] at hR
      obtain ⟨rfl, Y', hO', hle'⟩ := hR
      refine ops_le (⟨R, #[.slice none 0 0, .slice none 0 0, .slice none 0 0], 26⟩ :: Y'.hd P' bx 66) (by rw [hdY]; rw [hdY] at hle'; (refine hpLe_cnt fun a => ?_; have := HpLe.cnt hle' a; simp only [cntB_app, cntB_cons, cntB_nil] at *; omega)) ?_
      refine runC ?_
      refine finA1 ?_
      refine ⟨Y', rfl, hO', ?_⟩
      simp only [hdY]
      (refine hpLe_cnt fun a => ?_; simp only [cntB_app, cntB_cons, cntB_nil]; omega)
  · simp only [decide_eq_false_iff_not] at hv
    refine runC ?_
    refine callFM (fs := [.pointer (some ⟨bx, 0, none⟩)]) (vs := [.int .i64 (cpu : Int), clV c]) (us := []) (Y.hd P bx 66) [⟨R, #[.slice none 0 0, .slice none 0 0, .slice none 0 0], 26⟩, ⟨C, #[.int .i64 c.kind, .int .i64 c.vm, .int .i64 c.frame, .int .i64 c.mid, .int .i64 c.vcpu, .int .i64 c.ccpu], 37⟩, ⟨B, #[.slice (some ⟨L.pb, L.po, none⟩) P.pages.length L.pc, .slice (some ⟨L.gb, L.go, none⟩) P.guests.length L.gc, .slice (some ⟨L.ob, L.oo, none⟩) P.on.length L.oc], 26⟩] (fun wc hG => hU hm hv Y bx wc hO hG.hereN) (fun v hn2 hR => ?_) (by rw [hdY]; (refine perm_cnt fun a => ?_; simp only [cntB_app, cntB_cons, cntB_nil]; omega))
    cases hrr : r with
    | error e =>
      rw [hrr] at hR
      obtain rfl : v = .int .i64 e := hR
      have he : decide (e = 0) = false := by simp [hr e hrr]
      refine ops_le [⟨R, #[.slice none 0 0, .slice none 0 0, .slice none 0 0], 26⟩] (by (refine hpLe_cnt fun a => ?_; simp only [cntB_app, cntB_cons, cntB_nil]; omega)) ?_
      refine run ?_
      refine st_cond _ rfl (fun hp => ?_) (fun hp => by rw [he] at hp; cases hp)
      refine run ?_
      refine finA1 ?_
      rfl
    | ok P' =>
      rw [hrr] at hR
      obtain ⟨rfl, Y', hO', hle'⟩ := hR
      refine ops_le (⟨R, #[.slice none 0 0, .slice none 0 0, .slice none 0 0], 26⟩ :: Y'.hd P' bx 66) (by rw [hdY]; rw [hdY] at hle'; (refine hpLe_cnt fun a => ?_; have := HpLe.cnt hle' a; simp only [cntB_app, cntB_cons, cntB_nil] at *; omega)) ?_
      refine runC ?_
      refine finA1 ?_
      refine ⟨Y', rfl, hO', ?_⟩
      simp only [hdY]
      (refine hpLe_cnt fun a => ?_; simp only [cntB_app, cntB_cons, cntB_nil]; omega)
end
end Go.Proofs.Ytjnndchkblnkgaa

/- Layer 18 (part): PartAsks walks. -/
namespace Go.Proofs.Ytjnndchkblnkgaa
open Go.RowKit
set_option linter.unusedVariables false
set_option linter.unusedSimpArgs false
set_option maxRecDepth 20000
attribute [local irreducible] Hy St Ops DH DHF
/-- An act. -/
structure ActD where
  cpu : Int
  kind : Int
  vm : Int
  frame : Int
  mid : Int
  vcpu : Int
  ccpu : Int
  stop : Bool
deriving Inhabited
def actV (x : ActD) : List Value := [.int .i64 x.cpu, .int .i64 x.kind, .int .i64 x.vm, .int .i64 x.frame, .int .i64 x.mid, .int .i64 x.vcpu, .int .i64 x.ccpu, .bool x.stop]
structure ActD.Wf (x : ActD) : Prop where
  cpu : I64 x.cpu
  kind : I64 x.kind
  vm : I64 x.vm
  frame : I64 x.frame
  mid : I64 x.mid
  vcpu : I64 x.vcpu
  ccpu : I64 x.ccpu
/-- A script: a partition, acts. -/
structure ScrG (w : World) (v : Value) (P : PtD) (A : List ActD) : Prop where
  is : ∃ pv gv ov lv, v = .agg #[pv, gv, ov, lv] ∧ PartG w pv gv ov P ∧ SlAt w lv 8 (A.map actV)
  wf : ∀ x ∈ A, x.Wf
theorem here_no (w : World) : ¬ Here [⟨0, #[], 0⟩, ⟨0, #[.bool true], 0⟩] w := fun hw => by
  have h1 := hw _ (List.mem_cons_self ..)
  have h2 := hw _ (List.mem_cons_of_mem _ (List.mem_cons_self ..))
  rw [h1] at h2
  simp at h2
theorem slAt_nil (w : World) (sz : Nat) : SlAt w (.slice none 0 0) sz [] := ⟨⟨none, 0, rfl, fun h => absurd rfl h⟩, by simp⟩
theorem partG_nil (w : World) : PartG w (.slice none 0 0) (.slice none 0 0) (.slice none 0 0) ⟨[], [], []⟩ :=
  ⟨slAt_nil w 2, ⟨fun _ => .slice none 0 0, fun _ => .slice none 0 0, slAt_nil w 5, fun i hi => absurd hi (by simp)⟩, slAt_nil w 2, ⟨fun f hf => absurd hf (by simp), fun i hi => absurd hi (by simp), fun c hc => absurd hc (by simp)⟩⟩
theorem bootR_some (f c : Int) : ∃ v hn, BootR f c v hn := by
  cases h : mayBoot f c
  · exact ⟨_, [], by rw [BootR, h]; rfl⟩
  · refine ⟨.tuple #[.agg #[.bool true, .bool true, .bool true], .int .i64 0], [⟨0, #[], 0⟩, ⟨0, #[.bool true], 0⟩], ?_⟩
    rw [BootR, h]
    refine ⟨_, _, _, rfl, fun w hw => ?_⟩
    have h1 := hw _ (List.mem_cons_self ..)
    have h2 := hw _ (List.mem_cons_of_mem _ (List.mem_cons_self ..))
    rw [h1] at h2
    simp at h2
theorem BootR.cases {f c : Int} {v : Value} {hn : Hp} (h : BootR f c v hn) : (mayBoot f c = true ∧ ∃ pv gv ov, v = .tuple #[.agg #[pv, gv, ov], .int .i64 0] ∧ ∀ w, Here hn w → PartG w pv gv ov (bootL f.toNat c.toNat)) ∨ (mayBoot f c = false ∧ v = .tuple #[.agg #[.slice none 0 0, .slice none 0 0, .slice none 0 0], .int .i64 1]) := by
  unfold BootR at h
  cases hm : mayBoot f c with
  | true => rw [hm] at h; exact .inl ⟨rfl, h⟩
  | false => rw [hm] at h; exact .inr ⟨rfl, h⟩
end Go.Proofs.Ytjnndchkblnkgaa

/- Layer 18 (part): the ways of a call of a virtual processor more. -/
namespace Go.Proofs.Ytjnndchkblnkgaa
open Go.RowKit
set_option linter.unusedVariables false
set_option linter.unusedSimpArgs false
set_option maxRecDepth 20000
attribute [local irreducible] Hy St Ops DH DHF
theorem CallR.le {bx tx : Nat} {r : Except Int PtD} {v : Value} {hn hn' : Hp} (h : CallR bx tx r v hn) (hl : HpLe hn hn') : CallR bx tx r v hn' := by
  cases r with
  | error e => exact h
  | ok P => obtain ⟨e, Y, hO, hle⟩ := h; exact ⟨e, Y, hO, hpLe_cnt fun a => Nat.le_trans (hle.cnt a) (hl.cnt a)⟩
theorem may_seat {P : PtD} (hm : P.may = true) {cpu : Nat} (hc : cpu < P.on.length) (hv : (P.st cpu).vm ≠ 0) : 1 ≤ (P.st cpu).vm ∧ (P.st cpu).vm ≤ 4 ∧ (P.gs (ix (P.st cpu).vm)).live = true ∧ 0 ≤ (P.st cpu).cpu ∧ (P.st cpu).cpu.toNat < (P.gs (ix (P.st cpu).vm)).vcpus.length ∧ (P.gs (ix (P.st cpu).vm)).vcpus.getD (P.st cpu).cpu.toNat 0 = (cpu : Int) := by
  have h := (PtD.may_ok.1 hm).seat cpu hc
  simp only [PtD.seated, hv, decide_false, cond_false, PtD.lives, PtD.btw, Bool.and_eq_true, decide_eq_true_eq] at h
  obtain ⟨⟨⟨⟨h1, h2⟩, h3⟩, h4, h5⟩, h6⟩ := h
  exact ⟨h1, h2, h3, h4, by unfold ix; omega, h6⟩
section
variable {P : PtD} {Y : Lay} {bx : Nat} {w : World}
/-- A call of the host's, handed to its own function. -/
theorem hostCallVcpu_e (h : OwnP P Y) (hN : HereN (Y.hd P bx 66) w) (cpu vm fr mid vc cc : Int) : Fn Try.prog 25 [.pointer (some ⟨bx, 0, none⟩), .int .i64 cpu, clV ⟨7, vm, fr, mid, vc, cc⟩].toArray w ((Y.hd P bx 66).map (·.b)) (CallR bx 66 (P.moreL vm)) := by
  refine enterM _ hN Try.func25 ?_
  refine run ?_
  intro C
  refine runC ?_
  refine callM (Y.hd P bx 66) [⟨C, #[.int .i64 7, .int .i64 vm, .int .i64 fr, .int .i64 mid, .int .i64 vc, .int .i64 cc], 37⟩] (fun wc hG => more_e h hG.hereN ⟨7, vm, fr, mid, vc, cc⟩) (fun v hn hR => ?_) (by rw [hdY]; (refine perm_cnt fun a => ?_; simp only [cntB_app, cntB_cons, cntB_nil]; omega))
  refine runC ?_
  refine fin1 ?_
  exact hR.le (by (refine hpLe_cnt fun a => ?_; simp only [cntB_app, cntB_cons, cntB_nil]; omega))
/-- A call of a guest's that is none. -/
theorem guestCallBad_e (h : OwnP P Y) (hN : HereN (Y.hd P bx 66) w) (k vm fr mid vc cc : Int) (cpu : Nat) (hc : cpu < P.on.length) (h10 : decide (k = 10) = false) (h11 : decide (k = 11) = false) (h9 : decide (k = 9) = false) : Fn Try.prog 24 [.pointer (some ⟨bx, 0, none⟩), .int .i64 (cpu : Int), clV ⟨k, vm, fr, mid, vc, cc⟩].toArray w ((Y.hd P bx 66).map (·.b)) (CallR bx 66 (.error 9)) := by
  have hs0 := h.s0 hc
  refine enterM _ hN Try.func24 ?_
  refine run ?_
  intro C
  refine runC ?_
  refine st_cond _ rfl (fun hp => by rw [h10] at hp; cases hp) (fun _ => ?_)
  refine runC ?_
  refine st_cond _ rfl (fun hp => by rw [h11] at hp; cases hp) (fun _ => ?_)
  refine runC ?_
  refine st_cond _ rfl (fun hp => by rw [h9] at hp; cases hp) (fun _ => ?_)
  refine runC ?_
  refine fin1 ?_
  rfl
end
end Go.Proofs.Ytjnndchkblnkgaa

/- Layer 18 (part): calls of one kind, whatever it is. -/
namespace Go.Proofs.Ytjnndchkblnkgaa
open Go.RowKit
set_option linter.unusedVariables false
set_option linter.unusedSimpArgs false
set_option maxRecDepth 20000
attribute [local irreducible] Hy St Ops DH DHF
theorem rangeAt_sub {w : World} {b o k n : Nat} {vs us : List Value} (h : w.rangeAt b o vs) (hu : (vs.drop k).take n = us) : w.rangeAt b (o + k) us := by
  intro j u hj
  subst hu
  rw [List.getElem?_take] at hj
  split at hj
  · rw [List.getElem?_drop] at hj
    rw [Nat.add_assoc]
    exact h (k + j) u hj
  · cases hj
theorem ScrG.good {w w' : World} {hp : Hp} {v : Value} {P : PtD} {A : List ActD} (h : ScrG w v P A) (hG : Good w [] hp w') : ScrG w' v P A := by
  obtain ⟨⟨pv, gv, ov, lv, e, hp, hl⟩, hwf⟩ := h
  exact ⟨⟨pv, gv, ov, lv, e, hp.good hG, hl.good hG⟩, hwf⟩
end Go.Proofs.Ytjnndchkblnkgaa

/- Layer 18 (part): a script, opened out of any argument. -/
namespace Go.Proofs.Ytjnndchkblnkgaa
open Go.ChangeShapes Go.WideShapes Go.ChangeAt Go.RowKit
set_option linter.unusedVariables false
set_option linter.unusedSimpArgs false
set_option maxRecDepth 20000
theorem i64_wf {n : Int} (h : (Lit.int .i64 n).wf = true) : I64 n := by
  simp only [Lit.wf, Bool.and_eq_true, decide_eq_true_eq] at h
  exact ⟨Int.le_trans (by decide) h.1, Int.le_trans h.2 (by decide)⟩
theorem okW_i {v : Value} (h : okW (.i .i64) v = true) : ∃ a, v = .int .i64 a ∧ I64 a := by
  cases v <;> simp only [okW, Bool.and_eq_true, decide_eq_true_eq, Bool.false_eq_true] at h
  obtain ⟨rfl, h⟩ := h
  exact ⟨_, rfl, i64_wf h⟩
theorem okW_b {v : Value} (h : okW .b v = true) : ∃ a, v = .bool a := by
  cases v <;> simp only [okW, Bool.false_eq_true] at h
  exact ⟨_, rfl⟩
theorem okLvW_cons {k : Leaf} {ks : List Leaf} {cs : List Value} (h : okLvW (k :: ks) cs = true) : ∃ v r, cs = v :: r ∧ okW k v = true ∧ okLvW ks r = true := by
  cases cs with
  | nil => cases h
  | cons v r => simp only [okLvW, Bool.and_eq_true] at h; exact ⟨v, r, rfl, h⟩
theorem okLvW_nil {cs : List Value} (h : okLvW [] cs = true) : cs = [] := by cases cs with | nil => rfl | cons _ _ => cases h
theorem ints2_of {cs : List Value} (h : okLvW [.i .i64, .i .i64] cs = true) : ∃ a b, cs = [.int .i64 a, .int .i64 b] ∧ I64 a ∧ I64 b := by
  obtain ⟨_, _, rfl, h1, h⟩ := okLvW_cons h
  obtain ⟨_, _, rfl, h2, h⟩ := okLvW_cons h
  obtain rfl := okLvW_nil h
  obtain ⟨a, rfl, ha⟩ := okW_i h1
  obtain ⟨b, rfl, hb⟩ := okW_i h2
  exact ⟨a, b, rfl, ha, hb⟩
theorem act_of {cs : List Value} (h : okLvW [.i .i64, .i .i64, .i .i64, .i .i64, .i .i64, .i .i64, .i .i64, .b] cs = true) : ∃ x : ActD, cs = actV x ∧ x.Wf := by
  obtain ⟨_, _, rfl, h1, h⟩ := okLvW_cons h
  obtain ⟨_, _, rfl, h2, h⟩ := okLvW_cons h
  obtain ⟨_, _, rfl, h3, h⟩ := okLvW_cons h
  obtain ⟨_, _, rfl, h4, h⟩ := okLvW_cons h
  obtain ⟨_, _, rfl, h5, h⟩ := okLvW_cons h
  obtain ⟨_, _, rfl, h6, h⟩ := okLvW_cons h
  obtain ⟨_, _, rfl, h7, h⟩ := okLvW_cons h
  obtain ⟨_, _, rfl, h8, h⟩ := okLvW_cons h
  obtain rfl := okLvW_nil h
  obtain ⟨a1, rfl, b1⟩ := okW_i h1
  obtain ⟨a2, rfl, b2⟩ := okW_i h2
  obtain ⟨a3, rfl, b3⟩ := okW_i h3
  obtain ⟨a4, rfl, b4⟩ := okW_i h4
  obtain ⟨a5, rfl, b5⟩ := okW_i h5
  obtain ⟨a6, rfl, b6⟩ := okW_i h6
  obtain ⟨a7, rfl, b7⟩ := okW_i h7
  obtain ⟨a8, rfl⟩ := okW_b h8
  exact ⟨⟨a1, a2, a3, a4, a5, a6, a7, a8⟩, rfl, ⟨b1, b2, b3, b4, b5, b6, b7⟩⟩
theorem le_reach {n : Nat} (h : n ≤ reachBytes) : n ≤ 281474976710656 := Nat.le_trans h (by decide)
section
variable {H : Type} {enc : TypeId × Value → H} {w : World} {base : Nat} {spare : Nat → Bool} {held : Bool}
/-- What open_each yields, as rows. -/
theorem slAt_each {α : Type} [Inhabited α] {p : Option Addr} {xs : List α} {cap s : Nat} {f : α → List Value} {q : α → Prop} (hl : xs.length ≤ reachBytes) (h : (xs = []) ∨ ∃ b off, p = some ⟨b, off, none⟩ ∧ ∀ i, i < xs.length → ∃ cs, w.rangeAt b (off + i * s) cs ∧ cs.length = s ∧ (cs = f (xs.getD i default) ∧ q (xs.getD i default))) :
    SlAt w (.slice p xs.length cap) s (xs.map f) ∧ ∀ a ∈ xs, q a := by
  refine ⟨⟨⟨p, cap, by rw [List.length_map], fun hne => ?_⟩, by rw [List.length_map]; exact le_reach hl⟩, fun a ha => ?_⟩
  · rcases h with rfl | ⟨b, off, rfl, h⟩
    · exact absurd rfl hne
    · refine ⟨b, off, rfl, fun i c hc => ?_⟩
      have hi : i < xs.length := by
        have := (List.getElem?_eq_some_iff.1 hc).1
        simpa using this
      obtain ⟨cs, h1, _, rfl, _⟩ := h i hi
      simp only [List.getElem?_map, List.getElem?_eq_getElem hi, Option.map_some, Option.some.injEq] at hc
      rw [List.getD_eq_getElem?_getD, List.getElem?_eq_getElem hi] at h1
      subst hc
      exact h1
  · rcases h with rfl | ⟨b, off, rfl, h⟩
    · cases ha
    · obtain ⟨i, hi, rfl⟩ := List.mem_iff_getElem.1 ha
      obtain ⟨cs, _, _, _, h2⟩ := h i hi
      rw [List.getD_eq_getElem?_getD, List.getElem?_eq_getElem hi] at h2
      exact h2
theorem open_flat {α : Type} [Inhabited α] {f : α → List Value} {q : α → Prop} {t e : TypeId} {ks : List Leaf} {fuel : Nat} {cs : List Value} {x : DataW H × List MemPlace} (ht : Try.prog.underlying t = some (.slice e)) (hlk : lfOf Try.prog 8 e = some ks) (hsz : szOf Try.prog e = some ks.length) (hpos : 0 < ks.length) (hby : Nat.ble 1 (Try.prog.bytesOf e) = true)
    (hE : ∀ cs, okLvW ks cs = true → ∃ a, cs = f a ∧ q a) (h : DataW.trod enc Try.prog w base spare held fuel t cs = some x) (hz : Szd Try.prog t x.1) : ∃ v, ∃ xs : List α, cs = [v] ∧ SlAt w v ks.length (xs.map f) ∧ ∀ a ∈ xs, q a := by
  obtain ⟨p, xs, cap, rfl, hl, hr⟩ := open_each (α := α) (R := fun cs a => cs = f a ∧ q a) ht hsz hpos hby (fun n cs x hx _ => hE cs (trod_leaves 8 e ks hlk hsz n cs x hx)) h hz
  exact ⟨_, xs, rfl, slAt_each hl hr⟩
theorem open_ints {fuel : Nat} {cs : List Value} {x : DataW H × List MemPlace} (h : DataW.trod enc Try.prog w base spare held fuel 47 cs = some x) (hz : Szd Try.prog 47 x.1) : ∃ v, ∃ xs : List Int, cs = [v] ∧ SlAt w v 1 (xs.map inV) ∧ ∀ a ∈ xs, I64 a :=
  open_flat (ks := [.i .i64]) Try.underlying47 (by kernel_rfl) (by kernel_rfl) (by decide) (by kernel_rfl) (fun cs h => by
    obtain ⟨_, _, rfl, h1, h⟩ := okLvW_cons h
    obtain rfl := okLvW_nil h
    obtain ⟨a, rfl, ha⟩ := okW_i h1
    exact ⟨a, rfl, ha⟩) h hz
theorem open_pages {fuel : Nat} {cs : List Value} {x : DataW H × List MemPlace} (h : DataW.trod enc Try.prog w base spare held fuel 22 cs = some x) (hz : Szd Try.prog 22 x.1) : ∃ v, ∃ xs : List PgD, cs = [v] ∧ SlAt w v 2 (xs.map pgV) ∧ ∀ a ∈ xs, I64 a.own ∧ I64 a.wit :=
  open_flat (ks := [.i .i64, .i .i64]) Try.underlying22 (by kernel_rfl) (by kernel_rfl) (by decide) (by kernel_rfl) (fun cs h => by obtain ⟨a, b, rfl, h1, h2⟩ := ints2_of h; exact ⟨⟨a, b⟩, rfl, h1, h2⟩) h hz
theorem open_seats {fuel : Nat} {cs : List Value} {x : DataW H × List MemPlace} (h : DataW.trod enc Try.prog w base spare held fuel 24 cs = some x) (hz : Szd Try.prog 24 x.1) : ∃ v, ∃ xs : List StD, cs = [v] ∧ SlAt w v 2 (xs.map stV) ∧ ∀ a ∈ xs, I64 a.vm ∧ I64 a.cpu :=
  open_flat (ks := [.i .i64, .i .i64]) Try.underlying24 (by kernel_rfl) (by kernel_rfl) (by decide) (by kernel_rfl) (fun cs h => by obtain ⟨a, b, rfl, h1, h2⟩ := ints2_of h; exact ⟨⟨a, b⟩, rfl, h1, h2⟩) h hz
theorem open_maps {fuel : Nat} {cs : List Value} {x : DataW H × List MemPlace} (h : DataW.trod enc Try.prog w base spare held fuel 55 cs = some x) (hz : Szd Try.prog 55 x.1) : ∃ v, ∃ xs : List MpD, cs = [v] ∧ SlAt w v 2 (xs.map mpV) ∧ ∀ a ∈ xs, I64 a.mid ∧ I64 a.frm :=
  open_flat (ks := [.i .i64, .i .i64]) Try.underlying55 (by kernel_rfl) (by kernel_rfl) (by decide) (by kernel_rfl) (fun cs h => by obtain ⟨a, b, rfl, h1, h2⟩ := ints2_of h; exact ⟨⟨a, b⟩, rfl, h1, h2⟩) h hz
theorem open_acts {fuel : Nat} {cs : List Value} {x : DataW H × List MemPlace} (h : DataW.trod enc Try.prog w base spare held fuel 27 cs = some x) (hz : Szd Try.prog 27 x.1) : ∃ v, ∃ xs : List ActD, cs = [v] ∧ SlAt w v 8 (xs.map actV) ∧ ∀ a ∈ xs, a.Wf :=
  open_flat (ks := [.i .i64, .i .i64, .i .i64, .i .i64, .i .i64, .i .i64, .i .i64, .b]) Try.underlying27 (by kernel_rfl) (by kernel_rfl) (by decide) (by kernel_rfl) (fun cs h => act_of h) h hz
/-- A guest. -/
theorem open_guest {fuel : Nat} {cs : List Value} {x : DataW H × List MemPlace} (h : DataW.trod enc Try.prog w base spare held fuel 57 cs = some x) (hz : Szd Try.prog 57 x.1) :
    ∃ g : GsD × Value × Value, cs = [.bool g.1.live, .bool g.1.dying, .int .i64 g.1.first, g.2.1, g.2.2] ∧ SlAt w g.2.1 1 (g.1.vcpus.map inV) ∧ SlAt w g.2.2 2 (g.1.maps.map mpV) ∧ I64 g.1.first ∧ (∀ x ∈ g.1.vcpus, I64 x) ∧ ∀ x ∈ g.1.maps, I64 x.mid ∧ I64 x.frm := by
  obtain ⟨hl, n, hf⟩ := trod_fields Try.underlying57 h hz
  rw [cellsOf_sz (show szOf Try.prog 57 = some 5 from tb_ok.gsz rfl)] at hl
  match cs, hl with
  | [c0, c1, c2, c3, c4], _ =>
    have c1s : Try.prog.cellsOf 4 = 1 := by kernel_rfl
    have c2s : Try.prog.cellsOf 3 = 1 := by kernel_rfl
    have c3s : Try.prog.cellsOf 47 = 1 := by kernel_rfl
    have c4s : Try.prog.cellsOf 55 = 1 := by kernel_rfl
    obtain ⟨_, h0, _⟩ := hf 0 _ rfl
    obtain ⟨_, h1, _⟩ := hf 1 _ rfl
    obtain ⟨_, h2, _⟩ := hf 2 _ rfl
    obtain ⟨_, h3, z3⟩ := hf 3 _ rfl
    obtain ⟨_, h4, z4⟩ := hf 4 _ rfl
    simp only [List.getElem_toArray, List.getElem_cons_zero, List.getElem_cons_succ, c1s, c2s, c3s, c4s, List.drop_zero, List.drop_succ_cons, List.take_succ_cons, List.take_zero] at h0 h1 h2 h3 h4 z3 z4
    obtain ⟨b0, e0, _⟩ := DataW.trod_bool Try.underlying4 h0
    obtain ⟨b1, e1, _⟩ := DataW.trod_bool Try.underlying4 h1
    obtain ⟨k, e2, _, hw⟩ := DataW.trod_int Try.underlying3 h2
    obtain ⟨v, xs, e3, s3, w3⟩ := open_ints h3 z3
    obtain ⟨v4, ms, e4, s4, w4⟩ := open_maps h4 z4
    cases e0; cases e1; cases e2; cases e3; cases e4
    exact ⟨(⟨b0, b1, k, xs, ms⟩, c3, c4), rfl, s3, s4, i64_wf hw, w3, w4⟩
theorem open_part {fuel : Nat} {cs : List Value} {x : DataW H × List MemPlace} (h : DataW.trod enc Try.prog w base spare held fuel 26 cs = some x) (hz : Szd Try.prog 26 x.1) : ∃ pv gv ov P, cs = [pv, gv, ov] ∧ PartG w pv gv ov P := by
  obtain ⟨hl, n, hf⟩ := trod_fields Try.underlying26 h hz
  rw [cellsOf_sz (show szOf Try.prog 26 = some 3 from tb_ok.gsz rfl)] at hl
  match cs, hl with
  | [c0, c1, c2], _ =>
    have c1s : Try.prog.cellsOf 22 = 1 := by kernel_rfl
    have c2s : Try.prog.cellsOf 23 = 1 := by kernel_rfl
    have c3s : Try.prog.cellsOf 24 = 1 := by kernel_rfl
    obtain ⟨_, h0, z0⟩ := hf 0 _ rfl
    obtain ⟨_, h1, z1⟩ := hf 1 _ rfl
    obtain ⟨_, h2, z2⟩ := hf 2 _ rfl
    simp only [List.getElem_toArray, List.getElem_cons_zero, List.getElem_cons_succ, c1s, c2s, c3s, List.drop_zero, List.drop_succ_cons, List.take_succ_cons, List.take_zero] at h0 h1 h2 z0 z1 z2
    obtain ⟨pv, ps, e0, s0, w0⟩ := open_pages h0 z0
    obtain ⟨ov, os, e2, s2, w2⟩ := open_seats h2 z2
    obtain ⟨p, gs, cap, e1, hl1, hr⟩ := open_each (α := GsD × Value × Value) Try.underlying23 (tb_ok.gsz (t := 57) (s := 5) rfl) (by decide) (by kernel_rfl) (fun n cs x hx hz => open_guest hx hz) h1 z1
    cases e0; cases e1; cases e2
    have hgs : ∀ i, (PtD.mk ps (gs.map (·.1)) os).gs i = (gs.getD i default).1 := fun i => by
      simp only [PtD.gs, List.getD_eq_getElem?_getD, List.getElem?_map]
      cases gs[i]? <;> rfl
    refine ⟨_, _, _, ⟨ps, gs.map (·.1), os⟩, rfl, s0, ⟨fun i => (gs.getD i default).2.1, fun i => (gs.getD i default).2.2, ⟨⟨p, cap, by simp, fun hne => ?_⟩, by simpa using le_reach hl1⟩, fun i hi => ?_⟩, s2, ?_⟩
    · rcases hr with rfl | ⟨b, off, rfl, hr⟩
      · exact absurd rfl hne
      · refine ⟨b, off, rfl, fun i c hc => ?_⟩
        have hi : i < gs.length := by
          have := (List.getElem?_eq_some_iff.1 hc).1
          simpa using this
        obtain ⟨cs, h1, _, rfl, _⟩ := hr i hi
        simp only [List.length_map] at hc
        rw [getD_range_map _ hi] at hc
        simp only [Option.some.injEq] at hc
        subst hc
        rw [hgs]
        exact h1
    · simp only [List.length_map] at hi
      rcases hr with rfl | ⟨b, off, rfl, hr⟩
      · exact absurd hi (by simp)
      · obtain ⟨cs, _, _, _, a, b, _⟩ := hr i hi
        rw [hgs]
        exact ⟨a, b⟩
    · refine ⟨fun f hf => ?_, fun i hi => ?_, fun c hc => ?_⟩
      · have := w0 ((PtD.mk ps (gs.map (·.1)) os).pg f) (by
          simp only [PtD.pg, List.getD_eq_getElem?_getD, List.getElem?_eq_getElem hf]; simp)
        exact this
      · simp only [List.length_map] at hi
        rcases hr with rfl | ⟨b, off, rfl, hr⟩
        · exact absurd hi (by simp)
        · obtain ⟨cs, _, _, _, _, _, a⟩ := hr i hi
          rw [hgs]
          exact a
      · have := w2 ((PtD.mk ps (gs.map (·.1)) os).st c) (by
          simp only [PtD.st, List.getD_eq_getElem?_getD, List.getElem?_eq_getElem hc]; simp)
        exact this
theorem script_of {fuel : Nat} {v : Value} {x : DataW H × List MemPlace} (hv : ∃ cs, v = .agg cs) (h : DataW.trod enc Try.prog w base spare held fuel 29 v.cells.toList = some x) (hz : Szd Try.prog 29 x.1) : ∃ P A, ScrG w v P A := by
  obtain ⟨cs, rfl⟩ := hv
  obtain ⟨hl, n, hf⟩ := trod_fields Try.underlying29 h hz
  rw [cellsOf_sz (show szOf Try.prog 29 = some 4 from tb_ok.gsz rfl)] at hl
  obtain ⟨cs⟩ := cs
  simp only [Value.cells] at hl hf
  match cs, hl with
  | [c0, c1, c2, c3], _ =>
    have c1s : Try.prog.cellsOf 26 = 3 := by kernel_rfl
    have c2s : Try.prog.cellsOf 27 = 1 := by kernel_rfl
    obtain ⟨_, h0, z0⟩ := hf 0 _ rfl
    obtain ⟨_, h1, z1⟩ := hf 1 _ rfl
    simp only [List.getElem_toArray, List.getElem_cons_zero, List.getElem_cons_succ, c1s, c2s, List.drop_zero, List.drop_succ_cons, List.take_succ_cons, List.take_zero] at h0 h1 z0 z1
    obtain ⟨pv, gv, ov, P, e0, hP⟩ := open_part h0 z0
    obtain ⟨lv, A, e1, s1, w1⟩ := open_acts h1 z1
    cases e0; cases e1
    exact ⟨P, A, ⟨c0, c1, c2, c3, rfl, hP, s1⟩, w1⟩
end
end Go.Proofs.Ytjnndchkblnkgaa
