/- Layer 18 (part): what may be stays so: the ground. No program in sight. -/
import Derived.Test.YtjnndchkblnkgaaPtR
import Derived.Test.YtjnndchkblnkgaaPtN
import Derived.Test.YtjnndchkblnkgaaPtI
import Derived.Test.YtjnndchkblnkgaaPtE
import Derived.Test.YtjnndchkblnkgaaPtD
namespace Go.Proofs.Ytjnndchkblnkgaa
open Go.RowKit
set_option linter.unusedVariables false
set_option linter.unusedSimpArgs false
set_option maxRecDepth 20000
namespace PtD
structure MapsOk (l : List MpD) (N : Nat) : Prop where
  sorted : Sorted l
  rng : ∀ x ∈ l, 0 ≤ x.mid ∧ x.mid ≤ 15 ∧ 0 ≤ x.frm ∧ x.frm < N
  inj : ∀ i j, i < j → j < l.length → (l.getD i default).frm ≠ (l.getD j default).frm
theorem getD_mem {α : Type} [Inhabited α] {l : List α} {k : Nat} (hk : k < l.length) : l.getD k default ∈ l := by
  rw [List.getD_eq_getElem?_getD, List.getElem?_eq_getElem hk]; simp
theorem mem_getD {α : Type} [Inhabited α] {l : List α} {x : α} (h : x ∈ l) : ∃ k, k < l.length ∧ l.getD k default = x := by
  obtain ⟨k, hk, rfl⟩ := List.mem_iff_getElem.1 h
  exact ⟨k, hk, by rw [List.getD_eq_getElem?_getD, List.getElem?_eq_getElem hk]; rfl⟩
theorem mapsOk_iff {l : List MpD} {N : Nat} : (∀ k, k < l.length → mapAt l N k = true) ↔ MapsOk l N := by
  constructor
  · intro h
    have h' : ∀ k, k < l.length → ((0 ≤ (l.getD k default).mid ∧ (l.getD k default).mid ≤ 15) ∧ (k = 0 ∨ (l.getD (k - 1) default).mid < (l.getD k default).mid) ∧ (0 ≤ (l.getD k default).frm ∧ (l.getD k default).frm ≤ (N : Int) - 1) ∧ ∀ m ∈ l.take k, m.frm ≠ (l.getD k default).frm) := by
      intro k hk
      have := h k hk
      simp only [mapAt, btw, Bool.and_eq_true, Bool.or_eq_true, decide_eq_true_eq, Bool.not_eq_true', List.any_eq_false] at this
      exact ⟨this.1.1.1, this.1.1.2, this.1.2, fun m hm => by simpa using this.2 m hm⟩
    refine ⟨sorted_of fun k hk => ?_, fun x hx => ?_, fun i j hij hj => ?_⟩
    · have := (h' (k + 1) hk).2.1
      rw [Nat.add_sub_cancel] at this
      rcases this with h | h
      · omega
      · exact h
    · obtain ⟨k, hk, rfl⟩ := mem_getD hx
      have := h' k hk
      exact ⟨this.1.1, this.1.2, this.2.2.1.1, by omega⟩
    · refine (h' j hj).2.2.2 _ ?_
      rw [List.mem_iff_getElem]
      refine ⟨i, by rw [List.length_take]; omega, ?_⟩
      rw [List.getElem_take, List.getD_eq_getElem?_getD, List.getElem?_eq_getElem (by omega)]; rfl
  · rintro ⟨hs, hr, hi⟩ k hk
    have h1 := hr _ (getD_mem hk)
    simp only [mapAt, btw, Bool.and_eq_true, Bool.or_eq_true, decide_eq_true_eq, Bool.not_eq_true', List.any_eq_false]
    refine ⟨⟨⟨⟨h1.1, h1.2.1⟩, ?_⟩, h1.2.2.1, by omega⟩, fun m hm => ?_⟩
    · rcases Nat.eq_zero_or_pos k with rfl | hp
      · exact .inl rfl
      · exact .inr (hs (k - 1) k (by omega) hk)
    · obtain ⟨i, hi2, rfl⟩ := List.mem_iff_getElem.1 hm
      rw [List.length_take] at hi2
      have := hi i k (by omega) hk
      rw [List.getD_eq_getElem?_getD, List.getElem?_eq_getElem (show i < l.length by omega)] at this
      rw [List.getElem_take]
      simpa using this
/-- What a guest's processors may be. -/
def vcOk (P : PtD) (i : Nat) (l : List Int) : Prop := ∀ v, v < l.length → l.getD v 0 = -1 ∨ (0 ≤ l.getD v 0 ∧ (l.getD v 0).toNat < P.on.length ∧ (P.st (l.getD v 0).toNat).vm = (i : Int) + 1 ∧ (P.st (l.getD v 0).toNat).cpu = v)
structure LivOk (P : PtD) (i : Nat) : Prop where
  dy : (P.gs i).dying = false
  f0 : 16 ≤ (P.gs i).first
  f1 : (P.gs i).first ≤ (P.pages.length : Int) - 5
  vl : (P.gs i).vcpus.length ≤ 2
  vc : vcOk P i (P.gs i).vcpus
  mp : MapsOk (P.gs i).maps P.pages.length
  us : ∀ f, f < P.pages.length → ((∃ m ∈ (P.gs i).maps, m.frm = (f : Int)) ↔ ((P.pg f).own = (i : Int) + 1 ∨ (P.pg f).wit = (i : Int) + 1))
structure DeadOk (P : PtD) (i : Nat) : Prop where
  vc : (P.gs i).vcpus = []
  mp : (P.gs i).maps = []
  fi : (P.gs i).first = 0
  dy : (P.gs i).dying = true ↔ ∃ f, f < P.pages.length ∧ (P.pg f).own = (i : Int) + 1
def SeatOk (P : PtD) (c : Nat) : Prop := ((P.st c).vm = 0 ∧ (P.st c).cpu = 0) ∨ (1 ≤ (P.st c).vm ∧ (P.st c).vm ≤ 4 ∧ (P.gs (ix (P.st c).vm)).live = true ∧ 0 ≤ (P.st c).cpu ∧ (P.st c).cpu.toNat < (P.gs (ix (P.st c).vm)).vcpus.length ∧ (P.gs (ix (P.st c).vm)).vcpus.getD (P.st c).cpu.toNat 0 = (c : Int))
def inTab (P : PtD) (f : Nat) : Prop := f < 16 ∨ ∃ i, i < 4 ∧ (P.gs i).live = true ∧ (P.gs i).first ≤ f ∧ f < (P.gs i).first + 5
def HostOk (P : PtD) (x : PgD) : Prop := x.own = 0 → x.wit = -2 ∨ x.wit = -1 ∨ (1 ≤ x.wit ∧ x.wit ≤ 4 ∧ (P.gs (ix x.wit)).live = true)
def GuestOk (P : PtD) (x : PgD) : Prop := 0 < x.own → x.wit = -2 ∨ (x.wit = 0 ∧ (P.gs (ix x.own)).live = true)
structure Ok2 (P : PtD) : Prop where
  n0 : 24 ≤ P.pages.length
  n1 : P.pages.length ≤ 64
  g4 : P.guests.length = 4
  o1 : 1 ≤ P.on.length
  o3 : P.on.length ≤ 3
  dead : ∀ i, i < 4 → (P.gs i).live = false → DeadOk P i
  liv : ∀ i, i < 4 → (P.gs i).live = true → LivOk P i
  apart : ∀ i j, i < j → j < 4 → (P.gs i).live = true → (P.gs j).live = true → (P.gs i).first + 5 ≤ (P.gs j).first ∨ (P.gs j).first + 5 ≤ (P.gs i).first
  hyp : ∀ f, f < P.pages.length → ((P.pg f).own = -1 ↔ P.inTab f)
  hypw : ∀ f, f < P.pages.length → (P.pg f).own = -1 → (P.pg f).wit = -2
  who : ∀ f, f < P.pages.length → -1 ≤ (P.pg f).own ∧ (P.pg f).own ≤ 4
  host : ∀ f, f < P.pages.length → HostOk P (P.pg f)
  guest : ∀ f, f < P.pages.length → GuestOk P (P.pg f)
  seat : ∀ c, c < P.on.length → SeatOk P c
theorem owns_iff {P : PtD} {who : Int} : P.owns who = true ↔ ∃ f, f < P.pages.length ∧ (P.pg f).own = who := by
  rw [owns, List.any_eq_true]
  constructor
  · rintro ⟨x, hx, h⟩
    obtain ⟨k, hk, rfl⟩ := mem_getD hx
    exact ⟨k, hk, of_decide_eq_true h⟩
  · rintro ⟨f, hf, h⟩
    exact ⟨P.pg f, getD_mem hf, decide_eq_true h⟩
theorem lives_iff {P : PtD} {n : Int} : P.lives n = true ↔ (1 ≤ n ∧ n ≤ 4 ∧ (P.gs (ix n)).live = true) := by
  simp only [lives, btw, Bool.and_eq_true, decide_eq_true_eq, and_assoc]; rfl
theorem ok2_iff {P : PtD} : Ok P ↔ Ok2 P := by
  constructor
  · intro h
    refine ⟨h.n0, h.n1, h.g4, h.o1, h.o3, fun i hi hl => ?_, fun i hi hl => ?_, h.apart, h.hyp, h.hypw, h.who, fun f hf h0 => ?_, fun f hf h0 => ?_, fun c hc => ?_⟩
    · obtain ⟨a, b, c, d⟩ := h.dead i hi hl
      exact ⟨List.length_eq_zero_iff.1 a, List.length_eq_zero_iff.1 b, c, by rw [d, owns_iff]⟩
    · obtain ⟨a, b, c, d, e, f, g⟩ := h.liv i hi hl
      refine ⟨a, b, c, d, fun v hv => ?_, mapsOk_iff.1 f, fun q hq => ?_⟩
      · have := e v hv
        simp only [vcpuAt, btw, Bool.or_eq_true, Bool.and_eq_true, decide_eq_true_eq] at this
        rcases this with h1 | ⟨⟨h1, h2⟩, h3, h4⟩
        · exact .inl h1
        · exact .inr ⟨h1, by omega, h3, h4⟩
      · have := g q hq
        rw [Bool.eq_iff_iff, List.any_eq_true] at this
        simpa [uses] using this
    · have := h.host f hf h0
      rw [lives_iff] at this
      exact this
    · have := h.guest f hf h0
      rw [lives_iff] at this
      rcases this with h1 | ⟨h1, _, _, h2⟩
      · exact .inl h1
      · exact .inr ⟨h1, h2⟩
    · have := h.seat c hc
      unfold SeatOk
      simp only [seated] at this
      cases hv : decide ((P.st c).vm = 0) with
      | true => rw [hv] at this; simp at this hv; exact .inl ⟨hv, this⟩
      | false =>
        rw [hv] at this
        simp only [cond_false, Bool.and_eq_true, decide_eq_true_eq, lives_iff, btw] at this
        obtain ⟨⟨⟨a, b, c'⟩, d, e⟩, f⟩ := this
        exact .inr ⟨a, b, c', d, by unfold ix; omega, f⟩
  · intro h
    refine ⟨h.n0, h.n1, h.g4, h.o1, h.o3, fun i hi hl => ?_, fun i hi hl => ?_, h.apart, h.hyp, h.hypw, h.who, fun f hf h0 => ?_, fun f hf h0 => ?_, fun c hc => ?_⟩
    · obtain ⟨a, b, c, d⟩ := h.dead i hi hl
      exact ⟨by rw [a]; rfl, by rw [b]; rfl, c, by rw [Bool.eq_iff_iff, d, owns_iff]⟩
    · obtain ⟨a, b, c, d, e, f, g⟩ := h.liv i hi hl
      refine ⟨a, b, c, d, fun v hv => ?_, mapsOk_iff.2 f, fun q hq => ?_⟩
      · simp only [vcpuAt, btw, Bool.or_eq_true, Bool.and_eq_true, decide_eq_true_eq]
        rcases e v hv with h1 | ⟨h1, h2, h3, h4⟩
        · exact .inl h1
        · exact .inr ⟨⟨h1, by omega⟩, h3, h4⟩
      · rw [Bool.eq_iff_iff, List.any_eq_true]
        simpa [uses] using g q hq
    · have := h.host f hf h0
      rw [lives_iff]
      exact this
    · rw [lives_iff]
      rcases h.guest f hf h0 with h1 | ⟨h1, h2⟩
      · exact .inl h1
      · exact .inr ⟨h1, by omega, (h.who f hf).2, h2⟩
    · simp only [seated]
      rcases h.seat c hc with ⟨a, b⟩ | ⟨a, b, c', d, e, f⟩
      · simp [a, b]
      · have hv : decide ((P.st c).vm = 0) = false := by simp; omega
        rw [hv]
        simp only [cond_false, Bool.and_eq_true, decide_eq_true_eq, lives_iff, btw]
        exact ⟨⟨⟨a, b, c'⟩, d, by unfold ix at e; omega⟩, f⟩
theorem may_ok2 {P : PtD} : P.may = true ↔ Ok2 P := may_ok.trans ok2_iff
/-- Pages and maps changed, all else as it was. -/
theorem ok2_pages {P P' : PtD} (h : Ok2 P) (hl : P'.pages.length = P.pages.length) (hgl : P'.guests.length = P.guests.length) (hon : P'.on = P.on)
    (hg : ∀ i, (P'.gs i).live = (P.gs i).live ∧ (P'.gs i).dying = (P.gs i).dying ∧ (P'.gs i).first = (P.gs i).first ∧ (P'.gs i).vcpus = (P.gs i).vcpus)
    (hm1 : ∀ f, f < P.pages.length → ((P'.pg f).own = -1 ↔ (P.pg f).own = -1)) (hw : ∀ f, f < P.pages.length → (P'.pg f).own = -1 → (P'.pg f).wit = -2)
    (who : ∀ f, f < P.pages.length → -1 ≤ (P'.pg f).own ∧ (P'.pg f).own ≤ 4) (host : ∀ f, f < P.pages.length → HostOk P (P'.pg f)) (guest : ∀ f, f < P.pages.length → GuestOk P (P'.pg f))
    (hdead : ∀ i, i < 4 → (P.gs i).live = false → (P'.gs i).maps = [] ∧ ((∃ f, f < P.pages.length ∧ (P'.pg f).own = (i : Int) + 1) ↔ ∃ f, f < P.pages.length ∧ (P.pg f).own = (i : Int) + 1))
    (hmaps : ∀ i, i < 4 → (P.gs i).live = true → MapsOk (P'.gs i).maps P.pages.length ∧ ∀ f, f < P.pages.length → ((∃ m ∈ (P'.gs i).maps, m.frm = (f : Int)) ↔ ((P'.pg f).own = (i : Int) + 1 ∨ (P'.pg f).wit = (i : Int) + 1))) : Ok2 P' := by
  have hst : ∀ c, P'.st c = P.st c := fun c => by unfold st; rw [hon]
  have l1 : ∀ i, (P'.gs i).live = (P.gs i).live := fun i => (hg i).1
  have l2 : ∀ i, (P'.gs i).dying = (P.gs i).dying := fun i => (hg i).2.1
  have l3 : ∀ i, (P'.gs i).first = (P.gs i).first := fun i => (hg i).2.2.1
  have l4 : ∀ i, (P'.gs i).vcpus = (P.gs i).vcpus := fun i => (hg i).2.2.2
  refine ⟨by rw [hl]; exact h.n0, by rw [hl]; exact h.n1, by rw [hgl]; exact h.g4, by rw [hon]; exact h.o1, by rw [hon]; exact h.o3, fun i hi hlv => ?_, fun i hi hlv => ?_, fun i j hij hj hi hj' => ?_, fun f hf => ?_, fun f hf => ?_, fun f hf => ?_, fun f hf => ?_, fun f hf => ?_, fun c hc => ?_⟩
  · rw [l1] at hlv
    have hd := h.dead i hi hlv
    exact ⟨by rw [l4]; exact hd.vc, (hdead i hi hlv).1, by rw [l3]; exact hd.fi, by rw [l2, hl, (hdead i hi hlv).2]; exact hd.dy⟩
  · rw [l1] at hlv
    have hv := h.liv i hi hlv
    refine ⟨by rw [l2]; exact hv.dy, by rw [l3]; exact hv.f0, by rw [l3, hl]; exact hv.f1, by rw [l4]; exact hv.vl, ?_, by rw [hl]; exact (hmaps i hi hlv).1, by rw [hl]; exact (hmaps i hi hlv).2⟩
    intro v hvv
    rw [l4] at hvv ⊢
    simp only [hst, hon]
    exact hv.vc v hvv
  · rw [l1] at hi hj'
    rw [l3, l3]
    exact h.apart i j hij hj hi hj'
  · rw [hl] at hf
    rw [hm1 f hf, h.hyp f hf]
    unfold inTab
    simp only [l1, l3]
  · rw [hl] at hf; exact hw f hf
  · rw [hl] at hf; exact who f hf
  · rw [hl] at hf
    have := host f hf
    unfold HostOk at *
    simp only [l1]
    exact this
  · rw [hl] at hf
    have := guest f hf
    unfold GuestOk at *
    simp only [l1]
    exact this
  · rw [hon] at hc
    have := h.seat c hc
    unfold SeatOk at *
    simp only [hst, l1, l4]
    exact this
theorem ix_of {i : Nat} : ix ((i : Int) + 1) = i := by unfold ix; omega
theorem ix_back {n : Int} (h : 1 ≤ n) : ((ix n : Nat) : Int) + 1 = n := by unfold ix; omega
/-- One page changed, no maps. -/
theorem ok2_page {P : PtD} (h : Ok2 P) {f : Nat} (hf : f < P.pages.length) (x : PgD) (h0 : 0 ≤ (P.pg f).own) (h1 : 0 ≤ x.own ∧ x.own ≤ 4) (hh : HostOk P x) (hg : GuestOk P x)
    (hown : ∀ i : Nat, i < 4 → (P.gs i).live = false → (x.own = (i : Int) + 1 ↔ (P.pg f).own = (i : Int) + 1))
    (huse : ∀ i : Nat, i < 4 → (P.gs i).live = true → ((x.own = (i : Int) + 1 ∨ x.wit = (i : Int) + 1) ↔ ((P.pg f).own = (i : Int) + 1 ∨ (P.pg f).wit = (i : Int) + 1))) : Ok2 (P.setPg f x) := by
  have hpg := setPg_pg P f x hf
  refine ok2_pages h (by simp [setPg]) rfl rfl (fun i => ⟨rfl, rfl, rfl, rfl⟩) (fun q hq => ?_) (fun q hq => ?_) (fun q hq => ?_) (fun q hq => ?_) (fun q hq => ?_) (fun i hi hl => ⟨(h.dead i hi hl).mp, ?_⟩) (fun i hi hl => ⟨(h.liv i hi hl).mp, fun q hq => ?_⟩)
  · rw [hpg]; split
    · rename_i e; subst e; omega
    · rfl
  · rw [hpg]; split
    · intro e; omega
    · exact h.hypw q hq
  · rw [hpg]; split
    · omega
    · exact h.who q hq
  · rw [hpg]; split
    · exact hh
    · exact h.host q hq
  · rw [hpg]; split
    · exact hg
    · exact h.guest q hq
  · constructor
    · rintro ⟨q, hq, e⟩
      rw [hpg] at e
      split at e
      · exact ⟨f, hf, (hown i hi hl).1 e⟩
      · exact ⟨q, hq, e⟩
    · rintro ⟨q, hq, e⟩
      refine ⟨q, hq, ?_⟩
      rw [hpg]
      split
      · rename_i e2; subst e2; exact (hown i hi hl).2 e
      · exact e
  · have := (h.liv i hi hl).us q hq
    rw [hpg]
    split
    · rename_i e; subst e; rw [huse i hi hl]; exact this
    · exact this
/-- One page changed, and a machine's maps. -/
theorem ok2_pageM {P P' : PtD} (h : Ok2 P) {f : Nat} (hf : f < P.pages.length) (x : PgD) {j : Nat} (hj : j < 4) (ms : List MpD) (hlj : (P.gs j).live = true) (he : P' = (P.setPg f x).setGs j { P.gs j with maps := ms }) (h0 : 0 ≤ (P.pg f).own) (h1 : 0 ≤ x.own ∧ x.own ≤ 4) (hh : HostOk P x) (hg : GuestOk P x)
    (hown : ∀ i : Nat, i < 4 → (P.gs i).live = false → (x.own = (i : Int) + 1 ↔ (P.pg f).own = (i : Int) + 1))
    (huse : ∀ i : Nat, i < 4 → i ≠ j → (P.gs i).live = true → ((x.own = (i : Int) + 1 ∨ x.wit = (i : Int) + 1) ↔ ((P.pg f).own = (i : Int) + 1 ∨ (P.pg f).wit = (i : Int) + 1)))
    (hms : MapsOk ms P.pages.length) (hmf : (∃ m ∈ ms, m.frm = (f : Int)) ↔ (x.own = (j : Int) + 1 ∨ x.wit = (j : Int) + 1)) (hmo : ∀ q : Nat, q ≠ f → ((∃ m ∈ ms, m.frm = (q : Int)) ↔ ∃ m ∈ (P.gs j).maps, m.frm = (q : Int))) : Ok2 P' := by
  subst he
  have hpg : ∀ k, ((P.setPg f x).setGs j { P.gs j with maps := ms }).pg k = if k = f then x else P.pg k := setPg_pg P f x hf
  have hgs : ∀ k, ((P.setPg f x).setGs j { P.gs j with maps := ms }).gs k = if k = j then { P.gs j with maps := ms } else P.gs k := setGs_gs (P.setPg f x) j _ (by have := h.g4; show j < P.guests.length; omega)
  refine ok2_pages h (by simp [setPg, setGs]) (by simp [setPg, setGs]) rfl (fun i => ?_) (fun q hq => ?_) (fun q hq => ?_) (fun q hq => ?_) (fun q hq => ?_) (fun q hq => ?_) (fun i hi hl => ⟨?_, ?_⟩) (fun i hi hl => ⟨?_, fun q hq => ?_⟩)
  · rw [hgs]; split
    · rename_i e; subst e; exact ⟨rfl, rfl, rfl, rfl⟩
    · exact ⟨rfl, rfl, rfl, rfl⟩
  · rw [hpg]; split
    · rename_i e; subst e; omega
    · rfl
  · rw [hpg]; split
    · intro e; omega
    · exact h.hypw q hq
  · rw [hpg]; split
    · omega
    · exact h.who q hq
  · rw [hpg]; split
    · exact hh
    · exact h.host q hq
  · rw [hpg]; split
    · exact hg
    · exact h.guest q hq
  · rw [hgs]; split
    · rename_i e; subst e; rw [hl] at hlj; cases hlj
    · exact (h.dead i hi hl).mp
  · constructor
    · rintro ⟨q, hq, e⟩
      rw [hpg] at e
      split at e
      · exact ⟨f, hf, (hown i hi hl).1 e⟩
      · exact ⟨q, hq, e⟩
    · rintro ⟨q, hq, e⟩
      refine ⟨q, hq, ?_⟩
      rw [hpg]
      split
      · rename_i e2; subst e2; exact (hown i hi hl).2 e
      · exact e
  · rw [hgs]; split
    · exact hms
    · exact (h.liv i hi hl).mp
  · have := (h.liv i hi hl).us q hq
    rw [hgs, hpg]
    by_cases hij : i = j
    · subst hij
      rw [if_pos rfl]
      by_cases hqf : q = f
      · subst hqf; rw [if_pos rfl]; exact hmf
      · rw [if_neg hqf]; exact (hmo q hqf).trans this
    · rw [if_neg hij]
      by_cases hqf : q = f
      · subst hqf; rw [if_pos rfl, huse i hi hij hl]; exact this
      · rw [if_neg hqf]; exact this
theorem mapsOk_ins {l : List MpD} {N : Nat} (h : MapsOk l N) {mid frm : Int} (hm : 0 ≤ mid ∧ mid ≤ 15) (hf : 0 ≤ frm ∧ frm < N) (hno : ∀ m ∈ l, m.frm ≠ frm) (ht : thereB l mid = false) : MapsOk (insM l mid frm) N := by
  have hlb := lowb_le l mid
  have hlen := insM_len l mid frm
  have hget : ∀ k, (insM l mid frm).getD k default = if k < lowb l mid then l.getD k default else if k = lowb l mid then ⟨mid, frm⟩ else l.getD (k - 1) default := by
    intro k
    have hT : (l.take (lowb l mid)).length = lowb l mid := by rw [List.length_take]; omega
    simp only [insM, List.getD_eq_getElem?_getD]
    by_cases h1 : k < lowb l mid
    · rw [if_pos h1, List.getElem?_append_left (by omega), List.getElem?_take, if_pos h1]
    · rw [if_neg h1, List.getElem?_append_right (by omega), hT]
      by_cases h2 : k = lowb l mid
      · rw [if_pos h2, h2, Nat.sub_self]; rfl
      · rw [if_neg h2, show k - lowb l mid = (k - lowb l mid - 1) + 1 by omega, List.getElem?_cons_succ, List.getElem?_drop, show lowb l mid + (k - lowb l mid - 1) = k - 1 by omega]
  have hgt : ∀ k, lowb l mid ≤ k → k < l.length → mid < (l.getD k default).mid := by
    intro k h1 h2
    have h3 := lowb_ge h.sorted h1 h2
    rcases Int.lt_or_eq_of_le h3 with h4 | h4
    · exact h4
    · exfalso
      have h5 : k = lowb l mid := by
        rcases Nat.lt_or_ge (lowb l mid) k with h6 | h6
        · have := h.sorted _ _ h6 h2
          have := lowb_ge h.sorted (Nat.le_refl (lowb l mid)) (by omega)
          omega
        · omega
      have : thereB l mid = true := by
        simp only [thereB, Bool.and_eq_true, decide_eq_true_eq]
        rw [← h5]
        exact ⟨h2, h4.symm⟩
      rw [ht] at this
      cases this
  refine ⟨fun i j hij hj => ?_, fun x hx => ?_, fun i j hij hj => ?_⟩
  · rw [hlen] at hj
    rw [hget, hget]
    by_cases h1 : i < lowb l mid
    · rw [if_pos h1]
      have := lowb_lt h1
      by_cases h2 : j < lowb l mid
      · rw [if_pos h2]; exact h.sorted _ _ hij (by omega)
      · rw [if_neg h2]
        by_cases h3 : j = lowb l mid
        · rw [if_pos h3]; exact this
        · rw [if_neg h3]; exact h.sorted _ _ (by omega) (by omega)
    · have hj2 : ¬ j < lowb l mid := by omega
      have hj3 : ¬ j = lowb l mid := by omega
      simp only [h1, hj2, hj3, if_false]
      by_cases h2 : i = lowb l mid
      · simp only [h2, if_true]; exact hgt _ (by omega) (by omega)
      · simp only [h2, if_false]; exact h.sorted _ _ (by omega) (by omega)
  · rcases insM_mem hx with hx | rfl
    · exact h.rng x hx
    · exact ⟨hm.1, hm.2, hf.1, hf.2⟩
  · rw [hlen] at hj
    rw [hget, hget]
    have hne : ∀ k, k < l.length → (l.getD k default).frm ≠ frm := fun k hk => hno _ (getD_mem hk)
    by_cases h1 : i < lowb l mid
    · rw [if_pos h1]
      by_cases h2 : j < lowb l mid
      · rw [if_pos h2]; exact h.inj _ _ hij (by omega)
      · rw [if_neg h2]
        by_cases h3 : j = lowb l mid
        · rw [if_pos h3]; exact hne _ (by omega)
        · rw [if_neg h3]; exact h.inj _ _ (by omega) (by omega)
    · have hj2 : ¬ j < lowb l mid := by omega
      have hj3 : ¬ j = lowb l mid := by omega
      simp only [h1, hj2, hj3, if_false]
      by_cases h2 : i = lowb l mid
      · simp only [h2, if_true]; exact (hne _ (by omega)).symm
      · simp only [h2, if_false]; exact h.inj _ _ (by omega) (by omega)
theorem insM_ex {l : List MpD} {mid frm : Int} {q : Int} : (∃ m ∈ insM l mid frm, m.frm = q) ↔ (frm = q ∨ ∃ m ∈ l, m.frm = q) := by
  constructor
  · rintro ⟨m, hm, e⟩
    rcases insM_mem hm with h | rfl
    · exact .inr ⟨m, h, e⟩
    · exact .inl e
  · have hsub : ∀ m ∈ l, m ∈ insM l mid frm := by
      intro m hm
      rw [← List.take_append_drop (lowb l mid) l, List.mem_append] at hm
      rw [insM, List.mem_append, List.mem_cons]
      rcases hm with h | h
      · exact .inl h
      · exact .inr (.inr h)
    rintro (rfl | ⟨m, hm, e⟩)
    · exact ⟨⟨mid, frm⟩, by rw [insM]; simp, rfl⟩
    · exact ⟨m, hsub m hm, e⟩
theorem delM_mem {l : List MpD} {f : Int} {m : MpD} : m ∈ delM l f ↔ m ∈ l ∧ m.frm ≠ f := by
  simp [delM]
end PtD
end Go.Proofs.Ytjnndchkblnkgaa
