/- Layer 18 (part): what may be stays so, call by call. No program in sight. -/
import Derived.Test.YtjnndchkblnkgaaPtY
import Derived.Test.YtjnndchkblnkgaaPtP
namespace Go.Proofs.Ytjnndchkblnkgaa
open Go.RowKit
set_option linter.unusedVariables false
set_option linter.unusedSimpArgs false
set_option maxRecDepth 20000
namespace PtD
/-- What a call of the host's makes of it, and of a guest's. -/
def hostL (P : PtD) (cpu : Nat) (c : ClD) : Except Int PtD :=
  bif decide (c.kind = 1) then P.shareL c.vm c.frame c.mid else bif decide (c.kind = 2) then P.unshareL c.frame else bif decide (c.kind = 3) then P.donateL c.vm c.frame c.mid
  else bif decide (c.kind = 4) then P.reclaimL c.frame else bif decide (c.kind = 5) then P.createL c.frame else bif decide (c.kind = 6) then P.destroyL c.vm
  else bif decide (c.kind = 7) then P.moreL c.vm else bif decide (c.kind = 8) then P.runL cpu c.vm c.vcpu else .error 9
def guestL (P : PtD) (cpu : Nat) (c : ClD) : Except Int PtD :=
  bif decide (c.kind = 10) then P.lentL (P.st cpu).vm c.mid (-2) 0 4 else bif decide (c.kind = 11) then P.lentL (P.st cpu).vm c.mid 0 (-2) 6 else bif decide (c.kind = 9) then .ok (P.stopL cpu) else .error 9
def doL (P : PtD) (cpu : Nat) (c : ClD) : Except Int PtD := bif decide ((P.st cpu).vm = 0) then P.hostL cpu c else P.guestL cpu c
theorem getD_set {α : Type} [Inhabited α] {l : List α} {k : Nat} {x d : α} (hk : k < l.length) (v : Nat) : (l.set k x).getD v d = if v = k then x else l.getD v d := by
  rw [List.getD_eq_getElem?_getD, List.getD_eq_getElem?_getD, List.getElem?_set]
  by_cases h : k = v
  · subst h; simp [hk]
  · rw [if_neg h, if_neg (Ne.symm h)]
theorem lend_ok {P P' : PtD} (h : Ok2 P) {vm fr mid : Int} {x : PgD} (hv : 1 ≤ vm ∧ vm ≤ 4) (hf : 16 ≤ fr ∧ fr ≤ (P.pages.length : Int) - 1) (hm : 0 ≤ mid ∧ mid ≤ 15) (hx : x = ⟨0, vm⟩ ∨ x = ⟨vm, -2⟩) (he : P.lendL vm fr mid x = .ok P') : Ok2 P' := by
  unfold lendL at he
  cases hl : P.lives vm with
  | false => rw [hl] at he; cases he
  | true =>
    rw [hl] at he
    cases ho : decide ((P.pg fr.toNat).own = 0) with
    | false => rw [ho] at he; cases he
    | true =>
      rw [ho] at he
      cases hw : decide ((P.pg fr.toNat).wit = -2) && !thereB (P.gs (ix vm)).maps mid with
      | false => rw [hw] at he; cases he
      | true =>
        rw [hw] at he
        cases he
        rw [Bool.and_eq_true, decide_eq_true_eq, Bool.not_eq_true'] at hw
        rw [decide_eq_true_eq] at ho
        rw [lives_iff] at hl
        have hi := ix_lt hv
        have hk : fr.toNat < P.pages.length := by omega
        have hlv := h.liv _ hi hl.2.2
        have hback := ix_back hv.1
        have hno : ∀ m ∈ (P.gs (ix vm)).maps, m.frm ≠ fr := by
          intro m hm e
          have := (hlv.us fr.toNat hk).1 ⟨m, hm, by omega⟩
          omega
        refine ok2_pageM h hk x hi _ hl.2.2 rfl (by omega) ?_ ?_ ?_ (fun i hi hd => ?_) (fun i hi hne hL => ?_) (mapsOk_ins hlv.mp hm (by omega) hno hw.2) ?_ (fun q hq => ?_)
        · rcases hx with rfl | rfl <;> (dsimp only; omega)
        · rcases hx with rfl | rfl
          · exact fun _ => .inr (.inr hl)
          · intro e; dsimp only at e; omega
        · rcases hx with rfl | rfl
          · intro e; dsimp only at e; omega
          · exact fun _ => .inl rfl
        · constructor
          · intro e
            rcases hx with rfl | rfl
            · dsimp only at e; omega
            · dsimp only at e
              exfalso
              rw [show ix vm = i by unfold ix; omega, hd] at hl
              cases hl.2.2
          · intro e; omega
        · constructor
          · intro e
            rcases hx with rfl | rfl <;> (dsimp only at e; unfold ix at hne; omega)
          · intro e; omega
        · rw [insM_ex]
          constructor
          · intro _
            rcases hx with rfl | rfl <;> (dsimp only; omega)
          · intro _; exact .inl (by omega)
        · rw [insM_ex]
          constructor
          · rintro (e | e)
            · omega
            · exact e
          · exact .inr
theorem share_ok {P P' : PtD} (h : Ok2 P) {vm fr mid : Int} (he : P.shareL vm fr mid = .ok P') : Ok2 P' := by
  unfold shareL at he
  cases hb : btw fr 16 ((P.pages.length : Int) - 1) with
  | false => rw [hb] at he; cases he
  | true =>
    rw [hb] at he
    have hb' := hb
    simp only [btw, Bool.and_eq_true, decide_eq_true_eq] at hb'
    have hk : fr.toNat < P.pages.length := by omega
    cases h0 : decide (vm = 0) with
    | true =>
      rw [h0] at he
      cases ho : decide ((P.pg fr.toNat).own = 0) with
      | false => rw [ho] at he; cases he
      | true =>
        rw [ho] at he
        cases hw : decide ((P.pg fr.toNat).wit = -2) with
        | false => rw [hw] at he; cases he
        | true =>
          rw [hw] at he
          cases he
          rw [decide_eq_true_eq] at ho hw
          refine ok2_page h hk _ (by omega) (by dsimp only; omega) (fun _ => .inr (.inl rfl)) (fun e => by dsimp only at e; omega) (fun i hi hd => ?_) (fun i hi hL => ?_)
          · dsimp only; omega
          · dsimp only; omega
    | false =>
      rw [h0] at he
      cases hc : !btw vm 1 4 || !btw mid 0 15 with
      | true => simp only [hc, cond_false, cond_true, Bool.not_true] at he; cases he
      | false =>
        simp only [hc, cond_false, cond_true, Bool.not_true] at he
        simp only [Bool.or_eq_false_iff, Bool.not_eq_false', btw, Bool.and_eq_true, decide_eq_true_eq] at hc
        exact lend_ok h hc.1 hb' hc.2 (.inl rfl) he
theorem donate_ok {P P' : PtD} (h : Ok2 P) {vm fr mid : Int} (he : P.donateL vm fr mid = .ok P') : Ok2 P' := by
  unfold donateL at he
  cases hc : !btw vm 1 4 || !btw fr 16 ((P.pages.length : Int) - 1) || !btw mid 0 15 with
  | true => simp only [hc, cond_true] at he; cases he
  | false =>
    simp only [hc, cond_false] at he
    simp only [Bool.or_eq_false_iff, Bool.not_eq_false', btw, Bool.and_eq_true, decide_eq_true_eq] at hc
    exact lend_ok h hc.1.1 hc.1.2 hc.2 (.inr rfl) he
theorem mapsOk_del {l : List MpD} {N : Nat} (h : MapsOk l N) (f : Int) : MapsOk (delM l f) N := by
  have hp : l.Pairwise fun a b => a.mid < b.mid ∧ a.frm ≠ b.frm := by
    rw [List.pairwise_iff_getElem]
    intro i j hi hj hij
    have h1 := h.sorted i j hij hj
    have h2 := h.inj i j hij hj
    rw [List.getD_eq_getElem?_getD, List.getD_eq_getElem?_getD, List.getElem?_eq_getElem hi, List.getElem?_eq_getElem hj] at h1 h2
    exact ⟨h1, h2⟩
  have hq : (delM l f).Pairwise fun a b => a.mid < b.mid ∧ a.frm ≠ b.frm := hp.filter _
  rw [List.pairwise_iff_getElem] at hq
  have hq' : ∀ i j, i < j → j < (delM l f).length → ((delM l f).getD i default).mid < ((delM l f).getD j default).mid ∧ ((delM l f).getD i default).frm ≠ ((delM l f).getD j default).frm := by
    intro i j hij hj
    have hi : i < (delM l f).length := by omega
    have := hq i j hi hj hij
    rw [List.getD_eq_getElem?_getD, List.getD_eq_getElem?_getD, List.getElem?_eq_getElem hi, List.getElem?_eq_getElem hj]
    exact this
  exact ⟨fun i j hij hj => (hq' i j hij hj).1, fun x hx => h.rng x (delM_mem.1 hx).1, fun i j hij hj => (hq' i j hij hj).2⟩
theorem unshare_ok {P P' : PtD} (h : Ok2 P) {fr : Int} (he : P.unshareL fr = .ok P') : Ok2 P' := by
  unfold unshareL at he
  cases hb : btw fr 16 ((P.pages.length : Int) - 1) with
  | false => rw [hb] at he; cases he
  | true =>
    rw [hb] at he
    have hb' := hb
    simp only [btw, Bool.and_eq_true, decide_eq_true_eq] at hb'
    have hk : fr.toNat < P.pages.length := by omega
    cases ho : decide ((P.pg fr.toNat).own = 0) with
    | false => rw [ho] at he; cases he
    | true =>
      rw [ho] at he
      cases hw : decide ((P.pg fr.toNat).wit = -2) with
      | true => rw [hw] at he; cases he
      | false =>
        rw [hw] at he
        rw [decide_eq_true_eq] at ho
        rw [decide_eq_false_iff_not] at hw
        have hh := h.host _ hk ho
        cases hp : decide (0 < (P.pg fr.toNat).wit) with
        | false =>
          rw [hp] at he
          cases he
          rw [decide_eq_false_iff_not] at hp
          refine ok2_page h hk _ (by omega) (by dsimp only; omega) (fun _ => .inl rfl) (fun e => by dsimp only at e; omega) (fun i hi hd => ?_) (fun i hi hL => ?_)
          · dsimp only; omega
          · dsimp only; omega
        | true =>
          rw [hp] at he
          cases he
          rw [decide_eq_true_eq] at hp
          rcases hh with e | e | hl
          · omega
          · omega
          have hi := ix_lt ⟨hl.1, hl.2.1⟩
          have hback := ix_back hl.1
          have hlv := h.liv _ hi hl.2.2
          refine ok2_pageM h hk ⟨0, -2⟩ hi (delM (P.gs (ix (P.pg fr.toNat).wit)).maps fr) hl.2.2 rfl (by omega) (by dsimp only; omega) (fun _ => .inl rfl) (fun e => by dsimp only at e; omega) (fun i hi hd => ?_) (fun i hi hne hL => ?_) (mapsOk_del hlv.mp _) ?_ (fun q hq => ?_)
          · dsimp only; omega
          · dsimp only; omega
          · constructor
            · rintro ⟨m, hm, e⟩
              exact absurd (show m.frm = fr by omega) (delM_mem.1 hm).2
            · intro e; dsimp only at e; omega
          · constructor
            · rintro ⟨m, hm, e⟩
              exact ⟨m, (delM_mem.1 hm).1, e⟩
            · rintro ⟨m, hm, e⟩
              exact ⟨m, delM_mem.2 ⟨hm, by omega⟩, e⟩
theorem lent_ok {P P' : PtD} (h : Ok2 P) {n mid was is bad : Int} (hn : 1 ≤ n ∧ n ≤ 4) (hl : (P.gs (ix n)).live = true) (hw : was = -2 ∨ was = 0) (hs : is = -2 ∨ is = 0) (he : P.lentL n mid was is bad = .ok P') : Ok2 P' := by
  unfold lentL at he
  cases hb : btw mid 0 15 with
  | false => rw [hb] at he; cases he
  | true =>
    rw [hb] at he
    cases ht : thereB (P.gs (ix n)).maps mid with
    | false => rw [ht] at he; cases he
    | true =>
      rw [ht] at he
      simp only [Bool.not_true, cond_false] at he
      have hlv := h.liv _ (ix_lt hn) hl
      simp only [thereB, Bool.and_eq_true, decide_eq_true_eq] at ht
      have hr := hlv.mp.rng _ (getD_mem ht.1)
      generalize (P.gs (ix n)).maps.getD (lowb (P.gs (ix n)).maps mid) default = m at hr he
      cases ho : decide ((P.pg m.frm.toNat).own = n) with
      | false => rw [ho] at he; cases he
      | true =>
        rw [ho] at he
        cases hq : decide ((P.pg m.frm.toNat).wit = was) with
        | false => rw [hq] at he; cases he
        | true =>
          rw [hq] at he
          cases he
          rw [decide_eq_true_eq] at ho hq
          refine ok2_page h (by omega) _ (by omega) (by dsimp only; omega) (fun e => by dsimp only at e; omega) (fun _ => ?_) (fun i hi hd => ?_) (fun i hi hL => ?_)
          · rcases hs with rfl | rfl
            · exact .inl rfl
            · exact .inr ⟨rfl, hl⟩
          · dsimp only; omega
          · dsimp only; omega
/-- A machine's processors and the seats changed, all else as it was. -/
theorem ok2_seats {P P' : PtD} (h : Ok2 P) (hp : P'.pages = P.pages) (hgl : P'.guests.length = P.guests.length) (hol : P'.on.length = P.on.length)
    (hg : ∀ i, (P'.gs i).live = (P.gs i).live ∧ (P'.gs i).dying = (P.gs i).dying ∧ (P'.gs i).first = (P.gs i).first ∧ (P'.gs i).maps = (P.gs i).maps)
    (hd : ∀ i, i < 4 → (P.gs i).live = false → (P'.gs i).vcpus = [])
    (hv : ∀ i, i < 4 → (P.gs i).live = true → (P'.gs i).vcpus.length ≤ 2 ∧ vcOk P' i (P'.gs i).vcpus)
    (hs : ∀ c, c < P.on.length → SeatOk P' c) : Ok2 P' := by
  have l1 : ∀ i, (P'.gs i).live = (P.gs i).live := fun i => (hg i).1
  have l2 : ∀ i, (P'.gs i).dying = (P.gs i).dying := fun i => (hg i).2.1
  have l3 : ∀ i, (P'.gs i).first = (P.gs i).first := fun i => (hg i).2.2.1
  have l4 : ∀ i, (P'.gs i).maps = (P.gs i).maps := fun i => (hg i).2.2.2
  have hpg : ∀ f, P'.pg f = P.pg f := fun f => by unfold pg; rw [hp]
  refine ⟨by rw [hp]; exact h.n0, by rw [hp]; exact h.n1, by rw [hgl]; exact h.g4, by rw [hol]; exact h.o1, by rw [hol]; exact h.o3, fun i hi hlv => ?_, fun i hi hlv => ?_, fun i j hij hj hi hj' => ?_, fun f hf => ?_, fun f hf => ?_, fun f hf => ?_, fun f hf => ?_, fun f hf => ?_, fun c hc => hs c (by rw [hol] at hc; exact hc)⟩
  · rw [l1] at hlv
    have := h.dead i hi hlv
    refine ⟨hd i hi hlv, by rw [l4]; exact this.mp, by rw [l3]; exact this.fi, ?_⟩
    rw [l2, hp]; simp only [hpg]; exact this.dy
  · rw [l1] at hlv
    have := h.liv i hi hlv
    refine ⟨by rw [l2]; exact this.dy, by rw [l3]; exact this.f0, by rw [l3, hp]; exact this.f1, (hv i hi hlv).1, (hv i hi hlv).2, by rw [l4, hp]; exact this.mp, ?_⟩
    rw [hp, l4]; simp only [hpg]; exact this.us
  · rw [l1] at hi hj'
    rw [l3, l3]
    exact h.apart i j hij hj hi hj'
  · rw [hp] at hf
    rw [hpg, h.hyp f hf]
    unfold inTab
    simp only [l1, l3]
  · rw [hp] at hf; rw [hpg]; exact h.hypw f hf
  · rw [hp] at hf; rw [hpg]; exact h.who f hf
  · rw [hp] at hf; rw [hpg]
    have := h.host f hf
    unfold HostOk at *
    simp only [l1]
    exact this
  · rw [hp] at hf; rw [hpg]
    have := h.guest f hf
    unfold GuestOk at *
    simp only [l1]
    exact this
theorem more_ok {P P' : PtD} (h : Ok2 P) {vm : Int} (he : P.moreL vm = .ok P') : Ok2 P' := by
  unfold moreL at he
  cases hb : btw vm 1 4 with
  | false => rw [hb] at he; cases he
  | true =>
    rw [hb] at he
    have hv := hb
    simp only [btw, Bool.and_eq_true, decide_eq_true_eq] at hv
    cases hl : (P.gs (ix vm)).live with
    | false => rw [hl] at he; cases he
    | true =>
      rw [hl] at he
      cases hq : decide (2 ≤ (P.gs (ix vm)).vcpus.length) with
      | true => rw [hq] at he; cases he
      | false =>
        rw [hq] at he
        cases he
        rw [decide_eq_false_iff_not] at hq
        have hi := ix_lt hv
        have g4 := h.g4
        have hgs := setGs_gs P (ix vm) { P.gs (ix vm) with vcpus := (P.gs (ix vm)).vcpus ++ [-1] } (by omega)
        have hap : ∀ v, v < (P.gs (ix vm)).vcpus.length → ((P.gs (ix vm)).vcpus ++ [-1]).getD v 0 = (P.gs (ix vm)).vcpus.getD v 0 := by
          intro v hv
          rw [List.getD_eq_getElem?_getD, List.getD_eq_getElem?_getD, List.getElem?_append_left hv]
        refine ok2_seats h rfl (by simp [setGs]) rfl (fun i => ?_) (fun i hi hd => ?_) (fun i hi hL => ?_) (fun c hc => ?_)
        · rw [hgs]; split
          · rename_i e; subst e; exact ⟨rfl, rfl, rfl, rfl⟩
          · exact ⟨rfl, rfl, rfl, rfl⟩
        · rw [hgs]; split
          · rename_i e; subst e; rw [hl] at hd; cases hd
          · exact (h.dead i hi hd).vc
        · have hlv := h.liv i hi hL
          rw [hgs]; split
          · rename_i e; subst e
            refine ⟨by simp; omega, fun v hv2 => ?_⟩
            dsimp only at hv2 ⊢
            rw [List.length_append, List.length_singleton] at hv2
            by_cases hvl : v < (P.gs (ix vm)).vcpus.length
            · rw [hap v hvl]; exact hlv.vc v hvl
            · left
              rw [List.getD_eq_getElem?_getD, List.getElem?_append_right (by omega), show v - (P.gs (ix vm)).vcpus.length = 0 by omega]; rfl
          · exact ⟨hlv.vl, hlv.vc⟩
        · rcases h.seat c hc with a | ⟨a, b, c', d, e, f⟩
          · exact .inl a
          · refine .inr ⟨a, b, ?_, d, ?_, ?_⟩
            · show ((P.setGs (ix vm) _).gs (ix (P.st c).vm)).live = true
              rw [hgs]; split
              · exact hl
              · exact c'
            · show (P.st c).cpu.toNat < ((P.setGs (ix vm) _).gs (ix (P.st c).vm)).vcpus.length
              rw [hgs]; split
              · rename_i e2; rw [e2] at e; simp; omega
              · exact e
            · show ((P.setGs (ix vm) _).gs (ix (P.st c).vm)).vcpus.getD (P.st c).cpu.toNat 0 = (c : Int)
              rw [hgs]; split
              · rename_i e2; rw [e2] at e f; rw [hap _ e]; exact f
              · exact f
theorem run_ok {P P' : PtD} (h : Ok2 P) {cpu : Nat} (hc : cpu < P.on.length) (h0 : (P.st cpu).vm = 0) {vm vc : Int} (he : P.runL cpu vm vc = .ok P') : Ok2 P' := by
  unfold runL at he
  cases hb : btw vm 1 4 with
  | false => rw [hb] at he; cases he
  | true =>
    rw [hb] at he
    have hv := hb
    simp only [btw, Bool.and_eq_true, decide_eq_true_eq] at hv
    cases hl : !(P.gs (ix vm)).live || !btw vc 0 (((P.gs (ix vm)).vcpus.length : Int) - 1) with
    | true => simp only [hl, Bool.not_true, cond_true, cond_false] at he; cases he
    | false =>
      simp only [hl, Bool.not_true, cond_true, cond_false] at he
      cases hq : decide ((P.gs (ix vm)).vcpus.getD vc.toNat 0 = -1) with
      | false => rw [hq] at he; cases he
      | true =>
        rw [hq] at he
        cases he
        rw [decide_eq_true_eq] at hq
        simp only [Bool.or_eq_false_iff, Bool.not_eq_false', btw, Bool.and_eq_true, decide_eq_true_eq] at hl
        obtain ⟨hl, hvc⟩ := hl
        have hi := ix_lt hv
        have hback := ix_back hv.1
        have g4 := h.g4
        have hk : vc.toNat < (P.gs (ix vm)).vcpus.length := by omega
        have hgs : ∀ i, ((P.setGs (ix vm) { P.gs (ix vm) with vcpus := (P.gs (ix vm)).vcpus.set vc.toNat (cpu : Int) }).setSt cpu ⟨vm, vc⟩).gs i = if i = ix vm then { P.gs (ix vm) with vcpus := (P.gs (ix vm)).vcpus.set vc.toNat (cpu : Int) } else P.gs i := setGs_gs P (ix vm) _ (by omega)
        have hst : ∀ i, ((P.setGs (ix vm) { P.gs (ix vm) with vcpus := (P.gs (ix vm)).vcpus.set vc.toNat (cpu : Int) }).setSt cpu ⟨vm, vc⟩).st i = if i = cpu then ⟨vm, vc⟩ else P.st i := setSt_st (P.setGs (ix vm) _) cpu _ hc
        refine ok2_seats h rfl (by simp [setGs, setSt]) (by simp [setSt, setGs]) (fun i => ?_) (fun i hi hd => ?_) (fun i hi hL => ?_) (fun c hc => ?_)
        · rw [hgs]; split
          · rename_i e; subst e; exact ⟨rfl, rfl, rfl, rfl⟩
          · exact ⟨rfl, rfl, rfl, rfl⟩
        · rw [hgs]; split
          · rename_i e; subst e; rw [hl] at hd; cases hd
          · exact (h.dead i hi hd).vc
        · have hlv := h.liv i hi hL
          have hold : ∀ v, v < (P.gs i).vcpus.length → (P.gs i).vcpus.getD v 0 = -1 ∨ (0 ≤ (P.gs i).vcpus.getD v 0 ∧ ((P.gs i).vcpus.getD v 0).toNat < P.on.length ∧ (P.st ((P.gs i).vcpus.getD v 0).toNat).vm = (i : Int) + 1 ∧ (P.st ((P.gs i).vcpus.getD v 0).toNat).cpu = v ∧ ((P.gs i).vcpus.getD v 0).toNat ≠ cpu) := by
            intro v hv2
            rcases hlv.vc v hv2 with e | ⟨a, b, c', d⟩
            · exact .inl e
            · refine .inr ⟨a, b, c', d, fun e => ?_⟩
              rw [e, h0] at c'; omega
          have hol : ((P.setGs (ix vm) { P.gs (ix vm) with vcpus := (P.gs (ix vm)).vcpus.set vc.toNat (cpu : Int) }).setSt cpu ⟨vm, vc⟩).on.length = P.on.length := by simp [setSt, setGs]
          rw [hgs]; split
          · rename_i e; subst e
            refine ⟨by simpa using hlv.vl, fun v hv2 => ?_⟩
            dsimp only at hv2 ⊢
            rw [List.length_set] at hv2
            rw [getD_set hk]
            by_cases e : v = vc.toNat
            · rw [if_pos e]
              right
              refine ⟨by omega, by rw [hol]; simpa using hc, ?_, ?_⟩
              · rw [hst, if_pos (by simp)]; dsimp only; omega
              · rw [hst, if_pos (by simp)]; dsimp only; omega
            · rw [if_neg e]
              rcases hold v hv2 with a | ⟨a, b, c', d, e2⟩
              · exact .inl a
              · refine .inr ⟨a, by rw [hol]; exact b, ?_, ?_⟩
                · rw [hst, if_neg e2]; exact c'
                · rw [hst, if_neg e2]; exact d
          · refine ⟨hlv.vl, fun v hv2 => ?_⟩
            rcases hold v hv2 with a | ⟨a, b, c', d, e2⟩
            · exact .inl a
            · refine .inr ⟨a, by rw [hol]; exact b, ?_, ?_⟩
              · rw [hst, if_neg e2]; exact c'
              · rw [hst, if_neg e2]; exact d
        · unfold SeatOk
          rw [hst]
          by_cases hcc : c = cpu
          · rw [if_pos hcc]
            right
            dsimp only
            rw [hgs, if_pos rfl]
            refine ⟨hv.1, hv.2, hl, hvc.1, ?_, ?_⟩
            · simpa using hk
            · dsimp only
              rw [getD_set hk, if_pos rfl, hcc]
          · rw [if_neg hcc]
            rcases h.seat c hc with a | ⟨a, b, c', d, e, f⟩
            · exact .inl a
            · right
              rw [hgs]
              split
              · rename_i e2
                rw [e2] at e f
                refine ⟨a, b, hl, d, by simpa using e, ?_⟩
                dsimp only
                rw [getD_set hk]
                split
                · rename_i e3
                  rw [e3, hq] at f; omega
                · exact f
              · exact ⟨a, b, c', d, e, f⟩
theorem stop_ok {P : PtD} (h : Ok2 P) {cpu : Nat} (hc : cpu < P.on.length) (h0 : (P.st cpu).vm ≠ 0) : Ok2 (P.stopL cpu) := by
  rcases h.seat cpu hc with ⟨a, _⟩ | ⟨s1, s2, hl, hvc, hk, hq⟩
  · exact absurd a h0
  have g4 := h.g4
  have hi := ix_lt ⟨s1, s2⟩
  have hback := ix_back s1
  have hgs : ∀ i, (P.stopL cpu).gs i = if i = ix (P.st cpu).vm then { P.gs (ix (P.st cpu).vm) with vcpus := (P.gs (ix (P.st cpu).vm)).vcpus.set (P.st cpu).cpu.toNat (-1) } else P.gs i := setGs_gs P _ _ (by omega)
  have hst : ∀ i, (P.stopL cpu).st i = if i = cpu then ⟨0, 0⟩ else P.st i := setSt_st (P.setGs _ _) cpu _ hc
  have hol : (P.stopL cpu).on.length = P.on.length := by simp [stopL, setSt, setGs]
  refine ok2_seats h rfl (by simp [stopL, setGs, setSt]) hol (fun i => ?_) (fun i hi hd => ?_) (fun i hi hL => ?_) (fun c hc2 => ?_)
  · rw [hgs]; split
    · rename_i e; subst e; exact ⟨rfl, rfl, rfl, rfl⟩
    · exact ⟨rfl, rfl, rfl, rfl⟩
  · rw [hgs]; split
    · rename_i e; subst e; rw [hl] at hd; cases hd
    · exact (h.dead i hi hd).vc
  · have hlv := h.liv i hi hL
    have hold : ∀ v, v < (P.gs i).vcpus.length → ¬ (i = ix (P.st cpu).vm ∧ v = (P.st cpu).cpu.toNat) → (P.gs i).vcpus.getD v 0 = -1 ∨ (0 ≤ (P.gs i).vcpus.getD v 0 ∧ ((P.gs i).vcpus.getD v 0).toNat < (P.stopL cpu).on.length ∧ ((P.stopL cpu).st ((P.gs i).vcpus.getD v 0).toNat).vm = (i : Int) + 1 ∧ ((P.stopL cpu).st ((P.gs i).vcpus.getD v 0).toNat).cpu = v) := by
      intro v hv2 hne
      rcases hlv.vc v hv2 with e | ⟨a, b, c', d⟩
      · exact .inl e
      · have e2 : ¬ ((P.gs i).vcpus.getD v 0).toNat = cpu := by
          intro e2
          rw [e2] at c' d
          exact hne ⟨by unfold ix; omega, by omega⟩
        refine .inr ⟨a, by rw [hol]; exact b, ?_, ?_⟩
        · rw [hst, if_neg e2]; exact c'
        · rw [hst, if_neg e2]; exact d
    rw [hgs]; split
    · rename_i e; subst e
      refine ⟨by simpa using hlv.vl, fun v hv2 => ?_⟩
      dsimp only at hv2 ⊢
      rw [List.length_set] at hv2
      rw [getD_set hk]
      by_cases e : v = (P.st cpu).cpu.toNat
      · rw [if_pos e]; exact .inl rfl
      · rw [if_neg e]
        exact hold v hv2 (fun h => e h.2)
    · rename_i e
      exact ⟨hlv.vl, fun v hv2 => hold v hv2 (fun h => e h.1)⟩
  · unfold SeatOk
    rw [hst]
    by_cases hcc : c = cpu
    · rw [if_pos hcc]; exact .inl ⟨rfl, rfl⟩
    · rw [if_neg hcc]
      rcases h.seat c hc2 with a | ⟨a, b, c', d, e, f⟩
      · exact .inl a
      · right
        rw [hgs]
        split
        · rename_i e2
          rw [e2] at e f
          refine ⟨a, b, hl, d, by simpa using e, ?_⟩
          dsimp only
          rw [getD_set hk]
          split
          · rename_i e3
            rw [e3, hq] at f; omega
          · exact f
        · exact ⟨a, b, c', d, e, f⟩
theorem reclaim_ok {P P' : PtD} (h : Ok2 P) {fr : Int} (he : P.reclaimL fr = .ok P') : Ok2 P' := by
  unfold reclaimL at he
  cases hb : btw fr 16 ((P.pages.length : Int) - 1) with
  | false => rw [hb] at he; cases he
  | true =>
    rw [hb] at he
    have hb' := hb
    simp only [btw, Bool.and_eq_true, decide_eq_true_eq] at hb'
    have hk : fr.toNat < P.pages.length := by omega
    cases hq : decide ((P.pg fr.toNat).own < 1) || !(P.gs (ix (P.pg fr.toNat).own)).dying with
    | true => simp only [hq, Bool.not_true, cond_true, cond_false] at he; cases he
    | false =>
      simp only [hq, Bool.not_true, cond_true, cond_false] at he
      cases he
      simp only [Bool.or_eq_false_iff, decide_eq_false_iff_not, Bool.not_eq_false'] at hq
      obtain ⟨hn1, hdy⟩ := hq
      have hw := h.who _ hk
      have hi : ix (P.pg fr.toNat).own < 4 := ix_lt ⟨by omega, hw.2⟩
      have hback := ix_back (show 1 ≤ (P.pg fr.toNat).own by omega)
      have hwd : (P.pg fr.toNat).wit = -2 ∨ ((P.pg fr.toNat).wit = 0 ∧ (P.gs (ix (P.pg fr.toNat).own)).live = true) := h.guest _ hk (by omega)
      have hown : ∀ x, (P.pg fr.toNat).own = x → (P.pg fr.toNat).own = x := fun _ e => e
      generalize hn : (P.pg fr.toNat).own = n at *
      have g4 := h.g4
      have hdead : (P.gs (ix n)).live = false := by
        cases hl : (P.gs (ix n)).live
        · rfl
        · have := (h.liv _ hi hl).dy; rw [hdy] at this; cases this
      have hwit : (P.pg fr.toNat).wit = -2 := by
        rcases hwd with e | ⟨_, e⟩
        · exact e
        · rw [hdead] at e; cases e
      have hgs : ∀ i, ((P.setPg fr.toNat ⟨0, -2⟩).setGs (ix n) { P.gs (ix n) with dying := (P.setPg fr.toNat ⟨0, -2⟩).owns n }).gs i = if i = ix n then { P.gs (ix n) with dying := (P.setPg fr.toNat ⟨0, -2⟩).owns n } else P.gs i := setGs_gs (P.setPg fr.toNat ⟨0, -2⟩) _ _ (by show ix n < P.guests.length; omega)
      have hpg : ∀ f, ((P.setPg fr.toNat ⟨0, -2⟩).setGs (ix n) { P.gs (ix n) with dying := (P.setPg fr.toNat ⟨0, -2⟩).owns n }).pg f = if f = fr.toNat then ⟨0, -2⟩ else P.pg f := setPg_pg P fr.toNat _ hk
      have hl : ((P.setPg fr.toNat ⟨0, -2⟩).setGs (ix n) { P.gs (ix n) with dying := (P.setPg fr.toNat ⟨0, -2⟩).owns n }).pages.length = P.pages.length := by simp [setPg, setGs]
      have hst : ∀ c, ((P.setPg fr.toNat ⟨0, -2⟩).setGs (ix n) { P.gs (ix n) with dying := (P.setPg fr.toNat ⟨0, -2⟩).owns n }).st c = P.st c := fun c => rfl
      have hon : ((P.setPg fr.toNat ⟨0, -2⟩).setGs (ix n) { P.gs (ix n) with dying := (P.setPg fr.toNat ⟨0, -2⟩).owns n }).on = P.on := rfl
      have hgl : ((P.setPg fr.toNat ⟨0, -2⟩).setGs (ix n) { P.gs (ix n) with dying := (P.setPg fr.toNat ⟨0, -2⟩).owns n }).guests.length = 4 := by simp [setPg, setGs, g4]
      have hdyn : (P.setPg fr.toNat ⟨0, -2⟩).owns n = true ↔ ∃ f, f < P.pages.length ∧ (if f = fr.toNat then (⟨0, -2⟩ : PgD) else P.pg f).own = n := by
        rw [owns_iff]
        simp only [setPg_pg P fr.toNat ⟨0, -2⟩ hk]
        simp [setPg]
      generalize hP' : (P.setPg fr.toNat ⟨0, -2⟩).setGs (ix n) { P.gs (ix n) with dying := (P.setPg fr.toNat ⟨0, -2⟩).owns n } = P' at *
      have l1 : ∀ i, (P'.gs i).live = (P.gs i).live := fun i => by rw [hgs]; split <;> simp_all
      have l3 : ∀ i, (P'.gs i).first = (P.gs i).first := fun i => by rw [hgs]; split <;> simp_all
      have l4 : ∀ i, (P'.gs i).maps = (P.gs i).maps := fun i => by rw [hgs]; split <;> simp_all
      have l5 : ∀ i, (P'.gs i).vcpus = (P.gs i).vcpus := fun i => by rw [hgs]; split <;> simp_all
      refine ⟨by rw [hl]; exact h.n0, by rw [hl]; exact h.n1, hgl, by rw [hon]; exact h.o1, by rw [hon]; exact h.o3, fun i hi2 hlv => ?_, fun i hi2 hlv => ?_, fun i j hij hj hi hj' => ?_, fun f hf => ?_, fun f hf => ?_, fun f hf => ?_, fun f hf => ?_, fun f hf => ?_, fun c hc => ?_⟩
      · rw [l1] at hlv
        have hd := h.dead i hi2 hlv
        refine ⟨by rw [l5]; exact hd.vc, by rw [l4]; exact hd.mp, by rw [l3]; exact hd.fi, ?_⟩
        rw [hl]
        simp only [hpg]
        rw [hgs]
        by_cases e : i = ix n
        · rw [if_pos e]
          dsimp only
          rw [hdyn, show ((i : Int) + 1) = n by rw [e]; exact hback]
        · rw [if_neg e, hd.dy]
          constructor
          · rintro ⟨f, hf, hfo⟩
            refine ⟨f, hf, ?_⟩
            rw [if_neg ?_]
            · exact hfo
            · intro e2; rw [e2, hn] at hfo; exact e (by unfold ix; omega)
          · rintro ⟨f, hf, hfo⟩
            refine ⟨f, hf, ?_⟩
            by_cases e2 : f = fr.toNat
            · rw [if_pos e2] at hfo; dsimp only at hfo; omega
            · rw [if_neg e2] at hfo; exact hfo
      · rw [l1] at hlv
        have hv := h.liv i hi2 hlv
        have hne : i ≠ ix n := by
          intro e; rw [e, hdead] at hlv; cases hlv
        refine ⟨?_, by rw [l3]; exact hv.f0, by rw [l3, hl]; exact hv.f1, by rw [l5]; exact hv.vl, ?_, by rw [l4, hl]; exact hv.mp, ?_⟩
        · rw [hgs, if_neg hne]; exact hv.dy
        · intro v hvv
          rw [l5] at hvv ⊢
          simp only [hst, hon]
          exact hv.vc v hvv
        · intro f hf
          rw [hl] at hf
          rw [l4, hv.us f hf, hpg]
          by_cases e2 : f = fr.toNat
          · rw [if_pos e2, e2, hn, hwit]
            dsimp only
            unfold ix at hne
            omega
          · rw [if_neg e2]
      · rw [l1] at hi hj'
        rw [l3, l3]
        exact h.apart i j hij hj hi hj'
      · rw [hl] at hf
        have : P'.inTab f ↔ P.inTab f := by unfold inTab; simp only [l1, l3]
        rw [this, ← h.hyp f hf, hpg]
        by_cases e2 : f = fr.toNat
        · rw [if_pos e2, e2, hn]; dsimp only; omega
        · rw [if_neg e2]
      · rw [hl] at hf
        rw [hpg]
        by_cases e2 : f = fr.toNat
        · rw [if_pos e2]; intro _; rfl
        · rw [if_neg e2]; exact h.hypw f hf
      · rw [hl] at hf
        rw [hpg]
        by_cases e2 : f = fr.toNat
        · rw [if_pos e2]; dsimp only; omega
        · rw [if_neg e2]; exact h.who f hf
      · rw [hl] at hf
        unfold HostOk
        rw [hpg]
        by_cases e2 : f = fr.toNat
        · rw [if_pos e2]; intro _; exact .inl rfl
        · rw [if_neg e2]
          have := h.host f hf
          unfold HostOk at this
          simp only [l1]
          exact this
      · rw [hl] at hf
        unfold GuestOk
        rw [hpg]
        by_cases e2 : f = fr.toNat
        · rw [if_pos e2]; intro _; exact .inl rfl
        · rw [if_neg e2]
          have := h.guest f hf
          unfold GuestOk at this
          simp only [l1]
          exact this
      · rw [hon] at hc
        have := h.seat c hc
        unfold SeatOk at *
        simp only [hst, l1, l5]
        exact this
theorem five_none {P : PtD} {f : Nat} (hf : f + 5 ≤ P.pages.length) {p : PgD → Bool} (h : (P.five f).any p = false) {q : Nat} (h1 : f ≤ q) (h2 : q < f + 5) : p (P.pg q) = false := by
  rw [List.any_eq_false] at h
  have hm : P.pg q ∈ P.five f := by
    rw [List.mem_iff_getElem]
    refine ⟨q - f, by rw [five, List.length_take, List.length_drop]; omega, ?_⟩
    unfold five pg
    rw [List.getElem_take, List.getElem_drop, List.getD_eq_getElem?_getD, List.getElem?_eq_getElem (by omega)]
    simp only [Option.getD_some]
    congr 1
    omega
  simpa using h _ hm
theorem idxI_ok {α : Type} [Inhabited α] {p : α → Bool} {l : List α} (h : 0 ≤ idxI p l) : (idxI p l).toNat < l.length ∧ p (l.getD (idxI p l).toNat default) = true := by
  rcases PtD.first_hit (p := fun j => p (l.getD j default)) l.length with h2 | ⟨k, hk, h1, h2⟩
  · rw [idxI_none h2] at h; omega
  · rw [idxI_at hk h1 h2]; exact ⟨hk, h1⟩
theorem create_ok {P P' : PtD} (h : Ok2 P) {fr : Int} (he : P.createL fr = .ok P') : Ok2 P' := by
  unfold createL at he
  cases hb : !btw fr 16 ((P.pages.length : Int) - 1) || decide ((P.pages.length : Int) - 5 < fr) with
  | true => simp only [hb, cond_true] at he; cases he
  | false =>
    simp only [hb, cond_false] at he
    simp only [Bool.or_eq_false_iff, Bool.not_eq_false', btw, Bool.and_eq_true, decide_eq_true_eq, decide_eq_false_iff_not] at hb
    cases ho : (P.five fr.toNat).any (fun x => !decide (x.own = 0)) with
    | true => simp only [ho, cond_true] at he; cases he
    | false =>
      simp only [ho, cond_false] at he
      cases hw : (P.five fr.toNat).any (fun x => !decide (x.wit = -2)) with
      | true => simp only [hw, cond_true] at he; cases he
      | false =>
        simp only [hw, cond_false] at he
        cases hx : decide (0 ≤ idxI idle P.guests) with
        | false => rw [hx] at he; cases he
        | true =>
          rw [hx] at he
          cases he
          rw [decide_eq_true_eq] at hx
          obtain ⟨hj, hidle⟩ := idxI_ok hx
          generalize (idxI idle P.guests).toNat = j at hj hidle
          have hidle' : (P.gs j).live = false ∧ (P.gs j).dying = false := by
            have : idle (P.gs j) = true := hidle
            simpa [idle] using this
          have g4 := h.g4
          have hj4 : j < 4 := by omega
          have hfr : fr.toNat + 5 ≤ P.pages.length := by omega
          have hown : ∀ q, fr.toNat ≤ q → q < fr.toNat + 5 → (P.pg q).own = 0 ∧ (P.pg q).wit = -2 := by
            intro q h1 h2
            have a := five_none hfr ho h1 h2
            have b := five_none hfr hw h1 h2
            simp at a b
            exact ⟨a, b⟩
          have hpg : ∀ q, ((P.claim fr.toNat 5).setGs j ⟨true, false, fr, [], []⟩).pg q = if fr.toNat ≤ q ∧ q < fr.toNat + 5 then ⟨-1, -2⟩ else P.pg q := claim_pg P fr.toNat 5 hfr
          have hgs : ∀ i, ((P.claim fr.toNat 5).setGs j ⟨true, false, fr, [], []⟩).gs i = if i = j then ⟨true, false, fr, [], []⟩ else P.gs i := by
            intro i
            rw [setGs_gs (P.claim fr.toNat 5) j _ (by rw [claim_gs]; omega)]
            split
            · rfl
            · unfold gs; rw [claim_gs]
          have hst : ∀ c, ((P.claim fr.toNat 5).setGs j ⟨true, false, fr, [], []⟩).st c = P.st c := fun c => by unfold st setGs; rw [claim_on]
          have hon : ((P.claim fr.toNat 5).setGs j ⟨true, false, fr, [], []⟩).on = P.on := by unfold setGs; exact claim_on P _ _
          have hl : ((P.claim fr.toNat 5).setGs j ⟨true, false, fr, [], []⟩).pages.length = P.pages.length := by unfold setGs; exact claim_len P _ _
          have hgl : ((P.claim fr.toNat 5).setGs j ⟨true, false, fr, [], []⟩).guests.length = 4 := by unfold setGs; simp [claim_gs, g4]
          generalize (P.claim fr.toNat 5).setGs j ⟨true, false, fr, [], []⟩ = P' at *
          have lL : ∀ i, (P.gs i).live = true → i ≠ j := by
            rintro i hi rfl
            rw [hidle'.1] at hi; cases hi
          have lU : ∀ i, (P.gs i).live = true → (P'.gs i).live = true := by
            intro i hi
            rw [hgs, if_neg (lL i hi)]; exact hi
          have hnj : ∀ f, f < P.pages.length → (P.pg f).own ≠ (j : Int) + 1 := by
            intro f hf e
            have := (h.dead j hj4 hidle'.1).dy.2 ⟨f, hf, e⟩
            rw [hidle'.2] at this; cases this
          have hnj2 : ∀ f, f < P.pages.length → (P.pg f).wit ≠ (j : Int) + 1 := by
            intro f hf e
            have hw1 := h.who f hf
            rcases Int.lt_trichotomy (P.pg f).own 0 with h1 | h1 | h1
            · have := h.hypw f hf (by omega); omega
            · have := h.host f hf h1
              rw [e, ix_of] at this
              rcases this with h2 | h2 | ⟨_, _, h2⟩
              · omega
              · omega
              · rw [hidle'.1] at h2; cases h2
            · have := h.guest f hf h1
              rcases this with h2 | ⟨h2, _⟩ <;> omega
          have hapart : ∀ i, i < 4 → (P.gs i).live = true → (P.gs i).first + 5 ≤ fr ∨ fr + 5 ≤ (P.gs i).first := by
            intro i hi hlv
            have hv := h.liv i hi hlv
            rcases Classical.em ((P.gs i).first + 5 ≤ fr ∨ fr + 5 ≤ (P.gs i).first) with e | e
            · exact e
            · exfalso
              have f0 := hv.f0
              have f1 := hv.f1
              rcases Int.le_total fr (P.gs i).first with e2 | e2
              · have h1 := (hown (P.gs i).first.toNat (by omega) (by omega)).1
                have h2 := (h.hyp (P.gs i).first.toNat (by omega)).2 (.inr ⟨i, hi, hlv, by omega, by omega⟩)
                omega
              · have h1 := (hown fr.toNat (by omega) (by omega)).1
                have h2 := (h.hyp fr.toNat (by omega)).2 (.inr ⟨i, hi, hlv, by omega, by omega⟩)
                omega
          refine ⟨by rw [hl]; exact h.n0, by rw [hl]; exact h.n1, hgl, by rw [hon]; exact h.o1, by rw [hon]; exact h.o3, fun i hi2 hlv => ?_, fun i hi2 hlv => ?_, fun i k hik hk hi hk' => ?_, fun f hf => ?_, fun f hf => ?_, fun f hf => ?_, fun f hf => ?_, fun f hf => ?_, fun c hc => ?_⟩
          · rw [hgs] at hlv
            by_cases e : i = j
            · rw [if_pos e] at hlv; cases hlv
            · rw [if_neg e] at hlv
              have hd := h.dead i hi2 hlv
              rw [show DeadOk P' i = DeadOk P' i from rfl]
              refine ⟨?_, ?_, ?_, ?_⟩
              · rw [hgs, if_neg e]; exact hd.vc
              · rw [hgs, if_neg e]; exact hd.mp
              · rw [hgs, if_neg e]; exact hd.fi
              · rw [hgs, if_neg e, hd.dy, hl]
                simp only [hpg]
                constructor
                · rintro ⟨f, hf, hfo⟩
                  refine ⟨f, hf, ?_⟩
                  rw [if_neg]
                  · exact hfo
                  · rintro ⟨h1, h2⟩
                    have := (hown f h1 h2).1
                    omega
                · rintro ⟨f, hf, hfo⟩
                  refine ⟨f, hf, ?_⟩
                  split at hfo
                  · dsimp only at hfo; omega
                  · exact hfo
          · by_cases e : i = j
            · have hg : P'.gs i = ⟨true, false, fr, [], []⟩ := by rw [hgs, if_pos e]
              refine ⟨by rw [hg], by rw [hg]; dsimp only; omega, by rw [hg, hl]; dsimp only; omega, by rw [hg]; simp, ?_, ?_, ?_⟩
              · rw [hg]; intro v hv; simp at hv
              · rw [hg]; exact ⟨fun a b _ hb => by simp at hb, fun x hx => by simp at hx, fun a b _ hb => by simp at hb⟩
              · intro f hf
                rw [hl] at hf
                rw [hg, hpg, e]
                constructor
                · rintro ⟨m, hm, _⟩; simp at hm
                · intro hu
                  exfalso
                  split at hu
                  · dsimp only at hu; omega
                  · have a := hnj f hf
                    have b := hnj2 f hf
                    omega
            · have hg : P'.gs i = P.gs i := by rw [hgs, if_neg e]
              rw [hg] at hlv
              have hv := h.liv i hi2 hlv
              refine ⟨by rw [hg]; exact hv.dy, by rw [hg]; exact hv.f0, by rw [hg, hl]; exact hv.f1, by rw [hg]; exact hv.vl, ?_, by rw [hg, hl]; exact hv.mp, ?_⟩
              · intro v hvv
                rw [hg] at hvv ⊢
                simp only [hst, hon]
                exact hv.vc v hvv
              · intro f hf
                rw [hl] at hf
                rw [hg, hpg, hv.us f hf]
                split
                · rename_i h1
                  have := hown f h1.1 h1.2
                  dsimp only
                  omega
                · rfl
          · rw [hgs] at hi hk'
            rw [hgs, hgs]
            by_cases e1 : i = j
            · rw [if_pos e1]
              have e2 : ¬ k = j := by omega
              rw [if_neg e2] at hk' ⊢
              have := hapart k hk hk'
              dsimp only
              omega
            · rw [if_neg e1] at hi ⊢
              by_cases e2 : k = j
              · rw [if_pos e2]
                have := hapart i (by omega) hi
                dsimp only
                omega
              · rw [if_neg e2] at hk' ⊢
                exact h.apart i k hik hk hi hk'
          · rw [hl] at hf
            rw [hpg]
            have hin : P'.inTab f ↔ (P.inTab f ∨ (fr.toNat ≤ f ∧ f < fr.toNat + 5)) := by
              unfold inTab
              constructor
              · rintro (h1 | ⟨i, hi, h2, h3, h4⟩)
                · exact .inl (.inl h1)
                · rw [hgs] at h2 h3 h4
                  by_cases e : i = j
                  · rw [if_pos e] at h3 h4
                    dsimp only at h3 h4
                    exact .inr (by omega)
                  · rw [if_neg e] at h2 h3 h4
                    exact .inl (.inr ⟨i, hi, h2, h3, h4⟩)
              · rintro ((h1 | ⟨i, hi, h2, h3, h4⟩) | h1)
                · exact .inl h1
                · refine .inr ⟨i, hi, lU i h2, ?_⟩
                  rw [hgs, if_neg (lL i h2)]
                  exact ⟨h3, h4⟩
                · refine .inr ⟨j, hj4, ?_⟩
                  rw [hgs, if_pos rfl]
                  dsimp only
                  exact ⟨rfl, by omega, by omega⟩
            rw [hin]
            split
            · rename_i h1
              exact ⟨fun _ => .inr h1, fun _ => rfl⟩
            · rename_i h1
              rw [h.hyp f hf]
              exact ⟨.inl, fun h2 => h2.resolve_right h1⟩
          · rw [hl] at hf
            rw [hpg]
            split
            · intro _; rfl
            · exact h.hypw f hf
          · rw [hl] at hf
            rw [hpg]
            split
            · dsimp only; omega
            · exact h.who f hf
          · rw [hl] at hf
            unfold HostOk
            rw [hpg]
            split
            · intro e; dsimp only at e; omega
            · intro e
              rcases h.host f hf e with h1 | h1 | ⟨h1, h2, h3⟩
              · exact .inl h1
              · exact .inr (.inl h1)
              · exact .inr (.inr ⟨h1, h2, lU _ h3⟩)
          · rw [hl] at hf
            unfold GuestOk
            rw [hpg]
            split
            · intro e; dsimp only at e; omega
            · intro e
              rcases h.guest f hf e with h1 | ⟨h1, h3⟩
              · exact .inl h1
              · exact .inr ⟨h1, lU _ h3⟩
          · rw [hon] at hc
            have := h.seat c hc
            unfold SeatOk
            simp only [hst]
            rcases this with a | ⟨a, b, c', d, e, f⟩
            · exact .inl a
            · refine .inr ⟨a, b, lU _ c', d, ?_⟩
              rw [hgs, if_neg (lL _ c')]
              exact ⟨e, f⟩
theorem swept_own {vm : Int} {x : PgD} : (swept vm x).own = x.own := by
  unfold swept; cases decide (x.own = vm) || (decide (x.own = 0) && decide (x.wit = vm)) <;> rfl
theorem swept_wit {vm : Int} {x : PgD} : (swept vm x).wit = if x.own = vm ∨ (x.own = 0 ∧ x.wit = vm) then -2 else x.wit := by
  unfold swept
  cases hc : decide (x.own = vm) || (decide (x.own = 0) && decide (x.wit = vm)) with
  | true => rw [if_pos (by simpa using hc)]; rfl
  | false => rw [if_neg (by rw [← Bool.not_eq_true] at hc; simpa using hc)]; rfl
theorem destroy_ok {P P' : PtD} (h : Ok2 P) {vm : Int} (he : P.destroyL vm = .ok P') : Ok2 P' := by
  unfold destroyL at he
  cases hb : btw vm 1 4 with
  | false => rw [hb] at he; cases he
  | true =>
    rw [hb] at he
    have hv := hb
    simp only [btw, Bool.and_eq_true, decide_eq_true_eq] at hv
    cases hlv : (P.gs (ix vm)).live with
    | false => rw [hlv] at he; cases he
    | true =>
      rw [hlv] at he
      cases hq : (P.gs (ix vm)).vcpus.any (fun x => decide (0 ≤ x)) with
      | true => rw [hq] at he; cases he
      | false =>
        rw [hq] at he
        cases he
        have hj := ix_lt hv
        have hback := ix_back hv.1
        have g4 := h.g4
        have hJ := h.liv _ hj hlv
        have f0 := hJ.f0
        have f1 := hJ.f1
        have hnone : ∀ v, v < (P.gs (ix vm)).vcpus.length → ¬ 0 ≤ (P.gs (ix vm)).vcpus.getD v 0 := by
          intro v hv2 h0
          rw [List.any_eq_false] at hq
          refine hq _ (?_ : (P.gs (ix vm)).vcpus.getD v 0 ∈ _) (by simpa using h0)
          rw [List.getD_eq_getElem?_getD, List.getElem?_eq_getElem hv2]; simp
        have hpg : ∀ q, q < P.pages.length → ((P.gone vm).setGs (ix vm) ⟨false, (P.gone vm).owns vm, 0, [], []⟩).pg q = if (P.gs (ix vm)).first.toNat ≤ q ∧ q < (P.gs (ix vm)).first.toNat + 5 then ⟨0, -2⟩ else swept vm (P.pg q) := by
          intro q hq
          show (P.gone vm).pg q = _
          rw [gone, frees_pg _ _ _ (by rw [sweep_len]; omega), sweep_pg _ _ _ (Nat.le_refl _), if_pos hq]
        have hgs : ∀ i, ((P.gone vm).setGs (ix vm) ⟨false, (P.gone vm).owns vm, 0, [], []⟩).gs i = if i = ix vm then ⟨false, (P.gone vm).owns vm, 0, [], []⟩ else P.gs i := by
          intro i
          rw [setGs_gs (P.gone vm) (ix vm) _ (by rw [gone, frees_gs, sweep_gs]; omega)]
          split
          · rfl
          · unfold gs gone; rw [frees_gs, sweep_gs]
        have hst : ∀ c, ((P.gone vm).setGs (ix vm) ⟨false, (P.gone vm).owns vm, 0, [], []⟩).st c = P.st c := fun c => by unfold st setGs gone; rw [frees_on, sweep_on]
        have hon : ((P.gone vm).setGs (ix vm) ⟨false, (P.gone vm).owns vm, 0, [], []⟩).on = P.on := by unfold setGs gone; rw [frees_on, sweep_on]
        have hl : ((P.gone vm).setGs (ix vm) ⟨false, (P.gone vm).owns vm, 0, [], []⟩).pages.length = P.pages.length := by unfold setGs gone; rw [frees_len, sweep_len]
        have hgl : ((P.gone vm).setGs (ix vm) ⟨false, (P.gone vm).owns vm, 0, [], []⟩).guests.length = 4 := by unfold setGs gone; simp [frees_gs, sweep_gs, g4]
        have hdyn : (P.gone vm).owns vm = true ↔ ∃ f, f < P.pages.length ∧ (if (P.gs (ix vm)).first.toNat ≤ f ∧ f < (P.gs (ix vm)).first.toNat + 5 then (⟨0, -2⟩ : PgD) else swept vm (P.pg f)).own = vm := by
          rw [owns_iff]
          have e : (P.gone vm).pages.length = P.pages.length := by unfold gone; rw [frees_len, sweep_len]
          rw [e]
          constructor
          · rintro ⟨f, hf, hfo⟩
            refine ⟨f, hf, ?_⟩
            rw [← hpg f hf]; exact hfo
          · rintro ⟨f, hf, hfo⟩
            refine ⟨f, hf, ?_⟩
            rw [← hpg f hf] at hfo; exact hfo
        generalize (P.gone vm).owns vm = dy at *
        generalize (P.gone vm).setGs (ix vm) ⟨false, dy, 0, [], []⟩ = P' at *
        have hrange : ∀ q, (P.gs (ix vm)).first.toNat ≤ q ∧ q < (P.gs (ix vm)).first.toNat + 5 → (P.pg q).own = -1 ∧ (P.pg q).wit = -2 := by
          intro q hq
          have h1 := (h.hyp q (by omega)).2 (.inr ⟨ix vm, hj, hlv, by omega, by omega⟩)
          exact ⟨h1, h.hypw q (by omega) h1⟩
        have hownv : ∀ f, f < P.pages.length → (P.pg f).own = vm → (P.pg f).wit = -2 ∨ (P.pg f).wit = 0 := by
          intro f hf e
          rcases h.guest f hf (by omega) with h1 | h1
          · exact .inl h1
          · exact .inr h1.1
        have lD : ∀ i, i ≠ ix vm → P'.gs i = P.gs i := fun i e => by rw [hgs, if_neg e]
        have lI : P'.gs (ix vm) = ⟨false, dy, 0, [], []⟩ := by rw [hgs, if_pos rfl]
        refine ⟨by rw [hl]; exact h.n0, by rw [hl]; exact h.n1, hgl, by rw [hon]; exact h.o1, by rw [hon]; exact h.o3, fun i hi2 hL => ?_, fun i hi2 hL => ?_, fun i k hik hk hi hk' => ?_, fun f hf => ?_, fun f hf => ?_, fun f hf => ?_, fun f hf => ?_, fun f hf => ?_, fun c hc => ?_⟩
        · by_cases e : i = ix vm
          · subst e
            refine ⟨by rw [lI], by rw [lI], by rw [lI], ?_⟩
            rw [lI, hl, hback]
            dsimp only
            rw [hdyn]
            constructor
            · rintro ⟨f, hf, hfo⟩; exact ⟨f, hf, by rw [hpg f hf]; exact hfo⟩
            · rintro ⟨f, hf, hfo⟩; exact ⟨f, hf, by rw [← hpg f hf]; exact hfo⟩
          · rw [lD i e] at hL
            have hd := h.dead i hi2 hL
            refine ⟨by rw [lD i e]; exact hd.vc, by rw [lD i e]; exact hd.mp, by rw [lD i e]; exact hd.fi, ?_⟩
            rw [lD i e, hd.dy, hl]
            constructor
            · rintro ⟨f, hf, hfo⟩
              refine ⟨f, hf, ?_⟩
              rw [hpg f hf, if_neg ?_, swept_own]
              · exact hfo
              · intro h1
                have := (hrange f h1).1
                omega
            · rintro ⟨f, hf, hfo⟩
              refine ⟨f, hf, ?_⟩
              rw [hpg f hf] at hfo
              split at hfo
              · dsimp only at hfo; omega
              · rw [swept_own] at hfo; exact hfo
        · have e : i ≠ ix vm := by
            rintro rfl
            rw [lI] at hL; cases hL
          rw [lD i e] at hL
          have hvv := h.liv i hi2 hL
          refine ⟨by rw [lD i e]; exact hvv.dy, by rw [lD i e]; exact hvv.f0, by rw [lD i e, hl]; exact hvv.f1, by rw [lD i e]; exact hvv.vl, ?_, by rw [lD i e, hl]; exact hvv.mp, ?_⟩
          · intro v hv2
            rw [lD i e] at hv2 ⊢
            simp only [hst, hon]
            exact hvv.vc v hv2
          · intro f hf
            rw [hl] at hf
            rw [lD i e, hvv.us f hf, hpg f hf]
            have hne : (i : Int) + 1 ≠ vm := by
              intro e2; exact e (by unfold ix; omega)
            split
            · rename_i h1
              have := hrange f h1
              dsimp only
              omega
            · rw [swept_own, swept_wit]
              split
              · rename_i h1
                rcases h1 with h1 | h1
                · have := hownv f hf h1
                  omega
                · omega
              · rfl
        · have e1 : i ≠ ix vm := by
            rintro rfl
            rw [lI] at hi; cases hi
          have e2 : k ≠ ix vm := by
            rintro rfl
            rw [lI] at hk'; cases hk'
          rw [lD i e1] at hi
          rw [lD k e2] at hk'
          rw [lD i e1, lD k e2]
          exact h.apart i k hik hk hi hk'
        · rw [hl] at hf
          have hin : P'.inTab f ↔ (P.inTab f ∧ ¬ ((P.gs (ix vm)).first.toNat ≤ f ∧ f < (P.gs (ix vm)).first.toNat + 5)) := by
            unfold inTab
            constructor
            · rintro (h1 | ⟨i, hi, h2, h3, h4⟩)
              · exact ⟨.inl h1, by omega⟩
              · have e : i ≠ ix vm := by
                  rintro rfl
                  rw [lI] at h2; cases h2
                rw [lD i e] at h2 h3 h4
                refine ⟨.inr ⟨i, hi, h2, h3, h4⟩, ?_⟩
                rcases Nat.lt_or_ge i (ix vm) with h5 | h5
                · have := h.apart i (ix vm) h5 hj h2 hlv
                  omega
                · have := h.apart (ix vm) i (by omega) hi hlv h2
                  omega
            · rintro ⟨h1 | ⟨i, hi, h2, h3, h4⟩, h5⟩
              · exact .inl h1
              · have e : i ≠ ix vm := by
                  rintro rfl
                  exact h5 (by omega)
                refine .inr ⟨i, hi, ?_⟩
                rw [lD i e]
                exact ⟨h2, h3, h4⟩
          rw [hin, hpg f hf, ← h.hyp f hf]
          split
          · rename_i h1
            dsimp only
            constructor
            · intro e; omega
            · rintro ⟨_, h2⟩; exact absurd h1 h2
          · rename_i h1
            rw [swept_own]
            exact ⟨fun e => ⟨e, h1⟩, fun e => e.1⟩
        · rw [hl] at hf
          rw [hpg f hf]
          split
          · intro _; rfl
          · rw [swept_own, swept_wit]
            intro e
            split
            · rfl
            · exact h.hypw f hf e
        · rw [hl] at hf
          rw [hpg f hf]
          split
          · dsimp only; omega
          · rw [swept_own]; exact h.who f hf
        · rw [hl] at hf
          unfold HostOk
          rw [hpg f hf]
          split
          · intro _; exact .inl rfl
          · rw [swept_own, swept_wit]
            intro e
            split
            · exact .inl rfl
            · rename_i h1
              rcases h.host f hf e with h2 | h2 | ⟨h2, h3, h4⟩
              · exact .inl h2
              · exact .inr (.inl h2)
              · refine .inr (.inr ⟨h2, h3, ?_⟩)
                rw [lD]
                · exact h4
                · intro e2
                  exact h1 (.inr ⟨e, by unfold ix at e2; omega⟩)
        · rw [hl] at hf
          unfold GuestOk
          rw [hpg f hf]
          split
          · intro e; dsimp only at e; omega
          · rw [swept_own, swept_wit]
            intro e
            split
            · exact .inl rfl
            · rename_i h1
              rcases h.guest f hf e with h2 | ⟨h2, h3⟩
              · exact .inl h2
              · refine .inr ⟨h2, ?_⟩
                rw [lD]
                · exact h3
                · intro e2
                  exact h1 (.inl (by unfold ix at e2; omega))
        · rw [hon] at hc
          have := h.seat c hc
          unfold SeatOk
          simp only [hst]
          rcases this with a | ⟨a, b, c', d, e, f⟩
          · exact .inl a
          · have e2 : ix (P.st c).vm ≠ ix vm := by
              intro e2
              rw [e2] at e f
              have := hnone _ e
              omega
            refine .inr ⟨a, b, ?_⟩
            rw [lD _ e2]
            exact ⟨c', d, e, f⟩
theorem doL_ok {P P' : PtD} (h : Ok2 P) {cpu : Nat} (hc : cpu < P.on.length) {c : ClD} (he : P.doL cpu c = .ok P') : Ok2 P' := by
  unfold doL at he
  cases hv : decide ((P.st cpu).vm = 0) with
  | true =>
    rw [hv] at he
    rw [decide_eq_true_eq] at hv
    simp only [cond_true, hostL] at he
    revert he
    cases decide (c.kind = 1)
    rotate_left
    · exact share_ok h
    cases decide (c.kind = 2)
    rotate_left
    · exact unshare_ok h
    cases decide (c.kind = 3)
    rotate_left
    · exact donate_ok h
    cases decide (c.kind = 4)
    rotate_left
    · exact reclaim_ok h
    cases decide (c.kind = 5)
    rotate_left
    · exact create_ok h
    cases decide (c.kind = 6)
    rotate_left
    · exact destroy_ok h
    cases decide (c.kind = 7)
    rotate_left
    · exact more_ok h
    cases decide (c.kind = 8)
    rotate_left
    · exact run_ok h hc hv
    intro he; cases he
  | false =>
    rw [hv] at he
    rw [decide_eq_false_iff_not] at hv
    have hs : 1 ≤ (P.st cpu).vm ∧ (P.st cpu).vm ≤ 4 ∧ (P.gs (ix (P.st cpu).vm)).live = true := by
      rcases h.seat cpu hc with ⟨a, _⟩ | ⟨a, b, c', _⟩
      · exact absurd a hv
      · exact ⟨a, b, c'⟩
    simp only [cond_false, guestL] at he
    revert he
    cases decide (c.kind = 10)
    rotate_left
    · exact lent_ok h ⟨hs.1, hs.2.1⟩ hs.2.2 (.inl rfl) (.inr rfl)
    cases decide (c.kind = 11)
    rotate_left
    · exact lent_ok h ⟨hs.1, hs.2.1⟩ hs.2.2 (.inr rfl) (.inl rfl)
    cases decide (c.kind = 9)
    rotate_left
    · intro he; cases he; exact stop_ok h hc hv
    intro he; cases he
def KeepL (P : PtD) (r : Except Int PtD) : Prop := ∀ P', r = .ok P' → P'.pages.length = P.pages.length ∧ P'.on.length = P.on.length
theorem keep_err {P : PtD} {e : Int} : KeepL P (.error e) := fun _ h => by cases h
theorem keep_cond {P : PtD} {b : Bool} {x y : Except Int PtD} (h1 : KeepL P x) (h2 : KeepL P y) : KeepL P (bif b then x else y) := by cases b <;> assumption
theorem keep_ok {P Q : PtD} (h : Q.pages.length = P.pages.length ∧ Q.on.length = P.on.length) : KeepL P (.ok Q) := fun _ e => by cases e; exact h
theorem doL_len {P P' : PtD} {cpu : Nat} {c : ClD} (he : P.doL cpu c = .ok P') : P'.pages.length = P.pages.length ∧ P'.on.length = P.on.length := by
  refine (?_ : KeepL P (P.doL cpu c)) P' he
  unfold doL hostL guestL shareL unshareL donateL reclaimL createL destroyL moreL runL lentL lendL
  repeat' first
    | exact keep_err
    | refine keep_cond ?_ ?_
  all_goals refine keep_ok ?_
  all_goals first
    | (simp [setPg, setGs, setSt, stopL]; done)
    | (simp only [setGs, claim_len, claim_on, gone, frees_len, frees_on, sweep_len, sweep_on, and_self]; done)
end PtD
end Go.Proofs.Ytjnndchkblnkgaa
