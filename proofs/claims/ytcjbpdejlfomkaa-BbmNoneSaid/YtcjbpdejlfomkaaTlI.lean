/- Layer 17: bbm.Forget. -/
import Derived.Test.YtcjbpdejlfomkaaTlH
import Derived.Test.YtcjbpdejlfomkaaEngV
namespace Go.Proofs.Ytcjbpdejlfomkaa
open Go.RowKit
set_option linter.unusedVariables false
set_option linter.unusedSimpArgs false
set_option maxRecDepth 20000
def dueL (vmid mid : Int) : List IvD := [⟨6, vmid, 0, mid⟩, ⟨3, vmid, 0, 0⟩]
/-- TLBs in memory of one's own: the rows, and what they hold. -/
def TlsO (hs : Hp) (ts : List TlD) : Prop := ∀ t ∈ ts, (∀ wc, Here hs wc → SlAt wc t.ev 14 (t.es.map enV) ∧ SlAt wc t.dv 4 (t.ds.map ivV)) ∧ ∃ h1, HpLe h1 hs ∧ Own 50 14 t.ev h1 (t.es.map enV)
structure FgS where
  k : Nat
  v : Value
  ha : Hp
  hs : Hp
  ts : List TlD
attribute [local irreducible] Hy St Ops DH DHF DE1 DE2 DE3 DS DCh
theorem forget_e {w : World} (ts : List TlD) (vmid mid : Int) (hv : PtD.btw vmid 0 15 = true) (hm : PtD.btw mid 0 4095 = true) {lv : Value} (h : TlAt w lv ts) (hcap : ∀ t ∈ ts, t.es.length ≤ t.ec) (hok : ∀ t ∈ ts, tlbOk t.es t.ds = true) (hl : ts.length < 100000) :
    Fn Try.prog 15 [lv, .int .i64 vmid, .int .i64 mid].toArray w [] (fun r hn => ∃ v ha hs ts', r = .tuple #[v, .int .i64 0] ∧ Own 48 2 v ha (ts'.map tlV) ∧ TlsO hs ts' ∧ ts'.map (fun t => (t.es, t.ds)) = ts.map (fun t => (applyL t.es (dueL vmid mid), t.ds)) ∧ HpLe (ha ++ hs) hn) := by
  obtain ⟨q, cap, rfl, hne, _⟩ := h.rows.opened
  have hd1 : (dueL vmid mid).all IvD.may = true := by
    simp only [dueL, List.all_cons, List.all_nil, IvD.may, hv, hm]; rfl
  have hd2 : tlbOk [] (dueL vmid mid) = true := by
    simp only [tlbOk, hd1]; rfl
  refine enter Try.func15 ?_
  refine run ?_
  intro D
  refine run ?_
  refine callE (fun wc hG => tCheck_e [] (dueL vmid mid) (.slice none 0 0) (.slice (some ⟨D, 0, none⟩) 2 2) ((Own.nil 50 14).lie (fun b hb => by cases hb) (by decide)) (lie_rows (xs := (dueL vmid mid).map ivV) (hG.here ⟨D, #[.int .i64 6, .int .i64 vmid, .int .i64 0, .int .i64 mid, .int .i64 3, .int .i64 vmid, .int .i64 0, .int .i64 0], 115⟩ mh) (fun c hc => (iv_all c hc).1) (by simp [dueL])) ⟨_, _, rfl, Nat.le_refl _⟩) ?_
  rw [hd2]
  refine runC ?_
  refine loopS (σ := FgS) (fun s => [(26, .int .i64 (s.k : Int)), (9, s.v)]) (fun s => ⟨D, #[.int .i64 6, .int .i64 vmid, .int .i64 0, .int .i64 mid, .int .i64 3, .int .i64 vmid, .int .i64 0, .int .i64 0], 115⟩ :: (s.ha ++ s.hs)) (fun s => s.k ≤ ts.length ∧ Acc 48 2 s.v s.ha (s.ts.map tlV) ∧ TlsO s.hs s.ts ∧ s.ts.map (fun t => (t.es, t.ds)) = (ts.take s.k).map (fun t => (applyL t.es (dueL vmid mid), t.ds))) (fun s => ts.length - s.k) ⟨0, .slice none 0 0, [], [], []⟩ ⟨Nat.zero_le _, Acc.nil _ _, fun t ht => (by cases ht), rfl⟩ ?_
  rintro ⟨k, ov, ha, hs, ts'⟩ m hm ⟨hk, hA, hO, hE⟩
  dsimp only at hm hk hA hO hE ⊢
  have hA' := hA
  refine run ?_
  refine st_cond _ rfl (fun hc => ?_) (fun hc => ?_)
  · have hlt : k < ts.length := by simpa using hc
    obtain ⟨b, o, rfl⟩ := hne (by intro e; subst e; simp at hlt)
    have hr := h.rows.row hlt
    have hen := h.en _ (getD_mem hlt)
    have hiv := h.iv _ (getD_mem hlt)
    have hcp := hcap _ (getD_mem hlt)
    have hkt := hok _ (getD_mem hlt)
    have htn := take_next hlt
    generalize ts.getD k default = t at hr hen hiv hcp hkt htn
    refine run ?_
    intro T
    refine run ?_
    refine callB (fun wc hG => iApply_e t.es t.ds (dueL vmid mid) _ _ _ (hen.good hG) (hiv.good hG) ⟨_, _, rfl, hcp⟩ (lie_rows (xs := (dueL vmid mid).map ivV) (hG.here ⟨D, #[.int .i64 6, .int .i64 vmid, .int .i64 0, .int .i64 mid, .int .i64 3, .int .i64 vmid, .int .i64 0, .int .i64 0], 115⟩ (List.mem_cons_of_mem _ mh)) (fun c hc => (iv_all c hc).1) (by simp [dueL]))) ?_
    have hg : applyG t.es t.ds (dueL vmid mid) = some (applyL t.es (dueL vmid mid), t.ds) := by simp only [applyG, hkt, hd1]; rfl
    rw [hg]
    rintro u hn ⟨v1, h1, v2, h2, rfl, hO1, hO2, hle⟩
    dsimp only at hO1 hO2
    have hlen : (applyL t.es (dueL vmid mid)).length ≤ t.es.length := List.length_filter_le ..
    generalize hal : applyL t.es (dueL vmid mid) = al at hO1 hlen
    obtain ⟨p1, c1, e1⟩ := hO1.opened
    obtain ⟨p2, c2, e2⟩ := hO2.opened
    rw [List.length_map] at e1 e2
    subst e1 e2
    refine ops_sub hle ?_
    refine ops_perm (_ ++ (h1 ++ h2)) List.perm_append_comm ?_
    simp only [List.cons_append, List.nil_append]
    refine runC ?_
    intro X Z
    refine appendA (c := [.slice p1 al.length c1, .slice p2 t.ds.length c2]) hA (fun v' ha' hA2 => ?_) (by have := congrArg List.length hE; simp at this; simp; omega) (news_own (m := 2) mh rfl) (hp' := ⟨Z, #[.slice p1 al.length c1, .slice p2 t.ds.length c2], 48⟩ :: ⟨X, #[.slice p1 al.length c1, .slice p2 t.ds.length c2], 48⟩ :: ⟨T, #[t.ev, t.dv], 48⟩ :: ⟨D, #[.int .i64 6, .int .i64 vmid, .int .i64 0, .int .i64 mid, .int .i64 3, .int .i64 vmid, .int .i64 0, .int .i64 0], 115⟩ :: (hs ++ (h1 ++ h2))) (hperm := by (refine perm_cnt fun a => ?_; simp only [cntB_app, cntB_cons, cntB_nil]; omega))
    refine runC ?_
    refine nextS ⟨k + 1, v', ha', h1 ++ h2 ++ hs, ts' ++ [⟨al, t.ds, p1, c1, p2, c2⟩]⟩ ⟨hlt, ?_, ?_, ?_⟩ (hm := by dsimp only; omega) (h2 := by (refine hpLe_cnt fun a => ?_; simp only [cntB_app, cntB_cons, cntB_nil]; omega))
    · dsimp only
      rw [List.map_append]
      exact hA2
    · intro x hx
      rcases List.mem_append.1 hx with hx | hx
      · obtain ⟨g1, h7, g2, g3⟩ := hO x hx
        exact ⟨fun wc hh => g1 wc (fun e he => hh e (List.mem_append_right _ he)), h7, hpLe_cnt fun b => by (have := g2.cnt b; dsimp only; rw [cntB_app]; omega), g3⟩
      · obtain rfl := List.mem_singleton.1 hx
        refine ⟨fun wc hh => ?_, h1, by (refine hpLe_cnt fun a => ?_; simp only [cntB_app, cntB_cons, cntB_nil]; omega), hO1⟩
        exact ⟨hO1.lie (fun e he => hh e (by simp [he])) (by rw [List.length_map]; have := (tlbOk_may hkt).2.1; omega), hO2.lie (fun e he => hh e (by simp [he])) (by rw [List.length_map]; have := (tlbOk_may hkt).2.2; omega)⟩
    · dsimp only
      rw [htn, List.map_append, List.map_append, hE]
      simp [hal]
  · have hge : k = ts.length := by simp at hc; omega
    subst hge
    rw [List.take_length] at hE
    refine runC ?_
    refine fin2 ?_
    exact ⟨_, ha, hs, ts', rfl, hA.own, hO, hE, by (refine hpLe_cnt fun a => ?_; simp only [cntB_app, cntB_cons, cntB_nil]; omega)⟩
end Go.Proofs.Ytcjbpdejlfomkaa
