/- Layer 10: what is taken away: the program's may, takes, Copy. -/
import Derived.Test.YtcjbpdejlfomkaaTlE
namespace Go.Proofs.Ytcjbpdejlfomkaa
open Go.RowKit
set_option linter.unusedVariables false
set_option linter.unusedSimpArgs false
set_option maxRecDepth 20000
def EnD.stage (e : EnD) : Bool := decide (e.kind = 1) || decide (e.kind = 3)
def IvD.at_ (i : IvD) (e : EnD) : Bool := decide (e.page = bif decide (e.kind = 3) then ((cutN (e.level.toNat - 1) i.page.toNat : Nat) : Int) else i.page)
def IvD.takes (i : IvD) (e : EnD) : Bool :=
  bif decide (i.kind = 1) then true else bif !decide (i.vmid = e.vmid) then false
  else bif decide (i.kind = 2) then true
  else bif decide (i.kind = 3) then e.stage
  else bif decide (i.kind = 4) then e.stage && !e.all && decide (e.asid = i.asid)
  else bif decide (i.kind = 5) then e.stage && i.at_ e && (e.all || decide (e.asid = i.asid))
  else decide (e.kind = 2) && i.at_ e
theorem tlbOk_one (i : IvD) : tlbOk [] [i] = i.may := by simp [tlbOk]
theorem en_all {xs : List EnD} : ∀ c ∈ xs.map enV, c.length = 14 ∧ c.all (·.oneCell') = true := by
  intro c hc
  obtain ⟨x, _, rfl⟩ := List.mem_map.1 hc
  exact ⟨rfl, rfl⟩
theorem iv_all {xs : List IvD} : ∀ c ∈ xs.map ivV, c.length = 4 ∧ c.all (·.oneCell') = true := by
  intro c hc
  obtain ⟨x, _, rfl⟩ := List.mem_map.1 hc
  exact ⟨rfl, rfl⟩
attribute [local irreducible] Hy St Ops DH DHF DE1 DE2 DE3 DS DCh
theorem may1_e (i : IvD) (w : World) : Fn Try.prog 139 ([] ++ [Value.agg (ivV i).toArray] ++ []).toArray w [] (fun u _ => u = .bool (!i.may)) := by
  refine enter Try.func139 ?_
  refine run ?_
  intro B Z
  refine run ?_
  refine callE (fun wc hG => tCheck_e [] [i] (.slice none 0 0) (.slice (some ⟨Z, 0, none⟩) 1 1) ((Own.nil 50 14).lie (fun b hb => by cases hb) (by decide)) (lie_rows (xs := [ivV i]) (hG.here ⟨Z, (ivV i).toArray, 115⟩ mh) (by simp) (by simp)) ⟨_, _, rfl, Nat.le_refl _⟩) ?_
  refine run ?_
  refine fin1 ?_
  rw [tlbOk_one]
  cases i.may <;> rfl
theorem iMay_e (ds : List IvD) {w : World} {v : Value} (h : SlAt w v 4 (ds.map ivV)) : Fn Try.prog 98 [v].toArray w [] (fun u _ => u = .bool (ds.all IvD.may)) := by
  refine enter Try.func98 ?_
  refine run ?_
  refine callE (fun wc hG => containsFIv_e (us := []) (fun x => !x.may) ds _ (h.good hG) (fun x _ w' ha => may1_e x w')) ?_
  refine run ?_
  refine fin1 ?_
  rw [← List.not_all_eq_any_not, Bool.not_not]
theorem stage_e (e : EnD) (w : World) : Fn Try.prog 143 [.agg (enV e).toArray].toArray w [] (fun u _ => u = .bool e.stage) := by
  refine enter Try.func143 ?_
  refine run ?_
  intro B
  refine runG ?_
  refine fin1 ?_
  rfl
theorem iPage_e (i : IvD) (e : EnD) (hi : i.may = true) (he : e.may = true) (w : World) : Fn Try.prog 144 [.agg (ivV i).toArray, .agg (enV e).toArray].toArray w [] (fun u _ => u = .bool (i.at_ e)) := by
  refine enter Try.func144 ?_
  refine run ?_
  intro B C
  refine run ?_
  refine st_cond _ rfl (fun hk => ?_) (fun hk => ?_)
  · have hk3 : e.kind = 3 := by simpa using hk
    have hl : 1 ≤ e.level ∧ e.level ≤ 3 := by
      simp [EnD.may, hk3, PtD.btw] at he
      exact he.2.1.1.1
    have hp : 0 ≤ i.page ∧ i.page ≤ 4095 := by
      simp only [IvD.may, PtD.btw, Bool.and_eq_true, decide_eq_true_eq] at hi
      exact hi.2
    obtain ⟨lv, hlv⟩ : ∃ lv : Nat, e.level = (lv : Int) := ⟨e.level.toNat, by omega⟩
    obtain ⟨pg, hpg⟩ : ∃ pg : Nat, i.page = (pg : Int) := ⟨i.page.toNat, by omega⟩
    have h9 := dbits_lt (show lv - 1 < 4 by omega)
    have hc := cut_bits (lv - 1) (by omega) pg (by omega)
    have e3 : ∀ l : Nat, l < 4 → 1 ≤ l → (1 <<< (3 * (4 - l)) : Nat) = coversN (l - 1) := by decide
    refine run ?_
    rw [hlv, hpg]
    refine op1 (by rfl) (x_shlI rfl rfl 1 (3 * (4 - lv)) (by rfl) (by omega) (by omega) (by rw [e3 lv (by omega) (by omega)]; exact Nat.lt_of_le_of_lt h9.2.1 (by decide))) ?_
    rw [e3 lv (by omega) (by omega)]
    refine run ?_
    refine op1 (by rfl) (x_andNotI rfl rfl) ?_
    rw [hc]
    refine run ?_
    refine fin1 ?_
    simp [IvD.at_, hk3, hlv, hpg]
  · refine run ?_
    refine fin1 ?_
    have hk3 : decide (e.kind = 3) = false := by simpa using hk
    simp [IvD.at_, hk3]
theorem takes_e (i : IvD) (e : EnD) (hi : i.may = true) (he : e.may = true) (w : World) : Fn Try.prog 103 [.agg (ivV i).toArray, .agg (enV e).toArray].toArray w [] (fun u _ => u = .bool (i.takes e)) := by
  refine enter Try.func103 ?_
  refine run ?_
  intro B C
  refine run ?_
  refine st_cond _ rfl (fun h1 => ?_) (fun h1 => ?_)
  · refine run ?_
    refine fin1 ?_
    simp [IvD.takes, h1]
  refine run ?_
  refine st_cond _ rfl (fun hv => ?_) (fun hv => ?_)
  · refine run ?_
    refine fin1 ?_
    simp [IvD.takes, h1, hv]
  have hv' : decide (i.vmid = e.vmid) = true := by simpa using hv
  have h1' : decide (i.kind = 1) = false := by simpa using h1
  refine run ?_
  refine st_cond _ rfl (fun h2 => ?_) (fun h2 => ?_)
  · refine run ?_
    refine fin1 ?_
    simp [IvD.takes, h1', hv', h2]
  have h2' : decide (i.kind = 2) = false := by simpa using h2
  refine run ?_
  refine st_cond _ rfl (fun h3 => ?_) (fun h3 => ?_)
  · refine run ?_
    refine callE (fun wc hG => stage_e e wc) ?_
    refine run ?_
    refine fin1 ?_
    simp [IvD.takes, h1', hv', h2', h3]
  have h3' : decide (i.kind = 3) = false := by simpa using h3
  refine run ?_
  refine st_cond _ rfl (fun h4 => ?_) (fun h4 => ?_)
  · refine run ?_
    refine callE (fun wc hG => stage_e e wc) ?_
    refine runG ?_
    refine fin1 ?_
    simp [IvD.takes, h1', hv', h2', h3', h4]
  have h4' : decide (i.kind = 4) = false := by simpa using h4
  refine run ?_
  refine st_cond _ rfl (fun h5 => ?_) (fun h5 => ?_)
  · refine run ?_
    refine callE (fun wc hG => stage_e e wc) ?_
    refine runG ?_
    refine callEG (fun _ wc hG => iPage_e i e hi he wc) ?_
    refine runG ?_
    refine fin1 ?_
    simp [IvD.takes, h1', hv', h2', h3', h4', h5]
  have h5' : decide (i.kind = 5) = false := by simpa using h5
  refine runG ?_
  refine callEG (fun _ wc hG => iPage_e i e hi he wc) ?_
  refine runG ?_
  refine fin1 ?_
  simp [IvD.takes, h1', hv', h2', h3', h4', h5']
theorem tlbCopy_e {w : World} (es : List EnD) (ds : List IvD) (v u : Value) (h : SlAt w v 14 (es.map enV)) (hd : SlAt w u 4 (ds.map ivV)) (hl : es.length < 1000000) (hl2 : ds.length < 1000000) :
    Fn Try.prog 99 [.agg #[v, u]].toArray w [] (fun r hn => ∃ v1 h1 v2 h2, r = .agg #[v1, v2] ∧ Own 50 14 v1 h1 (es.map enV) ∧ Own 115 4 v2 h2 (ds.map ivV) ∧ HpLe (h1 ++ h2) hn) := by
  refine enter Try.func99 ?_
  refine run ?_
  intro B
  refine run ?_
  intro C
  refine run ?_
  refine drawEC 8 7 [0, 1, 3, 4] [2, 5] [6, 7] [⟨B, #[v, u], 48⟩] ?_
  refine runZ ?_
  refine eCall (fun wc hG => cloneEntries_e v (es.map enV) (h.good hG) en_all (by simpa using hl)) (cloneEntries_e v (es.map enV) h en_all (by simpa using hl)).some ?_
  refine eCall (fun wc hG => cloneInvals_e u (ds.map ivV) (hd.good hG) iv_all (by simpa using hl2)) (cloneInvals_e u (ds.map ivV) hd iv_all (by simpa using hl2)).some ?_
  refine eNil ?_
  intro v2 hn2 hO2 v1 hn1 hO1
  simp only [DN, List.cons_append, List.nil_append, List.append_nil]
  obtain ⟨p1, c1, rfl⟩ := hO1.opened
  obtain ⟨p2, c2, rfl⟩ := hO2.opened
  rw [List.length_map] at hO1 hO2 ⊢
  rw [List.length_map]
  refine cBuild ?_
  refine cPut (b := C) (cs := #[.slice none 0 0, .slice none 0 0]) (tb := 48) (hp' := hn2 ++ hn1 ++ [⟨B, #[v, u], 48⟩]) (hperm := (List.perm_middle (l₁ := hn2 ++ hn1)).symm) ?_
  refine dc_nil ?_
  refine opsC ?_
  refine run ?_
  refine finA (cs := #[.slice p1 es.length c1, .slice p2 ds.length c2]) ?_
  exact ⟨_, hn1, _, hn2, rfl, hO1, hO2, by (refine hpLe_cnt fun a => ?_; simp only [cntB_app, cntB_cons, cntB_nil]; omega)⟩
end Go.Proofs.Ytcjbpdejlfomkaa
