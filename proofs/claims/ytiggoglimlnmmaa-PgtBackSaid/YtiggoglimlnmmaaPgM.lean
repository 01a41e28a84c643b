/- Layer 16: all that is mapped: the program's. -/
import Derived.Test.YtiggoglimlnmmaaPgL
namespace Go.Proofs.Ytiggoglimlnmmaa
open Go.RowKit
set_option linter.unusedVariables false
set_option linter.unusedSimpArgs false
set_option maxRecDepth 20000
theorem SlAt.goodM {w w' : World} {hp : Hp} {mu : List Nat} {b o n cap sz : Nat} {xs : List (List Value)} (h : SlAt w (.slice (some ⟨b, o, none⟩) n cap) sz xs) (hb : b ∉ mu) (hG : Good w mu hp w') : SlAt w' (.slice (some ⟨b, o, none⟩) n cap) sz xs := by
  obtain ⟨⟨p, c, e, hp⟩, hl⟩ := h
  refine ⟨⟨p, c, e, fun hne => ?_⟩, hl⟩
  obtain ⟨b', off, rfl, hr⟩ := hp hne
  injection e with e
  injection e with e
  injection e with e1 e2
  subst e1
  exact ⟨b, off, rfl, fun i c hc => hG.range (hr i c hc) hb⟩
/-- What lay there before is none of one's own. -/
theorem Good.apart {w0 w : World} {hp : Hp} {mu : List Nat} {b o n cap : Nat} {ws : List Nat} (hG : Good w0 mu hp w) (h : SlAt w0 (.slice (some ⟨b, o, none⟩) n cap) 1 (ws.map uV)) (hne : ws ≠ []) (hb : b ∉ mu) : b ∉ hp.map (·.b) := by
  have h0 : 0 < ws.length := List.length_pos_iff.2 hne
  have hr := h.row h0
  have hc := hr 0 _ rfl
  have hlt : b < w0.heap.size := block_lt_of_cell hc
  intro hm
  obtain ⟨e, he, rfl⟩ := List.mem_map.1 hm
  rcases hG.own e he with h1 | h1
  · exact hb h1
  · omega
theorem pgs_len {ws : List Nat} {root : Int} {q : Nat} : ∀ {n : Nat} {xs : List MpD}, pgsL ws root q n = some xs → xs.length ≤ n := by
  intro n
  induction n with
  | zero => intro xs h; cases h; exact Nat.le_refl _
  | succ n ih =>
    intro xs h
    rw [pgsL] at h
    cases h1 : pgsL ws root q n with
    | none => rw [h1] at h; cases h
    | some ys =>
      rw [h1] at h
      dsimp only at h
      have hy := ih h1
      cases h2 : pageM ws root (q + n) with
      | none => rw [h2] at h; cases h
      | some zs =>
        rw [h2] at h
        cases h
        have hz : zs.length ≤ 1 := by
          unfold pageM at h2
          dsimp only at h2
          cases h3 : (!(wayL ws root (q + n) 3).ok) with
          | true => rw [h3] at h2; cases h2
          | false =>
            rw [h3, cond_false] at h2
            cases h4 : decide ((wayL ws root (q + n) 3).d.kind = 2) with
            | true => rw [h4] at h2; cases h2; exact Nat.le_refl _
            | false => rw [h4] at h2; cases h2; exact Nat.zero_le _
        rw [List.length_append]; omega
attribute [local irreducible] Hy St Ops DH DHF
def AllG (r : Option (List MpD)) (xs : List MpD) (u : Value) (hn : Hp) : Prop := match r with
  | none => u = .tuple #[.slice none 0 0, .bool false]
  | some ys => ∃ v h, u = .tuple #[v, .bool true] ∧ Acc 76 2 v h ((xs ++ ys).map mpV) ∧ HpLe h hn
theorem gAllT_e (ws : List Nat) (hw : W64 ws) (hm : memOk ws.length = true) (root : Int) : ∀ (k level : Nat), level + k = 3 → ∀ (w : World) (b o cap : Nat) (h : SlAt w (.slice (some ⟨b, o, none⟩) ws.length cap) 1 (ws.map uV)) (f : Int) (page : Nat) (hp : page % (8 * coversN level) = 0) (hpl : page + 8 * coversN level ≤ 4096) (hon : OnWay ws root f level page) (xs : List MpD) (hxl : xs.length ≤ page) (v : Value) (ha : Hp) (hA : Acc 76 2 v ha (xs.map mpV)) (hN : HereN ha w) (hb : b ∉ ha.map (·.b)),
    Fn Try.prog 25 [.agg #[.slice (some ⟨b, o, none⟩) ws.length cap, .int .i64 root], v, .int .i64 f, .int .i64 (level : Int), .int .i64 (page : Int)].toArray w (ha.map (·.b)) (fun u hn => AllG (pgsL ws root page (8 * coversN level)) xs u hn) := by
  intro k
  induction k using Nat.strongRecOn with
  | ind k ih =>
  intro level hlk w b o cap h f page hp hpl hon xs hxl v ha hA hN hb
  have hmi := memOk_iff hm
  have hl : level < 4 := by omega
  have hc9 := dbits_lt hl
  obtain ⟨q, c, ev⟩ := hA.own.opened
  rw [List.length_map] at ev
  subst ev
  refine enterM ha hN Try.func25 ?_
  refine run ?_
  intro B
  refine run ?_
  refine callE (fun wc hG => gHas_e ws.length cap _ root (by omega) f wc) ?_
  refine run ?_
  refine st_cond _ rfl (fun hc => ?_) (fun hc => ?_)
  · have hh : hasF ws.length f = false := by simpa using hc
    rw [table_none hl hon hh]
    refine run ?_
    exact fin2 rfl
  have hh : hasF ws.length f = true := by simpa using hc
  have hfi := hasF_iff hh
  refine run ?_
  refine callE (fun wc hG => dCovers_e level hl wc) ?_
  refine run ?_
  have hwl : ws ≠ [] := by intro e; rw [e] at hmi; simp at hmi
  generalize hcv : coversN level = cv at *
  have hpg0 : pgsL ws root page 0 = some [] := rfl
  refine loopS (σ := Nat × Value × Hp × List MpD) (fun s => [(29, .int .i64 (s.1 : Int)), (1, s.2.1)]) (fun s => ⟨B, #[.slice (some ⟨b, o, none⟩) ws.length cap, .int .i64 root], 57⟩ :: s.2.2.1) (fun s => s.1 ≤ 8 ∧ pgsL ws root page (s.1 * cv) = some s.2.2.2 ∧ s.2.2.2.length ≤ s.1 * cv ∧ Acc 76 2 s.2.1 s.2.2.1 ((xs ++ s.2.2.2).map mpV)) (fun s => 8 - s.1) (0, .slice q xs.length c, ha, []) ⟨Nat.zero_le _, by simp only [Nat.zero_mul]; exact hpg0, Nat.zero_le _, by simpa using hA⟩ ?_
  rintro ⟨i, ov, h1, ys⟩ m hm2 ⟨hi, hpg, hyl, hA1⟩
  dsimp only at hm2 hi hpg hyl hA1 ⊢
  obtain ⟨q1, c1, e1⟩ := hA1.own.opened
  subst e1
  refine run ?_
  refine st_cond _ rfl (fun hc2 => ?_) (fun hc2 => ?_)
  · have hi8 : i < 8 := by simp at hc2; omega
    have hic : i * cv ≤ 7 * cv := Nat.mul_le_mul_right _ (by omega)
    have hmul : (i : Int) * (cv : Int) = ((i * cv : Nat) : Int) := (Int.natCast_mul _ _).symm
    have hsl := slot_leaf hl (hcv ▸ hp) hi8 hh hon
    rw [hcv] at hsl
    refine run ?_
    rw [show f * 8 + (i : Int) = ((f.toNat * 8 + i : Nat) : Int) by omega, show (page : Int) + (i : Int) * (cv : Int) = ((page + i * cv : Nat) : Int) by rw [hmul]; omega]
    have hdm := dAt_may ws (f.toNat * 8 + i) level
    have hdt : (dAt ws (f.toNat * 8 + i) level).kind = 1 → level < 3 := fun e => dAt_tab e
    have hond := fun hl3 => slot_onway (ws := ws) (root := root) (f := f) (level := level) (page := page) (i := i) hl3 (hcv ▸ hp) hi8 hh hon
    refine callE (fun wc hG => gOf_e ws hw (h.goodM hb hG) root (f.toNat * 8 + i) level hl (by omega) (by omega)) ?_
    generalize dAt ws (f.toNat * 8 + i) level = d at *
    obtain ⟨hk3, hk0, hk1, hk2⟩ := may_kinds hdm
    have hstep : ∀ zs, pgsL ws root (page + i * cv) cv = some zs → pgsL ws root page ((i + 1) * cv) = some (ys ++ zs) := fun zs hz => by
      rw [Nat.succ_mul, pgs_add, hpg]
      dsimp only
      rw [hz]
    have hstop : pgsL ws root (page + i * cv) cv = none → pgsL ws root page (8 * cv) = none := fun hz => by
      have e : 8 * cv = i * cv + (cv + (7 * cv - i * cv)) := by omega
      rw [e, pgs_add, hpg]
      dsimp only
      rw [pgs_add, hz]
    refine run ?_
    intro D
    refine run ?_
    rcases hk3 with hk | hk | hk
    · rw [hk]
      refine runC ?_
      have h2 := hstep [] (hsl.2 hk)
      rw [List.append_nil] at h2
      refine nextS (i + 1, .slice q1 ((xs ++ ys).map mpV).length c1, h1, ys) ⟨hi8, h2, by dsimp only; rw [Nat.succ_mul]; omega, hA1⟩ (hm := by dsimp only; omega) (h2 := by (exact clcntL))
    · rw [hk]
      refine runC ?_
      have hl3 := hdt hk
      have hcn : 8 * coversN (level + 1) = cv := by rw [← hcv, covers_next hl3]
      have hcm : (page + i * cv) % cv = 0 := by
        have h8 : cv ∣ page := Nat.dvd_trans ⟨8, Nat.mul_comm _ _⟩ (Nat.dvd_of_mod_eq_zero hp)
        exact Nat.mod_eq_zero_of_dvd (Nat.dvd_add h8 ⟨i, Nat.mul_comm _ _⟩)
      refine callM (R := fun u hn => AllG (pgsL ws root (page + i * cv) cv) (xs ++ ys) u hn) h1 [⟨D, #[.int .i64 1, .int .i64 d.frame, .bool d.r, .bool d.w, .bool d.x, .bool d.af, .bool d.ng, .int .i64 d.soft, .int .i64 d.note], 34⟩, ⟨B, #[.slice (some ⟨b, o, none⟩) ws.length cap, .int .i64 root], 57⟩] (fun wc hG => by
        have h5 := ih (k - 1) (by omega) (level + 1) (by omega) wc b o cap (h.goodM hb hG) d.frame (page + i * cv) (by rw [hcn]; exact hcm) (by rw [hcn]; omega) (hcv ▸ hond hl3 hk) (xs ++ ys) (by rw [List.length_append]; omega) _ h1 hA1 hG.hereN (fun hmem => (hG.apart h hwl hb) (by rw [List.map_append]; exact List.mem_append_left _ hmem))
        rw [hcn] at h5
        exact h5) ?_ clcntP
      intro u hn hR
      cases hz : pgsL ws root (page + i * cv) cv with
      | none =>
        rw [hz] at hR
        obtain rfl : u = .tuple #[.slice none 0 0, .bool false] := hR
        rw [hstop hz]
        refine runC ?_
        exact fin2 rfl
      | some zs =>
        rw [hz] at hR
        obtain ⟨v', h', rfl, hA', hle'⟩ := hR
        have hzl := pgs_len hz
        refine ops_sub hle' ?_
        refine runC ?_
        refine nextS (i + 1, v', h', ys ++ zs) ⟨hi8, hstep zs hz, by dsimp only; rw [List.length_append, Nat.succ_mul]; omega, by rw [← List.append_assoc]; exact hA'⟩ (hm := by dsimp only; omega) (h2 := by (exact clcntL))
    · rw [hk]
      refine runC ?_
      have hk4 := hk2 hk
      have hfull := hstep _ (hsl.1 hk)
      refine loopS (σ := Nat × Value × Hp) (fun s => [(65, .int .i64 (s.1 : Int)), (1, s.2.1)]) (fun s => ⟨D, #[.int .i64 2, .int .i64 d.frame, .bool d.r, .bool d.w, .bool d.x, .bool d.af, .bool d.ng, .int .i64 d.soft, .int .i64 d.note], 34⟩ :: ⟨B, #[.slice (some ⟨b, o, none⟩) ws.length cap, .int .i64 root], 57⟩ :: s.2.2) (fun s => s.1 ≤ cv ∧ Acc 76 2 s.2.1 s.2.2 ((xs ++ (ys ++ rowM (page + i * cv) d.frame s.1)).map mpV)) (fun s => cv - s.1) (0, .slice q1 ((xs ++ ys).map mpV).length c1, h1) ⟨Nat.zero_le _, by simpa [rowM] using hA1⟩ ?_
      rintro ⟨j, kv, hk2⟩ m2 hm3 ⟨hkc, hA2⟩
      dsimp only at hm3 hkc hA2 ⊢
      obtain ⟨qb, cb, eb⟩ := hA2.own.opened
      subst eb
      refine run ?_
      refine st_cond _ rfl (fun hc3 => ?_) (fun hc3 => ?_)
      · have hklt : j < cv := by simp at hc3; omega
        refine run ?_
        intro T
        refine appendA (c := mpV ⟨((page + i * cv + j : Nat) : Int), d.frame + (j : Int)⟩) (hp' := [⟨T, #[.int .i64 (((page + i * cv : Nat) : Int) + (j : Int)), .int .i64 (d.frame + (j : Int))], 76⟩, ⟨D, #[.int .i64 2, .int .i64 d.frame, .bool d.r, .bool d.w, .bool d.x, .bool d.af, .bool d.ng, .int .i64 d.soft, .int .i64 d.note], 34⟩, ⟨B, #[.slice (some ⟨b, o, none⟩) ws.length cap, .int .i64 root], 57⟩]) hA2 (fun v' ha' hA' => ?_) (by simp [rowM_len]; omega) (news_own (m := 2) mh rfl) (hperm := by (exact clcntP))
        rw [show (xs ++ (ys ++ rowM (page + i * cv) d.frame j)).map mpV ++ [mpV ⟨((page + i * cv + j : Nat) : Int), d.frame + (j : Int)⟩] = (xs ++ (ys ++ rowM (page + i * cv) d.frame (j + 1))).map mpV by rw [rowM]; simp] at hA'
        refine ops_le (⟨D, #[.int .i64 2, .int .i64 d.frame, .bool d.r, .bool d.w, .bool d.x, .bool d.af, .bool d.ng, .int .i64 d.soft, .int .i64 d.note], 34⟩ :: ⟨B, #[.slice (some ⟨b, o, none⟩) ws.length cap, .int .i64 root], 57⟩ :: ha') clcntL ?_
        refine run ?_
        refine nextS (j + 1, v', ha') ⟨hklt, hA'⟩ (hm := by dsimp only; omega) (h2 := by (exact clcntL))
      · have hkc2 : j = cv := by simp at hc3; omega
        subst hkc2
        refine run ?_
        refine nextS (i + 1, .slice qb ((xs ++ (ys ++ rowM (page + i * j) d.frame j)).map mpV).length cb, hk2, ys ++ rowM (page + i * j) d.frame j) ⟨hi8, hfull, by dsimp only; rw [List.length_append, rowM_len, Nat.succ_mul]; omega, hA2⟩ (hm := by dsimp only; omega) (h2 := by (exact clcntL))
  · have hi8 : i = 8 := by simp at hc2; omega
    subst hi8
    rw [hpg]
    refine run ?_
    exact fin2 ⟨_, h1, rfl, hA1, by (exact clcntL)⟩
end Go.Proofs.Ytiggoglimlnmmaa
