/- Layer 18 (part): PartLife. -/
import Derived.Test.YtjnndchkblnkgaaPuA
namespace Go.Proofs.Ytjnndchkblnkgaa
open Go.RowKit
set_option linter.unusedVariables false
set_option linter.unusedSimpArgs false
set_option maxRecDepth 20000
namespace PtD
def lifeA : List ClD := [⟨5, 0, 20, 0, 0, 0⟩, ⟨7, 1, 0, 0, 0, 0⟩]
def lifeB : List ClD := [⟨1, 1, 16, 15, 0, 0⟩, ⟨8, 1, 0, 0, 0, 0⟩, ⟨10, 0, 0, 0, 0, 0⟩, ⟨9, 0, 0, 0, 0, 0⟩, ⟨6, 1, 0, 0, 0, 0⟩]
def lifeG (n : Nat) : List ClD := (List.range n).map fun (i : Nat) => ⟨3, 1, 25 + (i : Int), 2 * (i : Int), 0, 0⟩
def lifeT (n : Nat) : Nat → List ClD
  | 0 => []
  | k + 1 => lifeT n k ++ [⟨4, 0, 25 + ((n - 1 - k : Nat) : Int), 0, 0, 0⟩]
def lifeC (n : Nat) : List ClD := lifeA ++ lifeG n ++ lifeB ++ lifeT n n
def lifeSt (n : Nat) : Nat → PtD
  | 0 => bootL 32 2
  | k + 1 => (lifeSt n k).next 1 ((lifeC n).getD k default)
theorem life_ok (n k : Nat) : Ok2 (lifeSt n k) ∧ (lifeSt n k).on.length = 2 := by
  induction k with
  | zero => exact ⟨may_ok2.1 (show (bootL 32 2).may = true by decide +kernel), show (bootL 32 2).on.length = 2 by decide +kernel⟩
  | succ k ih =>
    have := next_ok (cpu := 1) (c := (lifeC n).getD k default) ih.1 (by omega)
    exact ⟨this.1, by rw [lifeSt, this.2, ih.2]⟩
theorem life_at : ∀ m, m < 6 → ∀ k, k < (lifeC (m + 1)).length → told ((lifeSt (m + 1) k).doL 1 ((lifeC (m + 1)).getD k default)) = 0 := by decide +kernel
theorem life_len : ∀ m, m < 6 → (lifeC (m + 1)).length = 9 + 2 * m := by decide +kernel
theorem life_wf : ∀ m, m < 6 → ∀ k, k < (lifeC (m + 1)).length → ((lifeC (m + 1)).getD k default).Wf := by
  have : ∀ m, m < 6 → ∀ k, k < (lifeC (m + 1)).length → (I64 ((lifeC (m + 1)).getD k default).vm ∧ I64 ((lifeC (m + 1)).getD k default).frame ∧ I64 ((lifeC (m + 1)).getD k default).mid ∧ I64 ((lifeC (m + 1)).getD k default).vcpu) := by unfold I64; decide +kernel
  intro m hm k hk
  obtain ⟨a, b, c, d⟩ := this m hm k hk
  exact ⟨a, b, c, d⟩
theorem life_end : ∀ m, m < 6 → lifeSt (m + 1) (9 + 2 * m) = bootL 32 2 := by
  intro m hm
  rcases m with _ | _ | _ | _ | _ | _ | m
  · kernel_rfl
  · kernel_rfl
  · kernel_rfl
  · kernel_rfl
  · kernel_rfl
  · kernel_rfl
  · omega
end PtD
attribute [local irreducible] Hy St Ops DH DHF
theorem cl_all {xs : List ClD} : ∀ c ∈ xs.map clL, c.length = 6 ∧ c.all (·.oneCell') = true := fun c hc => by obtain ⟨x, _, rfl⟩ := List.mem_map.1 hc; exact ⟨rfl, rfl⟩
theorem lifeG_succ (k : Nat) : PtD.lifeA ++ PtD.lifeG (k + 1) = (PtD.lifeA ++ PtD.lifeG k) ++ [⟨3, 1, 25 + (k : Int), 2 * (k : Int), 0, 0⟩] := by
  rw [PtD.lifeG, List.range_succ, List.map_append, List.append_assoc]; rfl
theorem lifeG_len (k : Nat) : (PtD.lifeA ++ PtD.lifeG k).length = 2 + k := by simp [PtD.lifeA, PtD.lifeG]; omega
section
variable {n : Nat} {w0 : World} {mu : List Nat} {l : Fm} {hp : Hp} {Q : Exit → Fm → Hp → Prop} {all : Array Oper} {rest : List Oper} {ty : TypeId} {pos : String} {af : Array Edge}
/-- Some elements appended to a slice of one's own that has some. -/
theorem appendM {t d e sz by_ m cc a : Nat} {x y : Operand} {z v : Value} {ha : Hp} {xs : List (List Value)} (ys : List (List Value)) (hp' : Hp) (hA : Own e sz v ha xs) (h0 : 0 < xs.length) (h : ∀ v' ha', Own e sz v' ha' (xs ++ ys) → Ops Try.prog n w0 mu all rest ((d, v') :: l) (ha' ++ hp') Q) (h63 : xs.length + m < 1000000) (hm : ys.length = m) (hall : ∀ c ∈ ys, c.length = sz ∧ c.all (·.oneCell') = true) (hnews : NewsAt w0 mu hp a 0 ys.flatten)
    (hperm : (ha ++ hp').Perm hp) (hd : Nat.blt d n = true := by rfl) (hx : ev l x = some v := by rfl) (hy : ev l y = some (.slice (some ⟨a, 0, none⟩) m cc) := by rfl) (ht : lk Tb.sl t = some (e, sz) := by rfl)
    (hz : lk Tb.zs e = some z := by rfl) (hzs : z.cells.size = sz := by rfl) (hb : lk Tb.eb e = some by_ := by rfl) (hby : Nat.ble by_ 4096 = true := by rfl) : Ops Try.prog n w0 mu all (⟨some d, .call { callee := .builtin .append, args := #[x, y], argTypes := #[t, t] }, ty, pos, af, none⟩ :: rest) l hp Q := by
  have hby' : by_ ≤ 4096 := Nat.le_of_ble_eq_true hby
  have hfl := flatten_len ys (fun c hc => (hall c hc).1)
  rcases hA.2 with ⟨rfl, rfl, rfl⟩ | ⟨g, cap, cur, rfl, rfl, hrow⟩
  · simp at h0
  · refine z_appendO tb_ok hd hx hy ht hz hzs hb hperm hrow (news := ys.flatten) (by rw [hfl, hm]) hnews ?_ (by omega) ?_ fun g cap cur hr => ?_
    · rw [List.all_flatten, List.all_eq_true]
      exact fun c hc => (hall c hc).2
    · have h2 : (xs.length + m + (xs.length + m) / 4 + 192) ≤ 2000000 := by omega
      calc _ ≤ 2000000 * by_ := Nat.mul_le_mul_right _ h2
        _ ≤ 2000000 * 4096 := Nat.mul_le_mul_left _ hby'
        _ ≤ _ := by decide
    · have := h (.slice (some ⟨g, 0, none⟩) (xs.length + m) cap) [⟨g, cur, e⟩] ⟨fun c hc => ?_, .inr ⟨g, cap, cur, by rw [List.length_append, hm], rfl, by rw [List.length_append, hm, List.flatten_append]; exact hr⟩⟩
      · exact this
      · rcases List.mem_append.1 hc with hc | hc
        · exact hA.1 c hc
        · exact hall c hc
end
theorem small_boot2 : (bootL 32 2).Small 1000 := ⟨by decide, by decide, by decide, fun i hi => by
  have : i < 4 := hi
  rcases i with _ | _ | _ | _ | i
  · decide
  · decide
  · decide
  · decide
  · omega⟩
theorem lifeT_len (n k : Nat) : (PtD.lifeT n k).length = k := by
  induction k with
  | zero => rfl
  | succ k ih => rw [PtD.lifeT, List.length_append, ih]; rfl
set_option maxHeartbeats 8000000 in
theorem life_e {w : World} {v : Value} {P : PtD} {A : List ActD} (h : ScrG w v P A) : Fn Try.prog 4 [v].toArray w [] (fun u _ => u = .bool true) := by
  obtain ⟨⟨pv, gv, ov, lv, rfl, hp, hl⟩, hwf⟩ := h
  have hp' := hp
  obtain ⟨p, pc, g, gc, o, oc, rfl, rfl, rfl, hl1, hl2, hl3⟩ := hp.slices
  obtain ⟨a, ac, rfl, hane, hal⟩ := hl.opened
  refine enter Try.func4 ?_
  refine run ?_
  intro B
  refine run ?_
  refine callB (fun wc hG => boot_e 32 2 wc) ?_
  intro v hn hb
  obtain ⟨pv, gv, ov, rfl, hpB⟩ : ∃ pv gv ov, v = .tuple #[.agg #[pv, gv, ov], .int .i64 0] ∧ ∀ w, Here hn w → PartG w pv gv ov (bootL 32 2) := hb
  refine opsW fun wn hGn => ?_
  obtain ⟨p2, pc2, g2, gc2, o2, oc2, rfl, rfl, rfl, _⟩ := (hpB wn (hGn.lie fun e he => by simp [he])).slices
  refine run ?_
  intro F
  refine ops_le (⟨F, #[.slice p2 (bootL 32 2).pages.length pc2, .slice g2 (bootL 32 2).guests.length gc2, .slice o2 (bootL 32 2).on.length oc2], 26⟩ :: ⟨B, #[.slice p P.pages.length pc, .slice g P.guests.length gc, .slice o P.on.length oc, .slice a A.length ac], 29⟩ :: hn) (by (refine hpLe_cnt fun a => ?_; simp only [cntB_app, cntB_cons, cntB_nil]; omega)) ?_
  refine run ?_
  refine callE (fun wc hG => num18_e _ wc) ?_
  refine run ?_
  refine st_cond _ rfl (fun hq => absurd hq (by simp)) (fun hq => ?_)
  refine run ?_
  refine callE (fun wc hG => within_e wc (A.length : Int) 6 (by omega) (by omega)) ?_
  have hm6 := wthn_lt (A.length : Int) (show 0 < 6 by omega)
  generalize wthn (A.length : Int) 6 = m at hm6
  refine run ?_
  intro C
  refine loopS (σ := Nat × Value × Hp) (fun s => [(7, .int .i64 (s.1 : Int)), (6, s.2.1)]) (fun s => s.2.2 ++ (⟨F, #[.slice p2 (bootL 32 2).pages.length pc2, .slice g2 (bootL 32 2).guests.length gc2, .slice o2 (bootL 32 2).on.length oc2], 26⟩ :: ⟨B, #[.slice p P.pages.length pc, .slice g P.guests.length gc, .slice o P.on.length oc, .slice a A.length ac], 29⟩ :: hn)) (fun s => s.1 ≤ m + 1 ∧ Own 37 6 s.2.1 s.2.2 ((PtD.lifeA ++ PtD.lifeG s.1).map clL)) (fun s => m + 1 - s.1) (0, .slice (some ⟨C, 0, none⟩) 2 2, [⟨C, #[.int .i64 5, .int .i64 0, .int .i64 20, .int .i64 0, .int .i64 0, .int .i64 0, .int .i64 7, .int .i64 1, .int .i64 0, .int .i64 0, .int .i64 0, .int .i64 0], 37⟩]) ⟨by dsimp only; omega, cl_all, .inr ⟨C, 2, _, rfl, rfl, rfl, Nat.le_refl 2, by decide, rfl, rfl⟩⟩ ?_
  rintro ⟨k, cv, ch⟩ q hq2 ⟨hk, hO⟩
  dsimp only at hq2 hk hO ⊢
  refine run ?_
  refine st_cond _ rfl (fun hc => ?_) (fun hc => ?_)
  · have hlt : k < m + 1 := by simp at hc; omega
    refine run ?_
    intro T
    refine appendW (c := clL ⟨3, 1, 25 + (k : Int), 2 * (k : Int), 0, 0⟩) (⟨T, #[.int .i64 3, .int .i64 1, .int .i64 (25 + (k : Int)), .int .i64 (2 * (k : Int)), .int .i64 0, .int .i64 0], 37⟩ :: ⟨F, #[.slice p2 (bootL 32 2).pages.length pc2, .slice g2 (bootL 32 2).guests.length gc2, .slice o2 (bootL 32 2).on.length oc2], 26⟩ :: ⟨B, #[.slice p P.pages.length pc, .slice g P.guests.length gc, .slice o P.on.length oc, .slice a A.length ac], 29⟩ :: hn) hO (fun v' ha' hA' => ?_) (by rw [List.length_map, lifeG_len]; omega) (news_own (m := 6) (by (first | (with_reducible apply mh) | (focus ((repeat (first | (with_reducible apply mh) | (with_reducible apply mt) | (with_reducible apply List.mem_append_right))); done)))) rfl) (by (refine perm_cnt fun a => ?_; simp only [cntB_app, cntB_cons, cntB_nil]; omega))
    refine run ?_
    exact nextS (k + 1, v', ha') (hm := by dsimp only; omega) ⟨by dsimp only; omega, by dsimp only; rw [lifeG_succ, List.map_append]; exact hA'⟩ (h2 := by (refine hpLe_cnt fun a => ?_; simp only [cntB_app, cntB_cons, cntB_nil]; omega))
  · have hk1 : k = m + 1 := by simp at hc; omega
    subst hk1
    refine run ?_
    intro T
    refine appendM (m := 5) (PtD.lifeB.map clL) (⟨T, #[.int .i64 1, .int .i64 1, .int .i64 16, .int .i64 15, .int .i64 0, .int .i64 0, .int .i64 8, .int .i64 1, .int .i64 0, .int .i64 0, .int .i64 0, .int .i64 0, .int .i64 10, .int .i64 0, .int .i64 0, .int .i64 0, .int .i64 0, .int .i64 0, .int .i64 9, .int .i64 0, .int .i64 0, .int .i64 0, .int .i64 0, .int .i64 0, .int .i64 6, .int .i64 1, .int .i64 0, .int .i64 0, .int .i64 0, .int .i64 0], 37⟩ :: ⟨F, #[.slice p2 (bootL 32 2).pages.length pc2, .slice g2 (bootL 32 2).guests.length gc2, .slice o2 (bootL 32 2).on.length oc2], 26⟩ :: ⟨B, #[.slice p P.pages.length pc, .slice g P.guests.length gc, .slice o P.on.length oc, .slice a A.length ac], 29⟩ :: hn) hO (by rw [List.length_map, lifeG_len]; omega) (fun v' ha' hA' => ?_) (by rw [List.length_map, lifeG_len]; omega) rfl cl_all (news_own (m := 30) (by (first | (with_reducible apply mh) | (focus ((repeat (first | (with_reducible apply mh) | (with_reducible apply mt) | (with_reducible apply List.mem_append_right))); done)))) rfl) (by (refine perm_cnt fun a => ?_; simp only [cntB_app, cntB_cons, cntB_nil]; omega))
    rw [← List.map_append] at hA'
    refine run ?_
    refine loopS (σ := Nat × Value × Hp) (fun s => [(8, .int .i64 ((m : Int) - (s.1 : Int))), (6, s.2.1)]) (fun s => s.2.2 ++ (⟨F, #[.slice p2 (bootL 32 2).pages.length pc2, .slice g2 (bootL 32 2).guests.length gc2, .slice o2 (bootL 32 2).on.length oc2], 26⟩ :: ⟨B, #[.slice p P.pages.length pc, .slice g P.guests.length gc, .slice o P.on.length oc, .slice a A.length ac], 29⟩ :: hn)) (fun s => s.1 ≤ m + 1 ∧ Own 37 6 s.2.1 s.2.2 ((PtD.lifeA ++ PtD.lifeG (m + 1) ++ PtD.lifeB ++ PtD.lifeT (m + 1) s.1).map clL)) (fun s => m + 1 - s.1) (0, v', ha') ⟨by dsimp only; omega, by dsimp only; rw [PtD.lifeT, List.append_nil]; exact hA'⟩ (hl := by dsimp only; rw [show (m : Int) - ((0 : Nat) : Int) = 1 + (m : Int) - 1 by omega]; (repeat (first | exact True.intro | (refine And.intro (by first | exact Or.inl rfl | exact Or.inr rfl) ?_)))) (hh := by (refine hpLe_cnt fun a => ?_; simp only [cntB_app, cntB_cons, cntB_nil]; omega)) ?_
    clear hO hA'
    rintro ⟨k, dv, dh⟩ q3 hq3 ⟨hk2, hO⟩
    dsimp only at hq3 hk2 hO ⊢
    refine run ?_
    refine st_cond _ rfl (fun hc2 => ?_) (fun hc2 => ?_)
    · have hlt : k < m + 1 := by simp at hc2; omega
      have hlen : (PtD.lifeA ++ PtD.lifeG (m + 1) ++ PtD.lifeB ++ PtD.lifeT (m + 1) k).length < 100 := by
        rw [List.length_append, List.length_append, lifeG_len, lifeT_len]; simp [PtD.lifeB]; omega
      refine run ?_
      intro T2
      refine appendW (c := clL ⟨4, 0, 25 + ((m : Int) - (k : Int)), 0, 0, 0⟩) (⟨T2, #[.int .i64 4, .int .i64 0, .int .i64 (25 + ((m : Int) - (k : Int))), .int .i64 0, .int .i64 0, .int .i64 0], 37⟩ :: ⟨F, #[.slice p2 (bootL 32 2).pages.length pc2, .slice g2 (bootL 32 2).guests.length gc2, .slice o2 (bootL 32 2).on.length oc2], 26⟩ :: ⟨B, #[.slice p P.pages.length pc, .slice g P.guests.length gc, .slice o P.on.length oc, .slice a A.length ac], 29⟩ :: hn) hO (fun v2 ha2 hA2 => ?_) (by rw [List.length_map]; omega) (news_own (m := 6) (by (first | (with_reducible apply mh) | (focus ((repeat (first | (with_reducible apply mh) | (with_reducible apply mt) | (with_reducible apply List.mem_append_right))); done)))) rfl) (by (refine perm_cnt fun a => ?_; simp only [cntB_app, cntB_cons, cntB_nil]; omega))
      refine run ?_
      exact nextS (k + 1, v2, ha2) (hm := by dsimp only; omega) ⟨by dsimp only; omega, by
        dsimp only
        rw [PtD.lifeT, show ((m + 1 - 1 - k : Nat) : Int) = (m : Int) - (k : Int) by omega, ← List.append_assoc, List.map_append]
        exact hA2⟩ (h1 := by dsimp only; rw [show (m : Int) - ((k + 1 : Nat) : Int) = (m : Int) - (k : Int) - 1 by omega]; (repeat (first | exact True.intro | (refine And.intro (by first | exact Or.inl rfl | exact Or.inr rfl) ?_)))) (h2 := by (refine hpLe_cnt fun a => ?_; simp only [cntB_app, cntB_cons, cntB_nil]; omega))
    · have hk1 : k = m + 1 := by simp at hc2; omega
      subst hk1
      refine run ?_
      intro X
      have hlen := PtD.life_len m hm6
      have hat := PtD.life_at m hm6
      have hwf2 := PtD.life_wf m hm6
      have hend := PtD.life_end m hm6
      obtain ⟨c0, ccap, cur, rfl, rfl, hrw⟩ := hO.row (n := 9 + 2 * m) (by rw [List.length_map]; exact hlen) (by omega)
      have hcs : (9 + 2 * m) * 6 ≤ cur.size := by rw [hrw.size]; exact Nat.mul_le_mul_right _ hrw.le
      change Row c0 ccap cur 6 (9 + 2 * m) ((PtD.lifeC (m + 1)).map clL).flatten at hrw
      refine loopS (σ := Nat × KpD) (fun s => [(10, .int .i64 (s.1 : Int))]) (fun s => ⟨X, s.2.cs, 26⟩ :: ⟨c0, cur, 37⟩ :: ⟨F, #[.slice p2 (bootL 32 2).pages.length pc2, .slice g2 (bootL 32 2).guests.length gc2, .slice o2 (bootL 32 2).on.length oc2], 26⟩ :: ⟨B, #[.slice p P.pages.length pc, .slice g P.guests.length gc, .slice o P.on.length oc, .slice a A.length ac], 29⟩ :: s.2.h) (fun s => s.1 ≤ 9 + 2 * m ∧ s.2.P = PtD.lifeSt (m + 1) s.1 ∧ s.2.Ok w ∧ HpLe hn s.2.h) (fun s => 9 + 2 * m - s.1) (0, ⟨bootL 32 2, p2, g2, o2, pc2, gc2, oc2, hn⟩) ⟨by dsimp only; omega, rfl, ⟨PtD.may_ok2.2 (PtD.life_ok 1 0).1, small_boot2, fun wc hh hG hle => hpB wc (hG.here' hle)⟩, HpLe.refl _⟩ (hh := by simp only [KpD.cs]; (refine hpLe_cnt fun a => ?_; simp only [cntB_app, cntB_cons, cntB_nil]; omega)) ?_
      rintro ⟨j, s⟩ q5 hq5 ⟨hj, hsP, hS, hsn⟩
      dsimp only at hq5 hj hsP hS hsn ⊢
      refine run ?_
      refine st_cond _ rfl (fun hc3 => ?_) (fun hc3 => ?_)
      · have hlt : j < 9 + 2 * m := by simp at hc3; omega
        have hrow := hrw.cut cl_len (cl_at (show j < (PtD.lifeC (m + 1)).length by omega))
        have hok := PtD.life_ok (m + 1) j
        have hnext : PtD.lifeSt (m + 1) (j + 1) = (PtD.lifeSt (m + 1) j).next 1 ((PtD.lifeC (m + 1)).getD j default) := rfl
        have hat := hat j (by omega)
        have hcw := hwf2 j (by omega)
        generalize (PtD.lifeC (m + 1)).getD j default = cc at hrow hnext hat hcw
        rw [← hsP] at hat hnext hok
        refine run ?_
        have hD : ∀ wc hh, Good w [] hh wc → HpLe s.h hh → Fn Try.prog 8 [.agg #[.slice s.q1 s.P.pages.length s.c1, .slice s.q2 s.P.guests.length s.c2, .slice s.q3 s.P.on.length s.c3], .int .i64 1, clV cc].toArray wc [] (DoR (s.P.doL 1 cc)) := by
          intro wc hh hG hle
          have := partDoL_e (hS.at_ wc hh hG hle) hS.sm 1 (by omega) cc hcw
          rw [hS.ok] at this
          exact this
        refine stW fun wn hGn => ?_
        have hsome := (hD wn _ hGn (by (refine hpLe_cnt fun a => ?_; simp only [cntB_app, cntB_cons, cntB_nil]; omega))).some
        refine late 10 8 ?_
        refine drawMA 10 [0, 1, 2, 3, 4] [5, 9] [6, 7, 8] ?_
        refine runS ?_
        refine eCall (fun wc hG => hD wc _ hG (by (refine hpLe_cnt fun a => ?_; simp only [cntB_app, cntB_cons, cntB_nil]; omega))) hsome ?_
        refine eAlloc ?_
        refine eNil ?_
        rintro _ _ ⟨Yv, rfl, rfl⟩ v hn2 hv
        refine dMove ?_
        have hok2 : ∀ P2, s.P.doL 1 cc = .ok P2 → PtD.Ok2 P2 ∧ s.P.next 1 cc = P2 := fun P2 e => ⟨PtD.doL_ok (PtD.may_ok2.1 hS.ok) (by omega) e, by rw [PtD.next, e]⟩
        have hne := PtD.doL_ne s.P 1 cc
        generalize s.P.doL 1 cc = r at hv hok2 hat hne
        cases r with
        | error e => exact absurd hat (hne e rfl)
        | ok P2 =>
          obtain ⟨Y, rfl, hO2, hle⟩ := hv
          obtain ⟨h2, hpn⟩ := hok2 P2 rfl
          have hm2 := PtD.may_ok2.2 h2
          have hsm2 := hO2.sm
          refine dExtract ?_
          refine dExtract ?_
          refine dNil ?_
          refine opsF ?_
          simp only [List.cons_append, List.nil_append, List.append_nil]
          refine ops_le (⟨Yv, #[.slice none 0 0, .slice none 0 0, .slice none 0 0], 26⟩ :: ⟨X, s.cs, 26⟩ :: ⟨c0, cur, 37⟩ :: ⟨F, #[.slice p2 (bootL 32 2).pages.length pc2, .slice g2 (bootL 32 2).guests.length gc2, .slice o2 (bootL 32 2).on.length oc2], 26⟩ :: ⟨B, #[.slice p P.pages.length pc, .slice g P.guests.length gc, .slice o P.on.length oc, .slice a A.length ac], 29⟩ :: (hn ++ Y.in)) (by (refine hpLe_cnt fun a => ?_; have := HpLe.cnt hle a; have := HpLe.cnt hsn a; simp only [cntB_app, cntB_cons, cntB_nil] at *; omega)) ?_
          refine run ?_
          refine callE (fun wc hG => num18_e _ wc) ?_
          refine run ?_
          refine st_cond _ rfl (fun hq => absurd hq (by simp)) (fun hq => ?_)
          refine run ?_
          exact nextS (j + 1, ⟨P2, some ⟨Y.pb, 0, none⟩, some ⟨Y.gb, 0, none⟩, some ⟨Y.ob, 0, none⟩, Y.pcap, Y.gcap, Y.ocap, hn ++ Y.in⟩) (hm := by dsimp only; omega) ⟨by dsimp only; omega, by dsimp only; rw [hnext, hpn], ⟨hm2, hsm2, fun wc hh hG hle2 => hO2.partG (hG.here' (by (refine hpLe_cnt fun a => ?_; have := HpLe.cnt hle2 a; simp only [cntB_app, cntB_cons, cntB_nil] at *; omega)))⟩, by (refine hpLe_cnt fun a => ?_; simp only [cntB_app, cntB_cons, cntB_nil]; omega)⟩ (h2 := by dsimp only [KpD.cs, Lay.pv, Lay.gv, Lay.ov, Lay.in]; (refine hpLe_cnt fun a => ?_; simp only [cntB_app, cntB_cons, cntB_nil]; omega))
      · have hj9 : j = 9 + 2 * m := by simp at hc3; omega
        subst hj9
        rw [hend] at hsP
        refine run ?_
        refine callE (fun wc hG => eqPart_e (hS.at_ wc _ hG (by (refine hpLe_cnt fun a => ?_; simp only [cntB_app, cntB_cons, cntB_nil]; omega))) (by rw [hsP]; exact hpB wc (hG.here' (by (refine hpLe_cnt fun a => ?_; have := HpLe.cnt hsn a; simp only [cntB_app, cntB_cons, cntB_nil] at *; omega))))) ?_
        refine runC ?_
        refine callEG (fun hg wc hG => wakes_e wc) ?_
        refine runC ?_
        exact fin1 rfl
end Go.Proofs.Ytjnndchkblnkgaa
