/- Layer 16: the program's tables, ways. -/
import Derived.Test.YtiaelhhmlbfkmaaGreatPgD
namespace Go.Proofs.YtiaelhhmlbfkmaaGreat
open Go.RowKit
set_option linter.unusedVariables false
set_option linter.unusedSimpArgs false
set_option maxRecDepth 20000
attribute [local irreducible] Hy St Ops DH DHF
theorem gHas_e (n cap : Nat) (q : Option Addr) (root : Int) (hn : n < 1000000) (f : Int) (w : World) : Fn Tryz.prog 239 [.agg #[.slice q n cap, .int .i64 root], .int .i64 f].toArray w [] (fun u _ => u = .bool (hasF n f)) := by
  refine enter Tryz.func239 ?_
  refine runG ?_
  intro B
  refine runG ?_
  refine opG (v := .int .i64 ((n / 8 : Nat) : Int)) (hy := fun hg1 => by simp only [hg1, gv_true]; exact x_quoN rfl rfl n 8 rfl rfl (by decide) (by omega)) (h := ?_)
  refine runG ?_
  exact fin1 rfl
theorem gAt_e (f : Nat) (hf : f < 1000000) (level : Nat) (hl : level < 4) (page : Nat) (hp : page ≤ 4095) (w : World) : Fn Tryz.prog 285 [.int .i64 (f : Int), .int .i64 (level : Int), .int .i64 (page : Int)].toArray w [] (fun u _ => u = .int .i64 ((f * 8 + indexN level page : Nat) : Int)) := by
  refine enter Tryz.func285 ?_
  refine run ?_
  refine callE (fun wc hG => dIndex_e level hl page hp wc) ?_
  have hi8 := indexN_lt level page
  refine run ?_
  exact fin1 rfl
theorem gAtN_e {n : Nat} (f : Int) (hf : hasF n f = true) (hn : n < 1000000) (level : Nat) (hl : level < 4) (page : Nat) (hp : page ≤ 4095) (w : World) : Fn Tryz.prog 285 [.int .i64 f, .int .i64 (level : Int), .int .i64 (page : Int)].toArray w [] (fun u _ => u = .int .i64 (atN f level page : Int)) := by
  have h := hasF_iff hf
  have := gAt_e f.toNat (by omega) level hl page hp w
  rw [h.2.2] at this
  exact this
theorem gOf0_e (ws : List Nat) (hw : W64 ws) {w : World} {v : Value} (h : SlAt w v 1 (ws.map uV)) (root : Int) (p level : Nat) (hl : level < 4) (hp : p < ws.length) (hn : ws.length < 1000000) : Fn Tryz.prog 240 [.agg #[v, .int .i64 root], .int .i64 (p : Int), .int .i64 (level : Int)].toArray w [] (fun u _ => u = dsV (ofL 2 level (ws.getD p 0))) := by
  obtain ⟨q, cap, rfl, hne, hle⟩ := h.opened
  have hne0 : ws ≠ [] := by intro e; subst e; simp at hp
  obtain ⟨b, o, rfl⟩ := hne hne0
  have hr := rangeAt_cell0 (h.row hp)
  simp only [uV, Nat.mul_one] at hr
  refine enter Tryz.func240 ?_
  refine run ?_
  intro B C
  refine run ?_
  refine callE (fun wc hG => dOf_e 2 (.inr rfl) level hl _ (hw.at _) wc) ?_
  refine run ?_
  intro D
  refine run ?_
  exact finA rfl
theorem gOf_e (ws : List Nat) (hw : W64 ws) {w : World} {v : Value} (h : SlAt w v 1 (ws.map uV)) (root : Int) (p level : Nat) (hl : level < 4) (hp : p < ws.length) (hn : ws.length < 1000000) : Fn Tryz.prog 240 [.agg #[v, .int .i64 root], .int .i64 (p : Int), .int .i64 (level : Int)].toArray w [] (fun u _ => u = dsV (dAt ws p level)) := gOf0_e ws hw h root p level hl hp hn
theorem gLevel_e (d : DsD) (q : Option Addr) (n cap : Nat) (hn : 0 < n) (hn2 : n < 1000000) (w : World) : Fn Tryz.prog 152 [.agg #[.int .i64 d.kind, .int .i64 d.frame, .bool d.r, .bool d.w, .bool d.x, .bool d.af, .bool d.ng, .int .i64 d.soft, .int .i64 d.note, .slice q n cap]].toArray w [] (fun u _ => u = .int .i64 ((n - 1 : Nat) : Int)) := by
  refine enter Tryz.func152 ?_
  refine run ?_
  intro B
  refine run ?_
  refine fin1 ?_
  rw [show ((n - 1 : Nat) : Int) = (n : Int) - 1 by omega]
theorem gPut_e (ws : List Nat) {w : World} {n cap : Nat} {g : Nat} {cur : Array Value} (hO : Own 47 1 (.slice (some ⟨g, 0, none⟩) n cap) [⟨g, cur, 47⟩] (ws.map uV)) (root : Int) (p level : Nat) (hl : level < 4) (hp : p < ws.length) (hn : ws.length < 1000000) (d : DsD) (hm : d.may 2 level = true) (hN : HereN [⟨g, cur, 47⟩] w) :
    Fn Tryz.prog 281 [.agg #[.slice (some ⟨g, 0, none⟩) n cap, .int .i64 root], .int .i64 (p : Int), .int .i64 (level : Int), dsV d].toArray w [g] (fun u hn => u = .tuple #[] ∧ HpLe [⟨g, cur.setIfInBounds p (.int .u64 (d.word 2 level : Int)), 47⟩] hn) := by
  obtain ⟨hsz, hlt, hnn, hset⟩ := hO.setG hp
  refine enterM [⟨g, cur, 47⟩] hN Tryz.func281 ?_
  refine run ?_
  intro B C
  refine run ?_
  have hw2 := dWord_e 2 (.inr rfl) level hl d
  rw [hm] at hw2
  refine drawC 12 11 [0, 1, 2, 3, 4, 5, 6, 7, 8, 9, 10] [11] [⟨C, #[.int .i64 d.kind, .int .i64 d.frame, .bool d.r, .bool d.w, .bool d.x, .bool d.af, .bool d.ng, .int .i64 d.soft, .int .i64 d.note], 124⟩, ⟨B, #[.slice (some ⟨g, 0, none⟩) n cap, .int .i64 root], 239⟩] ?_
  refine runZ ?_
  refine sCallA (fun wc hx hG => hw2 wc) ?_
  refine runZ ?_
  refine cStore (b := g) (tb := 47) (cs := cur) (hp' := [⟨C, #[.int .i64 d.kind, .int .i64 d.frame, .bool d.r, .bool d.w, .bool d.x, .bool d.af, .bool d.ng, .int .i64 d.soft, .int .i64 d.note], 124⟩, ⟨B, #[.slice (some ⟨g, 0, none⟩) n cap, .int .i64 root], 239⟩]) (cs' := cur.setIfInBounds p (.int .u64 (d.word 2 level : Int))) ?_ clcntP
  refine dc_nil ?_
  refine opsC ?_
  refine run ?_
  exact fin0 ⟨rfl, by (exact clcntL)⟩
theorem gWalk_e (ws : List Nat) (hw : W64 ws) {w : World} {v : Value} (h : SlAt w v 1 (ws.map uV)) (root : Int) (page : Nat) (hp : page ≤ 4095) (down : Nat) (hd : down < 4) (hn : ws.length < 1000000) : Fn Tryz.prog 241 [.agg #[v, .int .i64 root], .int .i64 (page : Int), .int .i64 (down : Int)].toArray w [] (fun u hn => ∃ v2 h2 d, u = .tuple #[.agg #[.int .i64 d.kind, .int .i64 d.frame, .bool d.r, .bool d.w, .bool d.x, .bool d.af, .bool d.ng, .int .i64 d.soft, .int .i64 d.note, v2], .int .i64 (bif (wayL ws root page down).ok then 0 else 2)] ∧ Own 3 1 v2 h2 ((wayL ws root page down).fs.map inV) ∧ HpLe h2 hn ∧ d = (wayL ws root page down).d) := by
  obtain ⟨q, cap, rfl, hne, hle⟩ := h.opened
  refine enter Tryz.func241 ?_
  refine run ?_
  intro B C
  refine run ?_
  refine loopS (σ := Nat × Int × List Int × DsD × Value × Hp) (fun s => [(8, .int .i64 s.2.1), (9, .int .i64 (s.1 : Int))]) (fun s => ⟨C, #[.int .i64 s.2.2.2.1.kind, .int .i64 s.2.2.2.1.frame, .bool s.2.2.2.1.r, .bool s.2.2.2.1.w, .bool s.2.2.2.1.x, .bool s.2.2.2.1.af, .bool s.2.2.2.1.ng, .int .i64 s.2.2.2.1.soft, .int .i64 s.2.2.2.1.note, s.2.2.2.2.1], 242⟩ :: ⟨B, #[.slice q ws.length cap, .int .i64 root], 239⟩ :: s.2.2.2.2.2) (fun s => s.1 < 4 ∧ s.2.2.1.length = s.1 ∧ walkL ws page down (4 - s.1) s.1 s.2.1 s.2.2.1 s.2.2.2.1 = wayL ws root page down ∧ Acc 3 1 s.2.2.2.2.1 s.2.2.2.2.2 (s.2.2.1.map inV)) (fun s => 4 - s.1) (0, root, [], noDs, .slice none 0 0, []) ⟨(by decide : 0 < 4), rfl, rfl, Acc.nil _ _⟩ ?_ (hh := by exact HpLe.refl _)
  rintro ⟨level, f, fs, d, v2, ha⟩ m hm ⟨hl, hfs, hwk, hA⟩
  dsimp only at hm hl hfs hwk hA ⊢
  obtain ⟨q2, cap2, rfl⟩ := hA.own.opened
  refine run ?_
  refine callE (fun wc hG => gHas_e ws.length cap q root hn f wc) ?_
  refine run ?_
  have h4 : 4 - level = (3 - level) + 1 := by omega
  rw [h4, walkL] at hwk
  refine st_cond _ rfl (fun hc => ?_) (fun hc => ?_)
  · have hh : hasF ws.length f = false := by simpa using hc
    rw [hh, cond_false] at hwk
    rw [← hwk]
    refine run ?_
    refine finA1 ⟨_, ha, d, rfl, hA.own, by (exact clcntL), rfl⟩
  · have hh : hasF ws.length f = true := by simpa using hc
    rw [hh, cond_true] at hwk
    refine run ?_
    intro T
    refine appendA (c := inV f) (hp' := [⟨T, #[.int .i64 f], 3⟩, ⟨C, #[.int .i64 d.kind, .int .i64 d.frame, .bool d.r, .bool d.w, .bool d.x, .bool d.af, .bool d.ng, .int .i64 d.soft, .int .i64 d.note, .slice q2 (fs.map inV).length cap2], 242⟩, ⟨B, #[.slice q ws.length cap, .int .i64 root], 239⟩]) hA (fun v' ha' hA' => ?_) (by simp; omega) (news_own (m := 1) mh rfl) (hperm := by (exact clcntP))
    rw [show fs.map inV ++ [inV f] = (fs ++ [f]).map inV by simp] at hA'
    obtain ⟨q3, cap3, rfl⟩ := hA'.own.opened
    refine ops_le (⟨C, #[.int .i64 d.kind, .int .i64 d.frame, .bool d.r, .bool d.w, .bool d.x, .bool d.af, .bool d.ng, .int .i64 d.soft, .int .i64 d.note, .slice q2 (fs.map inV).length cap2], 242⟩ :: ⟨B, #[.slice q ws.length cap, .int .i64 root], 239⟩ :: ha') clcntL ?_
    refine run ?_
    refine drawN 7 ?_
    refine runD ?_
    refine callD (fun wc hG => gAtN_e f hh hn level hl page hp wc) ?_
    refine runD ?_
    refine callD (fun wc hG => gOf_e ws hw (h.good hG) root _ level hl (atN_lt hh) hn) ?_
    generalize hd' : dAt ws (atN f level page) level = d' at hwk
    have htab : d'.kind = 1 → level < 3 := fun e => dAt_tab (by rw [hd']; exact e)
    refine runD ?_
    refine runC ?_
    have e1 : decide ((level : Int) = (down : Int)) = decide (level = down) := by rw [Bool.eq_iff_iff, decide_eq_true_eq, decide_eq_true_eq]; omega
    refine st_cond _ rfl (fun hc2 => ?_) (fun hc2 => ?_)
    · rw [e1] at hc2
      rw [hc2, cond_true] at hwk
      rw [← hwk]
      refine runC ?_
      refine finA1 ⟨_, ha', d', rfl, hA'.own, by (exact clcntL), rfl⟩
    · rw [e1] at hc2
      rw [hc2, cond_false] at hwk
      have h3 := htab (by simp at hc2; exact hc2.1)
      refine run ?_
      refine nextS (level + 1, d'.frame, fs ++ [f], d', .slice q3 ((fs ++ [f]).map inV).length cap3, ha') ⟨by dsimp only; omega, by simp [hfs], ?_, hA'⟩
      rw [← hwk]
      show walkL ws page down (4 - (level + 1)) _ _ _ _ = _
      rw [show 4 - (level + 1) = 3 - level by omega]
end Go.Proofs.YtiaelhhmlbfkmaaGreat
