/- A small engine over the guide's walk: what is known of a frame is a list of slots, what is known of the world is a list of blocks of the call's own beside an elder world. The rules of statements. No program in sight. -/
import Derived.Test.YtdfkcjjbflcafaaGreatBase
namespace Go.Proofs.YtdfkcjjbflcafaaGreat
open Go.RowKit
set_option linter.unusedVariables false
set_option linter.unusedSimpArgs false

/-- What is known of a frame: the first row that names a slot counts. -/
abbrev Fm := List (Nat × Value)
def look : Fm → Nat → Option Value
  | [], _ => none
  | (k, v) :: r, t => bif Nat.beq k t then some v else look r t
def ev (l : Fm) : Operand → Option Value
  | .tmp t => look l t
  | .const v => some v
  | .global g => some (.pointer (some ⟨g, 0, none⟩))
  | .func f => some (.func (.func f) #[] #[])
def upd (l : Fm) : Option Tmp → Value → Fm
  | none, _ => l
  | some d, v => (d, v) :: l
/-- A block whose cells are known. -/
structure Blk where
  b : Nat
  cs : Array Value
  t : TypeId
abbrev Hp := List Blk

structure Knows (n : Nat) (l : Fm) (a : Act) : Prop where
  size : a.tmps.size = n
  defers : a.defers = []
  has : ∀ t v, look l t = some v → a.tmps.getD t undef = v

/-- The world beside the elder world w0: the blocks of 'mut' may have been written, new blocks have come; of those in 'hp' the cells are known; all else is as it was. -/
structure Good (w0 : World) (mu : List Nat) (hp : Hp) (w : World) : Prop where
  os : w.os = w0.os
  tape : w.tape = w0.tape
  output : w.output = w0.output
  size : w0.heap.size ≤ w.heap.size
  nodup : (hp.map (·.b)).Nodup
  here : ∀ e ∈ hp, w.heap[e.b]? = some (.cells e.cs e.t (0, 0))
  own : ∀ e ∈ hp, e.b ∈ mu ∨ w0.heap.size ≤ e.b
  old : ∀ k, k < w0.heap.size → k ∉ mu → w.heap[k]? = w0.heap[k]?

theorem Good.nil (w : World) (mu : List Nat) : Good w mu [] w := ⟨rfl, rfl, rfl, Nat.le_refl _, List.nodup_nil, by simp, by simp, fun _ _ _ => rfl⟩
theorem Good.below {w w' : World} {hp : Hp} (h : Good w [] hp w') : Below w.heap.size w w' := ⟨h.os, h.tape, h.output, h.size, fun k hk => h.old k hk (by simp)⟩
theorem Good.lt {w0 w : World} {mu : List Nat} {hp : Hp} (h : Good w0 mu hp w) {e : Blk} (he : e ∈ hp) : e.b < w.heap.size := lt_of_block (h.here e he)
/-- Blocks may be forgotten. -/
theorem Good.sub {w0 w : World} {mu : List Nat} {hp hp' : Hp} (h : Good w0 mu hp w) (hs : hp'.Sublist hp) : Good w0 mu hp' w :=
  ⟨h.os, h.tape, h.output, h.size, h.nodup.sublist (hs.map _), fun e he => h.here e (hs.subset he), fun e he => h.own e (hs.subset he), h.old⟩
theorem Good.perm {w0 w : World} {mu : List Nat} {hp hp' : Hp} (h : Good w0 mu hp w) (hs : hp'.Perm hp) : Good w0 mu hp' w :=
  ⟨h.os, h.tape, h.output, h.size, (hs.map _).nodup_iff.2 h.nodup, fun e he => h.here e (hs.mem_iff.1 he), fun e he => h.own e (hs.mem_iff.1 he), h.old⟩
/-- A draw turns nothing. -/
theorem Good.drawn {w0 w : World} {mu : List Nat} {hp : Hp} (h : Good w0 mu hp w) (k : Nat) : Good w0 mu hp { w with drawn := k } :=
  ⟨h.os, h.tape, h.output, h.size, h.nodup, h.here, h.own, h.old⟩
/-- A cell of the elder world. -/
theorem Good.cell {w0 w : World} {mu : List Nat} {hp : Hp} (h : Good w0 mu hp w) {b o : Nat} {v : Value} (hc : w0.cell? ⟨b, o, none⟩ = some v) (hm : b ∉ mu) : w.cell? ⟨b, o, none⟩ = some v := by
  rw [← hc]; exact World.cell?_of_block (w := w0) (h.old b (block_lt_of_cell hc) hm)
/-- A new block. -/
theorem Good.alloc {w0 w : World} {mu : List Nat} {hp : Hp} (h : Good w0 mu hp w) (cs : Array Value) (t : TypeId) : Good w0 mu (⟨w.heap.size, cs, t⟩ :: hp) (w.alloc (.cells cs t)) := by
  refine ⟨h.os, h.tape, h.output, by simp; have := h.size; omega, ?_, ?_, ?_, ?_⟩
  · simp only [List.map_cons, List.nodup_cons]
    refine ⟨fun hm => ?_, h.nodup⟩
    obtain ⟨e, he, hb⟩ := List.mem_map.1 hm
    have := h.lt he
    omega
  · intro e he
    rcases List.mem_cons.1 he with rfl | he
    · exact heap_new rfl
    · exact (Below.heap_alloc _ _ _ (h.lt he)).trans (h.here e he)
  · intro e he
    rcases List.mem_cons.1 he with rfl | he
    · exact .inr h.size
    · exact h.own e he
  · intro k hk hm
    exact (Below.heap_alloc _ _ _ (by have := h.size; omega)).trans (h.old k hk hm)
/-- Two steps. -/
theorem Good.trans {w0 w w' : World} {mu : List Nat} {hp hn : Hp} (h : Good w0 mu hp w) (k : Good w [] hn w') : Good w0 mu (hn ++ hp) w' := by
  have hlt : ∀ e ∈ hn, w.heap.size ≤ e.b := fun e he => by rcases k.own e he with h | h; · simp at h
                                                           · exact h
  refine ⟨k.os.trans h.os, k.tape.trans h.tape, k.output.trans h.output, Nat.le_trans h.size k.size, ?_, ?_, ?_, ?_⟩
  · rw [List.map_append, List.nodup_append]
    refine ⟨k.nodup, h.nodup, fun x hx y hy hxy => ?_⟩
    obtain ⟨e, he, rfl⟩ := List.mem_map.1 hx
    obtain ⟨f, hf, rfl⟩ := List.mem_map.1 hy
    have := hlt e he
    have := h.lt hf
    omega
  · intro e he
    rcases List.mem_append.1 he with he | he
    · exact k.here e he
    · exact (k.old e.b (h.lt he) (by simp)).trans (h.here e he)
  · intro e he
    rcases List.mem_append.1 he with he | he
    · exact .inr (Nat.le_trans h.size (hlt e he))
    · exact h.own e he
  · intro x hx hm
    exact (k.old x (Nat.lt_of_lt_of_le hx h.size) (by simp)).trans (h.old x hx hm)
/-- The same where the second step has written known blocks of the first: those of 'hi'. -/
theorem Good.transM {w0 w w' : World} {mu : List Nat} {hi hp hn : Hp} (h : Good w0 mu (hi ++ hp) w) (k : Good w (hi.map (·.b)) hn w') : Good w0 mu (hn ++ hp) w' := by
  have hown : ∀ e ∈ hn, e.b ∈ hi.map (·.b) ∨ w.heap.size ≤ e.b := k.own
  have hnd := h.nodup
  rw [List.map_append, List.nodup_append] at hnd
  have hpn : ∀ f ∈ hp, f.b ∉ hi.map (·.b) := fun f hf hm => hnd.2.2 f.b hm f.b (List.mem_map.2 ⟨f, hf, rfl⟩) rfl
  refine ⟨k.os.trans h.os, k.tape.trans h.tape, k.output.trans h.output, Nat.le_trans h.size k.size, ?_, ?_, ?_, ?_⟩
  · rw [List.map_append, List.nodup_append]
    refine ⟨k.nodup, hnd.2.1, fun x hx y hy hxy => ?_⟩
    obtain ⟨e, he, rfl⟩ := List.mem_map.1 hx
    obtain ⟨f, hf, rfl⟩ := List.mem_map.1 hy
    rcases hown e he with h1 | h1
    · exact hpn f hf (hxy ▸ h1)
    · have := h.lt (List.mem_append_right hi hf)
      omega
  · intro e he
    rcases List.mem_append.1 he with he | he
    · exact k.here e he
    · exact (k.old e.b (h.lt (List.mem_append_right hi he)) (hpn e he)).trans (h.here e (List.mem_append_right hi he))
  · intro e he
    rcases List.mem_append.1 he with he | he
    · rcases hown e he with h1 | h1
      · obtain ⟨f, hf, hfb⟩ := List.mem_map.1 h1
        have := h.own f (List.mem_append_left hp hf)
        rwa [hfb] at this
      · exact .inr (Nat.le_trans h.size h1)
    · exact h.own e (List.mem_append_right hi he)
  · intro x hx hm
    refine (k.old x (Nat.lt_of_lt_of_le hx h.size) (fun hmi => ?_)).trans (h.old x hx hm)
    obtain ⟨f, hf, hfb⟩ := List.mem_map.1 hmi
    rcases h.own f (List.mem_append_left hp hf) with h1 | h1
    · exact hm (hfb ▸ h1)
    · omega
/-- A store into a known block. -/
theorem Good.set {w0 w : World} {mu : List Nat} {hp : Hp} {b : Nat} {cs : Array Value} {t : TypeId} (h : Good w0 mu (⟨b, cs, t⟩ :: hp) w) (o : Nat) (v : Value) :
    Good w0 mu (⟨b, cs.setIfInBounds o v, t⟩ :: hp) (w.setCell ⟨b, o, none⟩ v) := by
  have hnd := h.nodup
  simp only [List.map_cons, List.nodup_cons] at hnd
  refine ⟨h.os, h.tape, h.output, by rw [size_setCell]; exact h.size, by simpa using hnd, ?_, ?_, ?_⟩
  · intro e he
    rcases List.mem_cons.1 he with rfl | he
    · exact heap_setCell_self (h.here _ (List.mem_cons_self ..)) v
    · refine (Below.heap_setCell _ _ _ _ (fun hb => hnd.1 (List.mem_map.2 ⟨e, he, hb⟩))).trans (h.here e (List.mem_cons_of_mem _ he))
  · intro e he
    rcases List.mem_cons.1 he with rfl | he
    · exact h.own ⟨b, cs, t⟩ (List.mem_cons_self ..)
    · exact h.own e (List.mem_cons_of_mem _ he)
  · intro k hk hm
    refine (Below.heap_setCell _ _ _ _ (fun hb => ?_)).trans (h.old k hk hm)
    rcases h.own ⟨b, cs, t⟩ (List.mem_cons_self ..) with h1 | h1
    · exact hm (hb ▸ h1)
    · simp only at hb h1; omega

/-- A function's contract. -/
def Fn (P : Program) (f : FuncId) (args : Array Value) (w : World) (mu : List Nat) (R : Value → Hp → Prop) : Prop :=
  Calls P f args w fun e w' => ∃ v hp, e = .returned v ∧ Good w mu hp w' ∧ R v hp
theorem Fn.mono {P : Program} {f : FuncId} {args : Array Value} {w : World} {mu : List Nat} {R R' : Value → Hp → Prop} (h : Fn P f args w mu R) (hr : ∀ v hp, R v hp → R' v hp) : Fn P f args w mu R' :=
  Calls.mono h fun _ _ ⟨v, hp, he, hg, h⟩ => ⟨v, hp, he, hg, hr v hp h⟩

/-! ### Statements -/
def QQ (n : Nat) (w0 : World) (mu : List Nat) (Q : Exit → Fm → Hp → Prop) (e : Exit) (a : Act) (w : World) : Prop := ∃ l hp, Knows n l a ∧ Good w0 mu hp w ∧ Q e l hp
def St (P : Program) (n : Nat) (w0 : World) (mu : List Nat) (c : Code) (l : Fm) (hp : Hp) (Q : Exit → Fm → Hp → Prop) : Prop :=
  ∀ a w, Knows n l a → Good w0 mu hp w → c.wp P (QQ n w0 mu Q) a w
def Ops (P : Program) (n : Nat) (w0 : World) (mu : List Nat) (all : Array Oper) (ops : List Oper) (l : Fm) (hp : Hp) (Q : Exit → Fm → Hp → Prop) : Prop :=
  ∀ a w, Knows n l a → Good w0 mu hp w → wpList P all (QQ n w0 mu Q) ops a w
def nx (N : Fm → Hp → Prop) (Q : Exit → Fm → Hp → Prop) : Exit → Fm → Hp → Prop
  | .normal, l, hp => N l hp
  | e, l, hp => Q e l hp
def inb (id : Nat) (Q : Exit → Fm → Hp → Prop) : Exit → Fm → Hp → Prop
  | .exit id', l, hp => bif Nat.beq id' id then Q .normal l hp else Q (.exit id') l hp
  | e, l, hp => Q e l hp
/-- The rows of l' hold by l. -/
def Sub : Fm → Fm → Prop
  | [], _ => True
  | (k, v) :: r, l => look l k = some v ∧ Sub r l
theorem beq_iff {a b : Nat} : Nat.beq a b = true ↔ a = b := by simp
theorem Sub.look {l' l : Fm} (h : Sub l' l) : ∀ t v, look l' t = some v → look l t = some v := by
  induction l' with
  | nil => intro t v h; simp [Proofs.YtdfkcjjbflcafaaGreat.look] at h
  | cons p r ih =>
    obtain ⟨k, u⟩ := p
    obtain ⟨h1, h2⟩ := h
    intro t v hv
    simp only [Proofs.YtdfkcjjbflcafaaGreat.look] at hv
    cases hb : Nat.beq k t with
    | true =>
      rw [hb] at hv
      simp at hv
      rw [← beq_iff.1 hb, ← hv]; exact h1
    | false =>
      rw [hb] at hv
      exact ih h2 t v (by simpa using hv)

section
variable {P : Program} {n : Nat} {w0 : World} {mu : List Nat} {l : Fm} {hp : Hp} {Q : Exit → Fm → Hp → Prop}
theorem QQ.mono {e : Exit} {a : Act} {w : World} {Q' : Exit → Fm → Hp → Prop} (h : QQ n w0 mu Q e a w) (hq : ∀ e l hp, Q e l hp → Q' e l hp) : QQ n w0 mu Q' e a w := by
  obtain ⟨l, hp, hk, hg, h⟩ := h
  exact ⟨l, hp, hk, hg, hq _ _ _ h⟩
theorem st_mono {c : Code} {Q' : Exit → Fm → Hp → Prop} (h : St P n w0 mu c l hp Q') (hq : ∀ e l hp, Q' e l hp → Q e l hp) : St P n w0 mu c l hp Q :=
  fun a w hk hg => Code.wp_mono (fun _ _ _ h => QQ.mono h hq) (h a w hk hg)
theorem st_seq {x y : Code} (h : St P n w0 mu x l hp (nx (fun l' hp' => St P n w0 mu y l' hp' Q) Q)) : St P n w0 mu (.seq x y) l hp Q := by
  intro a w hk hg
  refine wp_seq (Code.wp_mono ?_ (h a w hk hg))
  intro e a' w' hq
  obtain ⟨l', hp', hk', hg', hq⟩ := hq
  cases e with
  | normal => exact hq a' w' hk' hg'
  | exit id => exact ⟨l', hp', hk', hg', hq⟩
  | goto l => exact ⟨l', hp', hk', hg', hq⟩
  | ret => exact ⟨l', hp', hk', hg', hq⟩
  | panic ch => exact ⟨l', hp', hk', hg', hq⟩
  | outgrown => exact ⟨l', hp', hk', hg', hq⟩
theorem st_block {id : Nat} {c : Code} (h : St P n w0 mu c l hp (inb id Q)) : St P n w0 mu (.block id c) l hp Q := by
  intro a w hk hg
  refine wp_block (Code.wp_mono ?_ (h a w hk hg))
  intro e a' w' hq
  obtain ⟨l', hp', hk', hg', hq⟩ := hq
  cases e with
  | exit id' =>
    simp only [Exit.inBlock]
    simp only [inb] at hq
    by_cases hid : id' = id
    · rw [if_pos hid]
      rw [beq_iff.2 hid] at hq
      exact ⟨l', hp', hk', hg', hq⟩
    · rw [if_neg hid]
      have : Nat.beq id' id = false := by
        cases hb : Nat.beq id' id
        · rfl
        · exact absurd (beq_iff.1 hb) hid
      rw [this] at hq
      exact ⟨l', hp', hk', hg', hq⟩
  | normal => exact ⟨l', hp', hk', hg', hq⟩
  | goto l => exact ⟨l', hp', hk', hg', hq⟩
  | ret => exact ⟨l', hp', hk', hg', hq⟩
  | panic ch => exact ⟨l', hp', hk', hg', hq⟩
  | outgrown => exact ⟨l', hp', hk', hg', hq⟩
theorem st_ret (h : Q .ret l hp) : St P n w0 mu .ret l hp Q := fun _ _ hk hg => wp_ret ⟨l, hp, hk, hg, h⟩
theorem st_skip (h : Q .normal l hp) : St P n w0 mu .skip l hp Q := fun _ _ hk hg => wp_skip ⟨l, hp, hk, hg, h⟩
theorem st_exit {id : Nat} (h : Q (.exit id) l hp) : St P n w0 mu (.exit id) l hp Q := fun _ _ hk hg => wp_exit ⟨l, hp, hk, hg, h⟩
theorem Knows.ev {a : Act} (hk : Knows n l a) {x : Operand} {v : Value} (h : Proofs.YtdfkcjjbflcafaaGreat.ev l x = some v) : a.eval x = v := by
  cases x with
  | tmp t => exact hk.has t v h
  | const u => simp only [Proofs.YtdfkcjjbflcafaaGreat.ev, Option.some.injEq] at h; subst h; rfl
  | global g => simpa [Proofs.YtdfkcjjbflcafaaGreat.ev, Act.eval] using h
  | func f => simpa [Proofs.YtdfkcjjbflcafaaGreat.ev, Act.eval] using h
theorem Knows.put {a : Act} (hk : Knows n l a) {d : Option Tmp} (hd : ∀ t, d = some t → t < n) (v : Value) : Knows n (upd l d v) (a.put d v) := by
  cases d with
  | none => exact hk
  | some d =>
    refine ⟨by simpa [Act.put] using hk.size, hk.defers, ?_⟩
    intro t u h
    simp only [upd, look] at h
    cases hb : Nat.beq d t with
    | true =>
      rw [hb] at h
      have := beq_iff.1 hb
      subst this
      simp at h
      subst h
      have := hd d rfl
      simp [Act.put, hk.size, this]
    | false =>
      rw [hb] at h
      have hne : d ≠ t := fun e => by rw [beq_iff.2 e] at hb; cases hb
      have := hk.has t u (by simpa using h)
      simpa [Act.put, Array.getElem?_setIfInBounds_ne hne] using this
theorem Knows.sub {a : Act} (hk : Knows n l a) {l' : Fm} (hs : Sub l' l) : Knows n l' a := ⟨hk.size, hk.defers, fun t v h => hk.has t v (hs.look t v h)⟩
theorem st_keep {c : Code} (l' : Fm) (hs : Sub l' l) (h : St P n w0 mu c l' hp Q) : St P n w0 mu c l hp Q := fun a w hk hg => h a w (hk.sub hs) hg
theorem st_forget {c : Code} (hp' : Hp) (hs : hp'.Sublist hp) (h : St P n w0 mu c l hp' Q) : St P n w0 mu c l hp Q := fun a w hk hg => h a w hk (hg.sub hs)
theorem st_perm {c : Code} (hp' : Hp) (hs : hp'.Perm hp) (h : St P n w0 mu c l hp' Q) : St P n w0 mu c l hp Q := fun a w hk hg => h a w hk (hg.perm hs)
theorem st_cond {c : Operand} {x y : Code} (b : Bool) (hc : Proofs.YtdfkcjjbflcafaaGreat.ev l c = some (.bool b)) (ht : b = true → St P n w0 mu x l hp Q) (hf : b = false → St P n w0 mu y l hp Q) : St P n w0 mu (.cond c x y) l hp Q := by
  intro a w hk hg
  exact wp_cond_split (hk.ev hc) (fun h => ht h a w hk hg) (fun h => hf h a w hk hg)
/-- What is kept of a state. -/
def Kp (J : Fm → Hp → Prop) (l : Fm) (hp : Hp) : Prop := ∃ l' hp', Sub l' l ∧ List.Sublist hp' hp ∧ J l' hp'
/-- A loop: I m: what holds at a round's head, m going down. -/
theorem st_loop {c : Code} (I : Nat → Fm → Hp → Prop) (m₀ : Nat) (h₀ : Kp (I m₀) l hp)
    (round : ∀ m l hp, I m l hp → St P n w0 mu c l hp (nx (fun l' hp' => ∃ m', m' < m ∧ Kp (I m') l' hp') Q)) : St P n w0 mu (.loop c) l hp Q := by
  intro a w hk hg
  refine wp_loop_ghost (fun m a w => ∃ l hp, Knows n l a ∧ Good w0 mu hp w ∧ I m l hp) m₀ ?_ ?_
  · obtain ⟨l', hp', h1, h2, h3⟩ := h₀
    exact ⟨l', hp', hk.sub h1, hg.sub h2, h3⟩
  rintro m a w ⟨l, hp, hk, hg, hI⟩
  refine Code.wp_mono ?_ (round m l hp hI a w hk hg)
  intro e a' w' hq
  obtain ⟨l', hp', hk', hg', hq⟩ := hq
  cases e with
  | normal =>
    obtain ⟨m', hm, l'', hp'', h1, h2, hI'⟩ := hq
    exact ⟨m', hm, l'', hp'', hk'.sub h1, hg'.sub h2, hI'⟩
  | exit id => exact ⟨l', hp', hk', hg', hq⟩
  | goto l => exact ⟨l', hp', hk', hg', hq⟩
  | ret => exact ⟨l', hp', hk', hg', hq⟩
  | panic ch => exact ⟨l', hp', hk', hg', hq⟩
  | outgrown => exact ⟨l', hp', hk', hg', hq⟩
/-- A statement's ways meet again. -/
theorem st_cut {c : Code} {N : Fm → Hp → Prop} (R : Fm → Hp → Prop) (first : St P n w0 mu c l hp (nx (Kp R) Q)) (rest : ∀ l hp, R l hp → N l hp) (hN : ∀ l l' hp hp', Sub l' l → List.Sublist hp' hp → N l' hp' → N l hp) : St P n w0 mu c l hp (nx N Q) :=
  st_mono first fun e l hp h => by
    cases e with
    | normal => obtain ⟨l', hp', h1, h2, h3⟩ := h; exact hN _ _ _ _ h1 h2 (rest _ _ h3)
    | exit id => exact h
    | goto l => exact h
    | ret => exact h
    | panic ch => exact h
    | outgrown => exact h
/-- A statement, and what follows it from where its ways meet. -/
theorem st_seqc {x y : Code} (R : Fm → Hp → Prop) (first : St P n w0 mu x l hp (nx (Kp R) Q)) (rest : ∀ l hp, R l hp → St P n w0 mu y l hp Q) : St P n w0 mu (.seq x y) l hp Q :=
  st_seq (st_cut R first rest fun l l' hp hp' h1 h2 h a w hk hg => h a w (hk.sub h1) (hg.sub h2))
theorem st_region {id : Nat} {ops : List Oper} (h : Ops P n w0 mu ops.toArray ops l hp Q) : St P n w0 mu (.region id ops.toArray false) l hp Q :=
  fun a w hk hg => wp_region_lit (h a w hk hg)
theorem ops_nil {all : Array Oper} (h : Q .normal l hp) : Ops P n w0 mu all [] l hp Q := fun _ _ hk hg => wpList_nil ⟨l, hp, hk, hg, h⟩
theorem ops_keep {all : Array Oper} {ops : List Oper} (l' : Fm) (hs : Sub l' l) (h : Ops P n w0 mu all ops l' hp Q) : Ops P n w0 mu all ops l hp Q := fun a w hk hg => h a w (hk.sub hs) hg
theorem ops_perm {all : Array Oper} {ops : List Oper} (hp' : Hp) (hs : hp'.Perm hp) (h : Ops P n w0 mu all ops l hp' Q) : Ops P n w0 mu all ops l hp Q := fun a w hk hg => h a w hk (hg.perm hs)
end
end Go.Proofs.YtdfkcjjbflcafaaGreat
