/- Texts of one's own, merged: the engine, what the functions do, plain laws. -/
import Derived.Test.YtellmabgmnbhcaaGreatRows
import Derived.Test.YtellmabgmnbhcaaGreatProg
import Derived.WalkKit
import Derived.WalkSpells
import Derived.WalkLawsBesides
import Derived.Deep.QuietTactic
import Derived.BigQuiet
import Derived.StillTailTactics
import Derived.Deep.RegionHeld3
import Derived.Deep.RegionWith
import Derived.Deep.DeepFit
import Derived.Deep.DeepCutAuto
import Derived.Deep.LoopGhost
import Derived.Lib.Hide
import Derived.OneCell
import Derived.Deep.MidRow
import Derived.Conc.MuLone
import Derived.Conc.EntryLaws
import Derived.StillTail
import Derived.Laws.StructEq
import Derived.Deep.DeepAppendWide
import Derived.Laws.MakeOwn
import Derived.Deep.Slices
import Derived.ProofKit
import Derived.OpenShut
import Derived.SizedLaws
import Derived.IntWalk
import Derived.Lib.Overlaps
import Derived.Lib.AppendZerosOnto
import Derived.Lib.SliceRun
import Derived.Laws.BitsAllLaws
import Derived.Laws.Pointers
import Derived.ShutString
import Derived.ChangeOld
import Derived.Below
namespace Go.Proofs.YtellmabgmnbhcaaGreat
open Go.RowKit
set_option linter.unusedVariables false
set_option linter.unusedSimpArgs false
set_option maxRecDepth 20000
variable {p R G:Prop}{w w0:World}{b id d j dj i s m off sz off' jr:Nat}{o:Oper}{c:Code}{t u e tb ty:TypeId}{f:FuncId}{k:IntKind}{mu:List Nat}{v z:Value}{cs out:Array Value}{P:Program}{a:Act}{x y:Operand}{ops tail:List Oper}{all:Array Oper}{want c0:Bool}{vs:List Value}{q:Int}{fn:Func}{xs:List Operand}{tys:Array TypeId}{op:Op}{pos:String}{af:Array Edge}{ds:List (Nat×Nat)}{listed:Array Bool}
abbrev bH6:=@Bool.and_eq_true
abbrev bH7:=@List.length_map
abbrev bH8:=@List.getD_eq_getElem?_getD
abbrev bH9:=@List.getElem?_eq_getElem
abbrev bH':=@List.all_eq_true
abbrev bI0:=@List.cons_append
abbrev bI1:=@Nat.zero_le
abbrev bI2:=@Bool.eq_iff_iff
abbrev bI3:=@List.nil_append
abbrev bI4:=@List.mem_append_right
abbrev bI5:=@List.mem_cons_of_mem
abbrev bI6:=@Bool.true_and
abbrev bI7:=@List.mem_map
abbrev bI8:=@List.mem_cons_self
abbrev bI9:=@Nat.le_refl
abbrev bI':=@List.append_nil
abbrev bJ0:=@Nat.lt_succ_iff_lt_or_eq
abbrev bJ1:=@List.mem_range
abbrev bJ2:=@List.mem_append_left
abbrev bJ3:=@List.mem_cons
abbrev bJ4:=@List.map_append
abbrev bJ5:=@List.perm_append_comm
abbrev bJ6:=@Bool.not_eq_true'
abbrev bJ7:=@Bool.or_eq_true
abbrev bJ8:=@List.getElem?_eq_some_iff
abbrev bJ9:=@List.length_append
abbrev bJ':=@List.getElem?_map
abbrev bK0:=@Option.some.injEq
abbrev bK1:=@Bool.not_true
abbrev bK2:=@Nat.zero_add
abbrev bK3:=@Nat.mul_one
abbrev bK4:=@List.mem_append
abbrev bK5:=@Array.getElem?_eq_some_iff
abbrev bK6:=@Bool.not_eq_false'
abbrev bK7:=@List.append_assoc
abbrev bK8:=@Nat.mul_le_mul_right
abbrev bK9:=@Bool.or_eq_false_iff
abbrev bK':=@List.length_take
abbrev bL0:=@Nat.not_lt_zero
abbrev bL1:=@Bool.not_false
abbrev bL2:=@List.drop_succ_cons
abbrev bL3:=@Bool.false_or
abbrev bL4:=@Nat.add_zero
abbrev bL5:=@Option.map_some
abbrev bL6:=@List.length_cons
abbrev bL7:=@List.take_succ_cons
abbrev bL8:=@Bool.not_eq_true
abbrev bL9:=@List.map_cons
abbrev bL':=@List.drop_zero
abbrev bM0:=@List.drop_eq_nil_of_le
abbrev bM1:=@List.length_set
abbrev bM2:=@Nat.le_of_ble_eq_true
abbrev bM3:=@List.nodup_append
abbrev bM4:=@List.mem_iff_getElem
abbrev bM5:=@List.take_succ_eq_append_getElem
abbrev bM6:=@Classical.em
abbrev bM7:=@List.getElem?_take
abbrev bM8:=@List.any_eq_true
abbrev bM9:=@List.eq_nil_iff_forall_not_mem
abbrev bM':=@Bool.and_true
abbrev bN0:=@List.take_zero
abbrev bN1:=@Int.toNat_natCast
abbrev bN2:=@Array.all_eq_true_iff_forall_mem
abbrev bN3:=@List.mem_singleton
abbrev bN4:=@List.take_length
abbrev bN5:=@List.map_singleton
abbrev bN6:=@Nat.succ_mul
abbrev bN7:=@Bool.and_eq_false_iff
abbrev bN8:=@List.map_set
abbrev bN9:=@List.length_drop
abbrev bN':=@List.mem_filter
abbrev bO0:=@List.length_range
abbrev bO1:=@Nat.lt_of_le_of_lt
abbrev bO2:=@List.getElem?_eq_none
abbrev bO3:=@Array.getElem?_eq_getElem
abbrev bO4:=@List.nodup_cons
abbrev bO5:=@List.range_succ
abbrev bO6:=@Bool.false_eq_true
abbrev bO7:=@List.setIfInBounds_toArray
abbrev bO8:=@Nat.eq_of_beq_eq_true
abbrev bO9:=@List.map_nil
abbrev bO':=@List.getElem?_range
abbrev bP0:=@Ne.symm
abbrev bP1:=@Option.getD_some
abbrev bP2:=@List.getElem?_drop
abbrev bP3:=@Bool.and_assoc
abbrev bP4:=@List.toList_toArray
abbrev bP5:=@List.map_toArray
abbrev bP6:=@Nat.shiftRight_eq_div_pow
abbrev bP7:=@Nat.min_eq_left
abbrev bP8:=@Nat.le_trans
abbrev bP9:=@List.eq_of_mem_replicate
abbrev bP':=@List.filter_eq_self
abbrev bQ0:=@Array.getElem?_setIfInBounds_ne
abbrev bQ1:=@List.not_all_eq_any_not
abbrev bQ2:=@List.drop_drop
abbrev bQ3:=@Nat.lt_or_ge
abbrev bQ4:=@Nat.mul_comm
abbrev bQ5:=@Option.bind_some
abbrev bQ6:=@List.length_pos_of_mem
abbrev bQ7:=@List.mem_take_iff_getElem
abbrev bQ8:=@List.ext_getElem?
abbrev bQ9:=@Bool.and_self
abbrev bQ':=@Bool.not_not
abbrev bR0:=@Nat.add_mul
abbrev bR3:=@List.set_cons_zero
abbrev bR4:=@List.set_cons_succ
abbrev bR5:=@List.not_mem_nil
abbrev bR6:=@Nat.zero_mul
abbrev bR7:=@Bool.false_and
abbrev bR8:=@Nat.dvd_of_mod_eq_zero
abbrev bR9:=@List.map_eq_nil_iff
abbrev bR':=@List.sublist_append_right
abbrev bS0:=@List.length_nil
abbrev bS3:=@List.mem_or_eq_of_mem_set
abbrev bS4:=@List.length_filter_le
abbrev bS5:=@List.exists_mem_of_length_pos
abbrev bS6:=@List.perm_middle
abbrev bS7:=@List.getElem?_cons_zero
abbrev bS8:=@List.any_eq_false
abbrev bS9:=@List.getElem?_set
abbrev bS':=@Nat.mul_le_mul_left
abbrev bT0:=@List.getElem_of_mem
abbrev bT1:=@List.take_of_length_le
abbrev bT2:=@List.getElem_cons_zero
abbrev bT3:=@List.getElem_cons_succ
abbrev bT4:=@Nat.mod_eq_zero_of_dvd
abbrev bT5:=@Array.getElem_append_right
abbrev bT6:=@List.getElem?_append_right
abbrev bT7:=@Classical.choose_spec
abbrev bT8:=@Array.getElem_append_left
abbrev bT9:=@Classical.byContradiction
abbrev bT':=@List.getElem?_append_left
abbrev bU0:=@List.getElem_toArray
abbrev bU1:=@List.flatten_cons
abbrev bU2:=@List.getElem_take
abbrev bU3:=@Bool.or_false
abbrev bU4:=@List.getElem?_cons_succ
abbrev bU5:=@List.length_eq_zero_iff
abbrev bU6:=@Array.length_toList
abbrev bU7:=@List.flatten_append
abbrev bU8:=@Bool.and_false
abbrev bU9:=@Nat.lt_of_lt_of_le
abbrev bU':=@Nat.eq_zero_or_pos
abbrev bV0:=@Nat.add_sub_cancel
abbrev bV1:=@List.take_left'
abbrev bV2:=@Nat.add_assoc
abbrev bV3:=@List.size_toArray
abbrev bV4:=@Decidable.not_not
abbrev bV5:=@List.drop_eq_getElem_cons
abbrev bV6:=@List.mem_of_getElem?
abbrev bV7:=@List.pairwise_iff_getElem
abbrev bV8:=@Nat.mod_lt
abbrev bV9:=@List.set_eq_take_append_cons_drop
abbrev bV':=@Nat.mod_one
abbrev bW0:=@List.nodup_nil
abbrev bW1:=@Nat.sub_zero
abbrev bW2:=@List.filter_cons
abbrev bW3:=@Bool.not_and
abbrev bW4:=@Nat.lt_trans
abbrev bW5:=@List.all_cons
abbrev bW6:=@List.filter_append
abbrev bW7:=@Option.isSome_none
abbrev bW8:=@List.append_of_mem
abbrev bW9:=@Int.natCast_nonneg
abbrev bW':=@List.map_map
abbrev bX0:=@List.take_take
abbrev bX1:=@List.Perm.append_left
abbrev bX3:=@List.all_nil
abbrev bX4:=@Nat.blt_eq
abbrev bX5:=@List.take_append
abbrev bX6:=@List.mem_of_mem_take
abbrev bX7:=@List.getElem_mem
abbrev bX8:=@Nat.dvd_trans
abbrev bX9:=@List.flatMap_append
abbrev bX':=@Option.isNone_iff_eq_none
abbrev bY0:=@List.foldl_cons
abbrev bY1:=@List.sublist_append_left
abbrev bY2:=@List.take_left
abbrev bY3:=@Nat.mul_le_mul
abbrev bY4:=@List.getElem?_replicate
abbrev bY5:=@List.Perm.append_right
abbrev bY6:=@Int.ofNat_inj
abbrev bY7:=@List.drop_append
abbrev bY8:=@Nat.lt_succ_self
abbrev bY9:=@List.modify_succ_cons
abbrev bY':=@List.modify_zero_cons
abbrev bZ0:=@List.take_append_drop
abbrev bZ1:=@List.length_singleton
abbrev bZ2:=@List.length_replicate
abbrev bZ3:=@Array.toArray_toList
abbrev bZ4:=@List.pairwise_append
abbrev bZ5:=@Bool.true_or
abbrev bZ6:=@Option.map_none
abbrev bZ7:=@List.getElem?_set_ne
abbrev bZ8:=@Nat.beq_refl
abbrev bZ9:=@List.any_append
theorem bB3(h:p:=by omega):p:=h
theorem bB4(h:p:=by decide):p:=h
theorem bB5(h:p:=by simp):p:=h
theorem bB6(h:p:=by rw[bH7];omega):p:=h
theorem bB7(h:p:=by intro e;subst e;simp at hlt):p:=h
theorem bB8(h:p:=by rfl):p:=h
theorem bB9(h:p:=by simp;omega):p:=h
theorem bB'(h:p:=by simp only[bK4,bJ3] at he ⊢;rcases he with he | he | he | he | he | he<;>simp[he]):p:=h
theorem bC0(h:p:=by rw[getD_replicate_false] at hl;cases hl):p:=h
theorem bC1(h:p:=by first | exact Or.inl rfl | exact Or.inr rfl):p:=h
theorem bC2(h:p:=by simp only[bK4,bJ3,bR5,or_false] at he ⊢;rcases he with he | he | he | he | he | he<;>simp[he]):p:=h
theorem bC3(h:p:=by kernel_rfl):p:=h
theorem bC4(h:p:=by rw[inv.size];omega):p:=h
theorem bC5(h:p:=by first | exact p0 | exact p1 | exact p2 | exact p3 | exact p4 | exact p5):p:=h
theorem bC6(h:p:=by (simp only[hg,bI];rfl)):p:=h
theorem bC7(h:p:=by intro e;rw[e] at hvl;cases hvl):p:=h
theorem bC8(h:p:=by simp only[bK4,bJ3,he,true_or,or_true]):p:=h
theorem bC9(h:p:=by simp[he]):p:=h
theorem bC'(h:p:=by intro e;rw[e] at hlt;simp at hlt):p:=h
theorem bD0(h:p:=by (refine dh fun a=>?_;have:=aI.cnt hza a;have:=aI.cnt hzz a;simp only[eH,bJ,jk] at *;omega)):p:=h
theorem bD1(h:p:=by simp +contextual [HL.rest]):p:=h
theorem bD2(h:p:=by simp[Region.wanted,hg]):p:=h
theorem bD3(h:p:=by intro c hc;rw[bP9 hc];rfl):p:=h
theorem bD4(h:p:=by rw[←jD];exact hu):p:=h
theorem bD5(h:p:=by have:(((i.bytes*m:Nat)):Int)≤281474976710656:=(by omega);rw[Int.natCast_mul] at this;exact this):p:=h
theorem bD6(h:p:=by intro c hc;obtain⟨x,_,rfl⟩:=bI7.1 hc;exact⟨rfl,rfl⟩):p:=h
theorem bD7(h:p:=by (refine dh fun a=>?_;have:=aI.cnt hle a;have:=aI.cnt hle1 a;simp only[eH,bJ,jk] at *;omega)):p:=h
theorem bD8(h:p:=by rw[bK'];omega):p:=h
theorem bD9(h:p:=by rw[bJ',bH8,bH9 (by omega)];rfl):p:=h
theorem bD'(h:p:=by rw[bP6];exact Nat.div_le_self _ _):p:=h
theorem bE0(h:p:=by rw[Hq];rw[Hq] at hle';(exact cnt1 hle')):p:=h
theorem bE1(h:p:=by rw[cell_of_block (hG.here ⟨Y,#[.pointer (some ⟨X,0,none⟩)],134⟩ (by simp))];rfl):p:=h
theorem bE2(h:p:=by rw[inv.size] at h1;exact h1):p:=h
theorem bE3(h:p:=by simp only[HL.hp,HL.rest];(exact aU)):p:=h
theorem bE4(h:p:=by rw[Hq];(exact aU)):p:=h
theorem bE5(h:p:=by have:=pO hik (by rw[inv.size];omega) hun;omega):p:=h
theorem bE6(h:p:=by simpa using hi):p:=h
theorem bE7(h:p:=by rw[bH8,bH9 (by omega)];simp):p:=h
theorem bE8(h:p:=by simpa using hp):p:=h
theorem bE9(h:p:=by rintro rfl;exact hnd.1 hj):p:=h
theorem bE'(h:p:=by unfold maxLen;omega):p:=h
theorem bF0(h:p:=by intro e;rw[e] at rY;simp at rY):p:=h
theorem bF1(h:p:=by rw[hl,Nat.one_mul]):p:=h
theorem bF2(h:p:=by rw[bH7,bH7];omega):p:=h
theorem bF3(h:p:=by simp only[fO,bZ1];omega):p:=h
theorem bF4(h:p:=by rw[bH8,bH9 hk];simp):p:=h
theorem bF5(h:p:=by intro e;rw[e] at h5;cases h5):p:=h
theorem bF6(h:p:=by rw[bH7];exact (by decide:(5:Nat)≤281474976710656)):p:=h
theorem bF7(h:p:=by rw[hl,hdl];exact hseq):p:=h
theorem bF8(h:p:=by intro e;rw[e] at hcl;simp at hcl;omega):p:=h
theorem bF9(h:p:=by rw[hmd];simp at hc;simp[hc]):p:=h
theorem bF'(h:p:=by rw[hw];decide):p:=h
theorem bG0(h:p:=by rw[hon];exact mQ):p:=h
theorem bG1(h:p:=by rw[cell_of_block (hG.here _ mh)];rfl):p:=h
theorem bG2(h:p:=by simp[hb]):p:=h
theorem bG3(h:p:=by simpa using ht):p:=h
theorem bG4(h:p:=by decide +kernel):p:=h
theorem bG5(h:p:=by simpa using hd):p:=h
theorem bG6(h:p:=by rw[←ec,bH7]):p:=h
theorem bG7(h:p:=by intro e;rw[e] at hkl;simp at hkl):p:=h
theorem bG8(h:p:=by intro e;rw[e] at hjl;simp at hjl):p:=h
theorem bG9(h:p:=by rw[bN3.1 he];simp):p:=h
theorem bG'(h:p:=by rw[hL.v];exact hi):p:=h
theorem bH0(h:p:=by rintro rfl;simp at hlt):p:=h
theorem bH1(h:p:=by simpa using hsz):p:=h
theorem bH2(h:p:=by rw[htl];exact h):p:=h
theorem bH3(h:p:=by simpa using hne):p:=h
theorem bH4(h:p:=by simp at hks ⊢;omega):p:=h
theorem bH5(h:p:=by simpa [jd] using hg):p:=h
theorem xW{o:Nat}{c:Array Value}{f:Nat×Nat}(h:w.heap[b]?=some (.cells c t f))(u:Value):
  (w.setCell ⟨b,o,none⟩ u).heap[b]?=some (.cells (c.setIfInBounds o u) t f):=by
 have hlt:=lt_of_block h;have h':w.heap[b]=.cells c t f:=by simpa [bO3 hlt] using h
 show (w.heap.modify b _)[b]?=_;rw[bO3 (by simpa using hlt),Array.getElem_modify_self,h'];rfl
theorem cell_of_block{o:Nat}{c:Array Value}{f:Nat×Nat}(h:w.heap[b]?=some (.cells c t f)):w.cell? ⟨b,o,none⟩=c[o]?:=by simp[World.cell?,h]
theorem fQ{o:Nat}{c:Array Value}(h:w.heap[b]?=some (.cells c t (0,0))):w.frozen? ⟨b,o,none⟩=false:=by simp[World.frozen?,h]
theorem size_setCell(w:World)(a:Addr)(u:Value):(w.setCell a u).heap.size=w.heap.size:=by simp[World.setCell]
theorem Vo{o:Obj}{k:Nat}(h:k=w.heap.size):(w.alloc o).heap[k]?=some o:=by
 subst h;show (w.heap.push o)[w.heap.size]?=_;simp
section
abbrev Fm:=List (Nat×Value)
def look:Fm→Nat→Option Value
 | [],_=>none
 | (k,v)::r,t=>bif Nat.beq k t then some v else look r t
def ev(l:Fm):Operand→Option Value
 | .tmp t=>look l t
 | .const v=>some v
 | .global g=>some (.pointer (some ⟨g,0,none⟩))
 | .func f=>some (.func (.func f) #[] #[])
def upd(l:Fm):Option Tmp→Value→Fm
 | none,_=>l
 | some d,v=>(d,v)::l
structure mO where
 b:Nat
 cs:Array Value
 t:TypeId
abbrev Hp:=List mO
structure Knows(n:Nat)(l:Fm)(a:Act):Prop where
 size:a.tmps.size=n
 defers:a.defers=[]
 has:∀ t v,look l t=some v→a.tmps.getD t undef=v
structure Good(w0:World)(mu:List Nat)(hp:Hp)(w:World):Prop where
 os:w.os=w0.os
 tape:w.tape=w0.tape
 output:w.output=w0.output
 size:w0.heap.size≤w.heap.size
 nodup:(hp.map (·.b)).Nodup
 here:∀ e∈hp,w.heap[e.b]?=some (.cells e.cs e.t (0,0))
 own:∀ e∈hp,e.b∈mu∨w0.heap.size≤e.b
 old:∀ k,k<w0.heap.size→k∉mu→w.heap[k]?=w0.heap[k]?
theorem Good.nil(w:World)(mu:List Nat):Good w mu [] w:=⟨rfl,rfl,rfl,bI9 _,bW0,by simp,by simp,fun _ _ _=>rfl⟩
theorem Good.below{w':World}{hp:Hp}(h:Good w [] hp w'):Below w.heap.size w w':=⟨h.os,h.tape,h.output,h.size,fun k hk=>h.old k hk bB5⟩
theorem Good.lt{hp:Hp}(h:Good w0 mu hp w){e:mO}(he:e∈hp):e.b<w.heap.size:=lt_of_block (h.here e he)
theorem Good.sub{hp hp':Hp}(h:Good w0 mu hp w)(hs:hp'.Sublist hp):Good w0 mu hp' w:=
 ⟨h.os,h.tape,h.output,h.size,h.nodup.sublist (hs.map _),fun e he=>h.here e (hs.subset he),fun e he=>h.own e (hs.subset he),h.old⟩
theorem Good.perm{hp hp':Hp}(h:Good w0 mu hp w)(hs:hp'.Perm hp):Good w0 mu hp' w:=
 ⟨h.os,h.tape,h.output,h.size,(hs.map _).nodup_iff.2 h.nodup,fun e he=>h.here e (hs.mem_iff.1 he),fun e he=>h.own e (hs.mem_iff.1 he),h.old⟩
theorem Good.drawn{hp:Hp}(h:Good w0 mu hp w)(k:Nat):Good w0 mu hp { w with drawn:=k }:=
 ⟨h.os,h.tape,h.output,h.size,h.nodup,h.here,h.own,h.old⟩
theorem Good.cell{hp:Hp}(h:Good w0 mu hp w){o:Nat}(hc:w0.cell? ⟨b,o,none⟩=some v)(hm:b∉mu):w.cell? ⟨b,o,none⟩=some v:=by
 rw[←hc];exact World.cell?_of_block (w:=w0) (h.old b (block_lt_of_cell hc) hm)
theorem Good.alloc{hp:Hp}(h:Good w0 mu hp w)(cs:Array Value)(t:TypeId):Good w0 mu (⟨w.heap.size,cs,t⟩::hp) (w.alloc (.cells cs t)):=by
 refine⟨h.os,h.tape,h.output,by simp;have:=h.size;omega,?_,?_,?_,?_⟩
 ·simp only[bL9,bO4];refine⟨fun hm=>?_,h.nodup⟩;obtain⟨e,he,hb⟩:=bI7.1 hm;have:=h.lt he;omega
 ·intro e he;rcases bJ3.1 he with rfl | he
  ·exact Vo rfl
  ·exact (Below.heap_alloc _ _ _ (h.lt he)).trans (h.here e he)
 ·intro e he;rcases bJ3.1 he with rfl | he
  ·exact .inr h.size
  ·exact h.own e he
 ·intro k hk hm;exact (Below.heap_alloc _ _ _ (by have:=h.size;omega)).trans (h.old k hk hm)
theorem Good.trans {w':World}  {hp hn : Hp} (h : Good w0 mu hp w) (k : Good w [] hn w') : Good w0 mu (hn ++ hp) w' := by
  have hlt : ∀ e ∈ hn, w.heap.size ≤ e.b := fun e he => by rcases k.own e he with h | h; · simp at h
                                                           · exact h
  refine ⟨k.os.trans h.os, k.tape.trans h.tape, k.output.trans h.output, bP8 h.size k.size, ?_, ?_, ?_, ?_⟩
  · rw [bJ4, bM3]
    refine ⟨k.nodup, h.nodup, fun x hx y hy hxy => ?_⟩;obtain ⟨e, he, rfl⟩ := bI7.1 hx;obtain ⟨f, hf, rfl⟩ := bI7.1 hy;have := hlt e he;have := h.lt hf;omega
  · intro e he
    rcases bK4.1 he with he | he
    · exact k.here e he
    · exact (k.old e.b (h.lt he) bB5).trans (h.here e he)
  · intro e he
    rcases bK4.1 he with he | he
    · exact .inr (bP8 h.size (hlt e he))
    · exact h.own e he
  · intro x hx hm
    exact (k.old x (bU9 hx h.size) bB5).trans (h.old x hx hm)
theorem Good.lH{w':World}{hi hp hn:Hp}(h:Good w0 mu (hi++hp) w)(k:Good w (hi.map (·.b)) hn w'):Good w0 mu (hn++hp) w':=by
 have hown:∀ e∈hn,e.b∈hi.map (·.b)∨w.heap.size≤e.b:=k.own;have hnd:=h.nodup;rw[bJ4,bM3] at hnd;have hpn:∀ f∈hp,f.b∉hi.map (·.b):=fun f hf hm=>hnd.2.2 f.b hm f.b (bI7.2 ⟨f,hf,rfl⟩) rfl;refine⟨k.os.trans h.os,k.tape.trans h.tape,k.output.trans h.output,bP8 h.size k.size,?_,?_,?_,?_⟩
 ·rw[bJ4,bM3];refine⟨k.nodup,hnd.2.1,fun x hx y hy hxy=>?_⟩;obtain⟨e,he,rfl⟩:=bI7.1 hx;obtain⟨f,hf,rfl⟩:=bI7.1 hy;rcases hown e he with h1 | h1
  ·exact hpn f hf (hxy▸h1)
  ·have:=h.lt (bI4 hi hf);omega
 ·intro e he;rcases bK4.1 he with he | he
  ·exact k.here e he
  ·exact (k.old e.b (h.lt (bI4 hi he)) (hpn e he)).trans (h.here e (bI4 hi he))
 ·intro e he;rcases bK4.1 he with he | he
  ·rcases hown e he with h1 | h1
   ·obtain⟨f,hf,hfb⟩:=bI7.1 h1;have:=h.own f (bJ2 hp hf);rwa [hfb] at this
   ·exact .inr (bP8 h.size h1)
  ·exact h.own e (bI4 hi he)
 ·intro x hx hm;refine (k.old x (bU9 hx h.size) (fun rY=>?_)).trans (h.old x hx hm);obtain⟨f,hf,hfb⟩:=bI7.1 rY;rcases h.own f (bJ2 hp hf) with h1 | h1
  ·exact hm (hfb▸h1)
  ·omega
theorem Good.set{hp:Hp}(h:Good w0 mu (⟨b,cs,t⟩::hp) w)(o:Nat)(v:Value):
  Good w0 mu (⟨b,cs.setIfInBounds o v,t⟩::hp) (w.setCell ⟨b,o,none⟩ v):=by
 have hnd:=h.nodup;simp only[bL9,bO4] at hnd;refine⟨h.os,h.tape,h.output,by rw[size_setCell];exact h.size,by simpa using hnd,?_,?_,?_⟩
 ·intro e he;rcases bJ3.1 he with rfl | he
  ·exact xW (h.here _ (bI8 ..)) v
  ·refine (Below.heap_setCell _ _ _ _ (fun hb=>hnd.1 (bI7.2 ⟨e,he,hb⟩))).trans (h.here e (bI5 _ he))
 ·intro e he;rcases bJ3.1 he with rfl | he
  ·exact h.own ⟨b,cs,t⟩ (bI8 ..)
  ·exact h.own e (bI5 _ he)
 ·intro k hk hm;refine (Below.heap_setCell _ _ _ _ (fun hb=>?_)).trans (h.old k hk hm);rcases h.own ⟨b,cs,t⟩ (bI8 ..) with h1 | h1
  ·exact hm (hb▸h1)
  ·simp only at hb h1;omega
def Fn(P:Program)(f:FuncId)(args:Array Value)(w:World)(mu:List Nat)(R:Value→Hp→Prop):Prop:=
 Calls P f args w fun e w'=>∃ v hp,e=.returned v∧Good w mu hp w'∧R v hp
theorem Fn.mono{args:Array Value}{R R':Value→Hp→Prop}(h:Fn P f args w mu R)(hr:∀ v hp,R v hp→R' v hp):Fn P f args w mu R':=
 Calls.mono h fun _ _ ⟨v,hp,he,hg,h⟩=>⟨v,hp,he,hg,hr v hp h⟩
def QQ(n:Nat)(w0:World)(mu:List Nat)(Q:Exit→Fm→Hp→Prop)(e:Exit)(a:Act)(w:World):Prop:=∃ l hp,Knows n l a∧Good w0 mu hp w∧Q e l hp
def St(P:Program)(n:Nat)(w0:World)(mu:List Nat)(c:Code)(l:Fm)(hp:Hp)(Q:Exit→Fm→Hp→Prop):Prop:=
 ∀ a w,Knows n l a→Good w0 mu hp w→c.wp P (QQ n w0 mu Q) a w
def Ops(P:Program)(n:Nat)(w0:World)(mu:List Nat)(all:Array Oper)(ops:List Oper)(l:Fm)(hp:Hp)(Q:Exit→Fm→Hp→Prop):Prop:=
 ∀ a w,Knows n l a→Good w0 mu hp w→wpList P all (QQ n w0 mu Q) ops a w
def nx(N:Fm→Hp→Prop)(Q:Exit→Fm→Hp→Prop):Exit→Fm→Hp→Prop
 | .normal,l,hp=>N l hp
 | e,l,hp=>Q e l hp
def inb(id:Nat)(Q:Exit→Fm→Hp→Prop):Exit→Fm→Hp→Prop
 | .exit id',l,hp=>bif Nat.beq id' id then Q .normal l hp else Q (.exit id') l hp
 | e,l,hp=>Q e l hp
def Sub:Fm→Fm→Prop
 | [],_=>True
 | (k,v)::r,l=>look l k=some v∧Sub r l
theorem beq_iff{a:Nat}:Nat.beq a b=true↔a=b:=by simp
section
variable {P : Program} {n : Nat} {w0 : World} {mu : List Nat} {l : Fm} {hp : Hp} {Q : Exit → Fm → Hp → Prop}
theorem QQ.mono{e:Exit}{Q':Exit→Fm→Hp→Prop}(h:QQ n w0 mu Q e a w)(hq:∀ e l hp,Q e l hp→Q' e l hp):QQ n w0 mu Q' e a w:=by
 obtain⟨l,hp,hk,hg,h⟩:=h;exact⟨l,hp,hk,hg,hq _ _ _ h⟩
theorem Qi{Q':Exit→Fm→Hp→Prop}(h:St P n w0 mu c l hp Q')(hq:∀ e l hp,Q' e l hp→Q e l hp):St P n w0 mu c l hp Q:=
 fun a w hk hg=>Code.wp_mono (fun _ _ _ h=>QQ.mono h hq) (h a w hk hg)
theorem H6{x y:Code}(h:St P n w0 mu x l hp (nx (fun l' hp'=>St P n w0 mu y l' hp' Q) Q)):St P n w0 mu (.seq x y) l hp Q:=by
 intro a w hk hg;refine wp_seq (Code.wp_mono ?_ (h a w hk hg));intro e a' w' hq;obtain⟨l',hp',hk',hg',hq⟩:=hq
 cases e with
 | normal=>exact hq a' w' hk' hg'
 | exit id=>exact⟨l',hp',hk',hg',hq⟩
 | goto l=>exact⟨l',hp',hk',hg',hq⟩
 | ret=>exact⟨l',hp',hk',hg',hq⟩
 | panic ch=>exact⟨l',hp',hk',hg',hq⟩
 | outgrown=>exact⟨l',hp',hk',hg',hq⟩
theorem Dv(h:St P n w0 mu c l hp (inb id Q)):St P n w0 mu (.block id c) l hp Q:=by
 intro a w hk hg;refine wp_block (Code.wp_mono ?_ (h a w hk hg));intro e a' w' hq;obtain⟨l',hp',hk',hg',hq⟩:=hq
 cases e with
 | exit id'=>
  simp only[Exit.inBlock];simp only[inb] at hq;by_cases hid:id'=id
  ·rw[if_pos hid];rw[beq_iff.2 hid] at hq;exact⟨l',hp',hk',hg',hq⟩
  ·rw[if_neg hid]
   have:Nat.beq id' id=false:=by
    cases hb:Nat.beq id' id
    ·rfl
    ·exact absurd (beq_iff.1 hb) hid
   rw[this] at hq
   exact⟨l',hp',hk',hg',hq⟩
 | normal=>exact⟨l',hp',hk',hg',hq⟩
 | goto l=>exact⟨l',hp',hk',hg',hq⟩
 | ret=>exact⟨l',hp',hk',hg',hq⟩
 | panic ch=>exact⟨l',hp',hk',hg',hq⟩
 | outgrown=>exact⟨l',hp',hk',hg',hq⟩
theorem H7(h:Q .ret l hp):St P n w0 mu .ret l hp Q:=fun _ _ hk hg=>wp_ret ⟨l,hp,hk,hg,h⟩
theorem Cm(h:Q .normal l hp):St P n w0 mu .skip l hp Q:=fun _ _ hk hg=>wp_skip ⟨l,hp,hk,hg,h⟩
theorem CB(h:Q (.exit id) l hp):St P n w0 mu (.exit id) l hp Q:=fun _ _ hk hg=>wp_exit ⟨l,hp,hk,hg,h⟩
theorem Knows.ev(hk:Knows n l a)(h:Proofs.YtellmabgmnbhcaaGreat.ev l x=some v):a.eval x=v:=by
 cases x with
 | tmp t=>exact hk.has t v h
 | const u=>simp only[Proofs.YtellmabgmnbhcaaGreat.ev,bK0] at h;subst h;rfl
 | global g=>simpa [Proofs.YtellmabgmnbhcaaGreat.ev,Act.eval] using h
 | func f=>simpa [Proofs.YtellmabgmnbhcaaGreat.ev,Act.eval] using h
theorem Knows.put(hk:Knows n l a){d:Option Tmp}(hd:∀ t,d=some t→t<n)(v:Value):Knows n (upd l d v) (a.put d v):=by
 cases d with
 | none=>exact hk
 | some d=>
  refine⟨by simpa [Act.put] using hk.size,hk.defers,?_⟩;intro t u h;simp only[upd,look] at h
  cases hb:Nat.beq d t with
  | true=>
   rw[hb] at h;have:=beq_iff.1 hb;subst this;simp at h;subst h;have:=hd d rfl
   simp[Act.put,hk.size,this]
  | false=>
   rw[hb] at h;have hne:d≠t:=fun e=>by rw[beq_iff.2 e] at hb;cases hb
   have:=hk.has t u (by simpa using h);simpa [Act.put,bQ0 hne] using this
theorem ah{c:Operand}{x y:Code}(b:Bool)(hc:Proofs.YtellmabgmnbhcaaGreat.ev l c=some (.bool b))(ht:b=true→St P n w0 mu x l hp Q)(hf:b=false→St P n w0 mu y l hp Q):St P n w0 mu (.cond c x y) l hp Q:=by
 intro a w hk hg;exact wp_cond_split (hk.ev hc) (fun h=>ht h a w hk hg) (fun h=>hf h a w hk hg)
theorem vO(h:Ops P n w0 mu ops.toArray ops l hp Q):St P n w0 mu (.region id ops.toArray false) l hp Q:=
 fun a w hk hg=>wp_region_lit (h a w hk hg)
theorem CE(h:Q .normal l hp):Ops P n w0 mu all [] l hp Q:=fun _ _ hk hg=>wpList_nil ⟨l,hp,hk,hg,h⟩
theorem cZ(hp':Hp)(hs:hp'.Perm hp)(h:Ops P n w0 mu all ops l hp' Q):Ops P n w0 mu all ops l hp Q:=fun a w hk hg=>h a w hk (hg.perm hs)
end
end
section
def Zn:Option Tmp→Nat→Bool
 | none,_=>true
 | some d,n=>Nat.blt d n
theorem xq{d:Option Tmp}{n:Nat}(h:Zn d n=true):∀ t,d=some t→t<n:=by
 intro t ht;subst ht;simp only[Zn,bX4] at h;exact h
def Hy(P:Program)(n:Nat)(w0:World)(mu:List Nat)(l:Fm)(hp:Hp)(o:Oper)(v:Value):Prop:=
 ∀ a w,Knows n l a→Good w0 mu hp w→∀ (K:Act→World→Prop) (Q:Exit→Act→World→Prop),(∀ w',Good w0 mu hp w'→K (a.put o.dst v) w')→o.wp P a w K Q
section
variable {P : Program} {n : Nat} {w0 : World} {mu : List Nat} {l : Fm} {hp : Hp} {Q : Exit → Fm → Hp → Prop} {all : Array Oper} {rest : List Oper} {o : Oper}
theorem ar5(hg:o.guard=none)(hd:Zn o.dst n=true)(v:Value)(hy:Hy P n w0 mu l hp o v)(h:Ops P n w0 mu all rest (upd l o.dst v) hp Q):Ops P n w0 mu all (o::rest) l hp Q:=by
 intro a w hk hG;refine wpList_plain hg fun K hK=>hy a w hk hG K _ fun w' hG'=>hK _ _ (h _ _ (hk.put (xq hd) v) hG')
def gv(c:Bool)(v:Value):Value:=bif c then v else undef
def jd(b want:Bool):Bool:=bif want then b else !b
theorem bI(v:Value):gv true v=v:=rfl
theorem Qj{b:Bool}:jd b want=true↔b=want:=by cases b<;>cases want<;>decide
theorem NS{b:Bool}(hk:Knows n l a)(hj:(all[j]?).bind (·.dst)=some dj)(hb:look l dj=some (gv c0 (.bool b)))(hdj:Nat.blt dj n=true):
  yielded all a.tmps j=bif c0 then some b else none:=by
 have h1:=hk.has dj _ hb;have h2:dj<a.tmps.size:=by rw[hk.size];simpa using hdj
 simp only[yielded,hj,bQ5];rw[bO3 h2];have h3:a.tmps[dj]=gv c0 (.bool b):=by simpa [Array.getD,h2] using h1
 rw[h3];cases c0<;>rfl
theorem jL{b:Bool}(hk:Knows n l a)(hg:o.guard=some (j,want))(hj:(all[j]?).bind (·.dst)=some dj)(hb:look l dj=some (gv c0 (.bool b)))(hdj:Nat.blt dj n=true):
  Region.wanted o (yielded all a.tmps)=(c0&&jd b want):=by
 simp only[Region.wanted,hg,NS hk hj hb hdj];cases c0<;>cases b<;>cases want<;>decide
theorem Qk(j:Nat)(want:Bool)(hg:o.guard=some (j,want))(hd:Zn o.dst n=true)(dj:Nat)(hj:(all[j]?).bind (·.dst)=some dj)(c0 b:Bool)(hb:look l dj=some (gv c0 (.bool b)))(hdj:Nat.blt dj n=true)
  (v:Value) (hy:c0=true→jd b want=true→Hy P n w0 mu l hp o v) (h:Ops P n w0 mu all rest (upd l o.dst (gv (c0&&jd b want) v)) hp Q):Ops P n w0 mu all (o::rest) l hp Q:=by
 intro a w hk hG;have hw:=jL hk hg hj hb hdj;refine wpList_step fun K hK=>?_
 cases hc:(c0&&jd b want) with
 | true=>
  rw[hc] at hw;rw[if_pos hw];rw[bH6] at hc;refine hy hc.1 hc.2 a w hk hG K _ fun w' hG'=>hK _ _ ?_;have:=h _ _ (hk.put (xq hd) (gv (c0&&jd b want) v)) hG';rw[hc.1,hc.2] at this
  exact this
 | false=>
  rw[hc] at hw;rw[if_neg bF'];refine hK _ _ ?_;have:=h _ _ (hk.put (xq hd) (gv (c0&&jd b want) v)) hG;rw[hc] at this;exact this
theorem bQ(h:∀ a w,Knows n l a→Good w0 mu hp w→(execOp a.eval o).run P w=.ok (.value v) w):Hy P n w0 mu l hp o v:=by
 intro a w hk hG K Q hK;unfold Oper.wp;rw[h a w hk hG];exact hK w hG
theorem Zu(hop:o.op=.move x)(hx:ev l x=some v):Hy P n w0 mu l hp o v:=
 bQ fun a w hk _=>by simp[execOp,hop,hk.ev hx]
theorem RU(hop:o.op=.assign x)(hx:ev l x=some v):Hy P n w0 mu l hp o v:=
 bQ fun a w hk _=>by simp[execOp,hop,hk.ev hx]
theorem xX{c:Operand}{b:Bool}{u:Value}(hop:o.op=.pick c x y)(hc:ev l c=some (.bool b))(hx:ev l x=some u)(hy:ev l y=some v):Hy P n w0 mu l hp o (bif b then u else v):=
 bQ fun a w hk _=>by cases b<;>simp[execOp,hop,hk.ev hx,hk.ev hc,hk.ev hy,asBool]
theorem ar6{b:Bool}(hop:o.op=.unOp .not t x)(hx:ev l x=some (.bool b)):Hy P n w0 mu l hp o (.bool (!b)):=
 bQ fun a w hk _=>by simp only[execOp,hop,hk.ev hx];simp[go_sem]
theorem NT{vs:Array Value}(hop:o.op=.extract x i)(hx:ev l x=some (.tuple vs))(hi:vs[i]?=some v):Hy P n w0 mu l hp o v:=
 bQ fun a w hk _=>by simp[execOp,hop,hk.ev hx,Instr.extract,hi]
theorem JV{p:Addr}(hop:o.op=.nilCheck x)(hx:ev l x=some (.pointer (some p))):Hy P n w0 mu l hp o (.pointer (some p)):=
 bQ fun a w hk _=>by simp[execOp,hop,hk.ev hx]
theorem ar7{p:Int}(hop:o.op=.binOp .lss t x y u)(hx:ev l x=some (.int k p))(hy:ev l y=some (.int k q)):Hy P n w0 mu l hp o (.bool (decide (p<q))):=
 bQ fun a w hk _=>by simp only[execOp,hop,hk.ev hx,hk.ev hy];simp[go_sem]
theorem ar8{p:Int}(hop:o.op=.binOp .leq t x y u)(hx:ev l x=some (.int k p))(hy:ev l y=some (.int k q)):Hy P n w0 mu l hp o (.bool (decide (p≤q))):=
 bQ fun a w hk _=>by simp only[execOp,hop,hk.ev hx,hk.ev hy];simp[go_sem]
theorem ar9{p:Int}(hop:o.op=.binOp .gtr t x y u)(hx:ev l x=some (.int k p))(hy:ev l y=some (.int k q)):Hy P n w0 mu l hp o (.bool (decide (q<p))):=
 bQ fun a w hk _=>by simp only[execOp,hop,hk.ev hx,hk.ev hy];simp[go_sem]
theorem ar'{p:Int}(hop:o.op=.binOp .geq t x y u)(hx:ev l x=some (.int k p))(hy:ev l y=some (.int k q)):Hy P n w0 mu l hp o (.bool (decide (q≤p))):=
 bQ fun a w hk _=>by simp only[execOp,hop,hk.ev hx,hk.ev hy];simp[go_sem]
theorem as1{p:Int}(hop:o.op=.binOp .eql t x y u)(hx:ev l x=some (.int k p))(hy:ev l y=some (.int k q)):Hy P n w0 mu l hp o (.bool (decide (p=q))):=
 bQ fun a w hk _=>by
  simp only[execOp,hop,hk.ev hx,hk.ev hy];have e:(p == q)=decide (p=q):=by rw[bI2];simp
  simp[go_sem,bne,e]
theorem as2{p:Int}(hop:o.op=.binOp .neq t x y u)(hx:ev l x=some (.int k p))(hy:ev l y=some (.int k q)):Hy P n w0 mu l hp o (.bool (!decide (p=q))):=
 bQ fun a w hk _=>by
  simp only[execOp,hop,hk.ev hx,hk.ev hy];have e:(p == q)=decide (p=q):=by rw[bI2];simp
  simp[go_sem,bne,e]
theorem Zv{p q:Bool}(hop:o.op=.binOp .eql t x y u)(ht:P.underlying t=some .bool)(hx:ev l x=some (.bool p))(hy:ev l y=some (.bool q)):Hy P n w0 mu l hp o (.bool (p == q)):=
 bQ fun a w hk _=>by simp only[execOp,hop,hk.ev hx,hk.ev hy];simp[eqGuard,run_eql_bool w t p q ht]
theorem Zw{p q:Bool}(hop:o.op=.binOp .neq t x y u)(ht:P.underlying t=some .bool)(hx:ev l x=some (.bool p))(hy:ev l y=some (.bool q)):Hy P n w0 mu l hp o (.bool (p != q)):=
 bQ fun a w hk _=>by
  have:=run_neq_bool w t p q ht;simp only[execOp,hop,hk.ev hx,hk.ev hy];simp[eqGuard,this,bne]
theorem aG4{c:Operand}{b q:Bool}(hop:o.op=.pick c (.const (.bool true)) x)(hc:ev l c=some (.bool b))(hx:ev l x=some (gv (jd b false) (.bool q))):Hy P n w0 mu l hp o (.bool (b||q)):=by
 have:=xX (P:=P) (n:=n) (w0:=w0) (mu:=mu) (hp:=hp) hop hc rfl hx;cases b<;>exact this
theorem as3{c:Operand}{b q:Bool}(hop:o.op=.pick c x (.const (.bool false)))(hc:ev l c=some (.bool b))(hx:ev l x=some (gv (jd b true) (.bool q))):Hy P n w0 mu l hp o (.bool (b&&q)):=by
 have:=xX (P:=P) (n:=n) (w0:=w0) (mu:=mu) (hp:=hp) hop hc hx rfl;cases b<;>exact this
theorem Vp{p:Int}(hop:o.op=.binOp .add t x y u)(hx:ev l x=some (.int k p))(hy:ev l y=some (.int k q)):Hy P n w0 mu l hp o (.int k (k.wrap (p+q))):=
 bQ fun a w hk _=>by simp only[execOp,hop,hk.ev hx,hk.ev hy];cases k<;>rfl
theorem Vq{p:Int}(hop:o.op=.binOp .sub t x y u)(hx:ev l x=some (.int k p))(hy:ev l y=some (.int k q)):Hy P n w0 mu l hp o (.int k (k.wrap (p-q))):=
 bQ fun a w hk _=>by simp only[execOp,hop,hk.ev hx,hk.ev hy];cases k<;>rfl
theorem as4{p:Int}(hop:o.op=.binOp .mul t x y u)(hx:ev l x=some (.int k p))(hy:ev l y=some (.int k q)):Hy P n w0 mu l hp o (.int k (k.wrap (p*q))):=
 bQ fun a w hk _=>by simp only[execOp,hop,hk.ev hx,hk.ev hy];cases k<;>rfl
theorem wrap_in{x:Int}(h0:-9223372036854775808≤x)(h1:x≤9223372036854775807):IntKind.i64.wrap x=x:=IntWalk.i64_in _ ⟨h0,h1⟩
theorem H8{p:Int}(hop:o.op=.binOp .add t x y u)(hx:ev l x=some (.int .i64 p))(hy:ev l y=some (.int .i64 q))(h0:-9223372036854775808≤p+q)(h1:p+q≤9223372036854775807):Hy P n w0 mu l hp o (.int .i64 (p+q)):=by
 have:=Vp (P:=P) (n:=n) (w0:=w0) (mu:=mu) (hp:=hp) hop hx hy;rwa [wrap_in h0 h1] at this
theorem Zx{p:Int}(hop:o.op=.binOp .sub t x y u)(hx:ev l x=some (.int .i64 p))(hy:ev l y=some (.int .i64 q))(h0:-9223372036854775808≤p-q)(h1:p-q≤9223372036854775807):Hy P n w0 mu l hp o (.int .i64 (p-q)):=by
 have:=Vq (P:=P) (n:=n) (w0:=w0) (mu:=mu) (hp:=hp) hop hx hy;rwa [wrap_in h0 h1] at this
theorem Zy{p:Int}(hop:o.op=.binOp .mul t x y u)(hx:ev l x=some (.int .i64 p))(hy:ev l y=some (.int .i64 q))(h0:-9223372036854775808≤p*q)(h1:p*q≤9223372036854775807):Hy P n w0 mu l hp o (.int .i64 (p*q)):=by
 have:=as4 (P:=P) (n:=n) (w0:=w0) (mu:=mu) (hp:=hp) hop hx hy;rwa [wrap_in h0 h1] at this
theorem Zz{s d:TypeId}{k':IntKind}{p:Int}(hop:o.op=.convert s d x)(hs:P.underlying s=some (.int k))(hd:P.underlying d=some (.int k'))(hx:ev l x=some (.int k p)):Hy P n w0 mu l hp o (.int k' (k'.wrap p)):=
 bQ fun a w hk _=>by
  simp only[execOp,hop,hk.ev hx];simp[convert,run_underlying hs w,run_underlying hd w,Conv.intToInt,go_sem]
theorem as5{p:Option Addr}{c:Nat}(hop:o.op=.call { callee:=.builtin .len,args:=#[x],argTypes:=#[t] })(ht:P.underlying t=some (.slice e))(hx:ev l x=some (.slice p m c)):Hy P n w0 mu l hp o (.int .i64 m):=
 bQ fun a w hk _=>by
  simp only[execOp,hop,resolve,bP5,bL9,bO9,hk.ev hx];simp[invoke,builtin,Builtin.len_,run_underlying ht w,go_sem]
end
end
section
def xY(P:Program)(t:TypeId):Bool:=
 match P.underlying t with
 | some (.struct _) | some (.array _ _) | none=>false
 | _=>true
def nN(P:Program)(t:TypeId):Bool:=
 match P.underlying t with
 | some (.struct _) | some (.array _ _)=>true
 | _=>false
def fK(P:Program)(t:TypeId):Option Nat:=(P.info? t).map (·.size)
def Vr(P:Program)(t:TypeId)(k:Nat):Option Nat:=
 match P.underlying t with
 | some (.struct fs)=>(fs[k]?).bind fun f=>match fK P f.type with | some (_+1)=>some f.offset | _=>none
 | _=>none
def zeroOf(P:Program)(t:TypeId):Option Value:=(P.info? t).bind (·.zero)
structure Tab where
 sz:List (Nat×Nat)
 sc:List Nat
 ag:List Nat
 sl:List (Nat×Nat×Nat)
 ar:List (Nat×Nat×Nat×Nat)
 fo:List (Nat×List Nat)
 pl:List (Nat×List (Nat×Nat))
 ik:List (Nat×IntKind)
 bo:List Nat
 eb:List (Nat×Nat)
 zs:List (Nat×Value)
def aG5(P:Program)(t:TypeId):Option (Nat×Nat):=
 match P.underlying t with
 | some (.slice e)=>(fK P e).map fun s=>(e,s)
 | _=>none
def aG6(P:Program)(t:TypeId):Option (Nat×Nat×Nat):=
 match P.underlying t with
 | some (.array n e)=>(fK P e).map fun s=>(n,e,s)
 | _=>none
def aG7(P:Program)(t:TypeId):Option IntKind:=
 match P.underlying t with
 | some (.int k)=>some k
 | _=>none
def aG8(P:Program)(t:TypeId):Bool:=
 match P.underlying t with
 | some .bool=>true
 | _=>false
def placesOf(P:Program)(t:TypeId):Option (List (Nat×Nat)):=
 match P.underlying t with
 | some (.struct fs)=>fs.toList.mapM fun f=>(fK P f.type).map fun s=>(f.offset,s)
 | _=>none
def aG9(P:Program):List (Nat×Value)→Prop
 | []=>True
 | p::r=>zeroOf P p.1=some p.2∧aG9 P r
structure bC(P:Program)(T:Tab):Prop where
 sz:(T.sz.all fun p=>fK P p.1 == some p.2)=true
 sc:(T.sc.all fun t=>xY P t)=true
 ag:(T.ag.all fun t=>nN P t)=true
 sl:(T.sl.all fun p=>aG5 P p.1 == some p.2)=true
 ar:(T.ar.all fun p=>aG6 P p.1 == some p.2)=true
 fo:(T.fo.all fun p=>p.2.zipIdx.all fun q=>Vr P p.1 q.2 == some q.1)=true
 pl:(T.pl.all fun p=>placesOf P p.1 == some p.2)=true
 ik:(T.ik.all fun p=>aG7 P p.1 == some p.2)=true
 bo:(T.bo.all fun t=>aG8 P t)=true
 eb:(T.eb.all fun p=>(P.info? p.1).map (·.bytes) == some p.2)=true
 zs:aG9 P T.zs
def lk{α:Type}:List (Nat×α)→Nat→Option α
 | [],_=>none
 | (k,v)::r,t=>bif Nat.beq k t then some v else lk r t
def mem:List Nat→Nat→Bool
 | [],_=>false
 | k::r,t=>bif Nat.beq k t then true else mem r t
theorem jC{α:Type}{T:List (Nat×α)}{t:Nat}{v:α}(h:lk T t=some v):(t,v)∈T:=by
 induction T with
 | nil=>simp[lk] at h
 | cons p r ih=>
  obtain⟨k,u⟩:=p;simp only[lk] at h
  cases hb:Nat.beq k t with
  | true=>
   rw[hb] at h;simp only[cond_true,bK0] at h
   rw[←beq_iff.1 hb,←h];exact bI8 ..
  | false=>rw[hb] at h;exact bI5 _ (ih h)
theorem gY{T:List Nat}{t:Nat}(h:mem T t=true):t∈T:=by
 induction T with
 | nil=>simp[mem] at h
 | cons k r ih=>
  simp only[mem] at h
  cases hb:Nat.beq k t with
  | true=>rw[←beq_iff.1 hb];exact bI8 ..
  | false=>rw[hb] at h;exact bI5 _ (ih h)
section
variable {P : Program} {T : Tab}
theorem bC.zO(ok:bC P T){t:Nat}(h:lk T.sz t=some s):fK P t=some s:=by
 have:=bH'.1 ok.sz _ (jC h);simpa using this
theorem bC.gsc(ok:bC P T){t:Nat}(h:mem T.sc t=true):xY P t=true:=bH'.1 ok.sc _ (gY h)
theorem bC.gag(ok:bC P T){t:Nat}(h:mem T.ag t=true):nN P t=true:=bH'.1 ok.ag _ (gY h)
theorem bC.zJ(ok:bC P T){t e:Nat}(h:lk T.sl t=some (e,s)):P.underlying t=some (.slice e)∧fK P e=some s:=by
 have:=bH'.1 ok.sl _ (jC h);simp only[aG5,beq_iff_eq] at this;split at this
 ·rename_i e' hu
  cases hs:fK P e' with
  | none=>simp[hs] at this
  | some s'=>simp[hs] at this;obtain⟨rfl,rfl⟩:=this;exact⟨hu,hs⟩
 ·cases this
theorem bC.gar(ok:bC P T){t e:Nat}(h:lk T.ar t=some (m,e,s)):P.underlying t=some (.array m e)∧fK P e=some s:=by
 have:=bH'.1 ok.ar _ (jC h);simp only[aG6,beq_iff_eq] at this;split at this
 ·rename_i m' e' hu
  cases hs:fK P e' with
  | none=>simp[hs] at this
  | some s'=>simp[hs] at this;obtain⟨rfl,rfl,rfl⟩:=this;exact⟨hu,hs⟩
 ·cases this
theorem bC.gik(ok:bC P T){t:Nat}(h:lk T.ik t=some k):P.underlying t=some (.int k):=by
 have:=bH'.1 ok.ik _ (jC h);simp only[aG7,beq_iff_eq] at this;split at this
 ·rename_i k' hu;simp only[bK0] at this;rw[←this];exact hu
 ·cases this
theorem bC.gbo(ok:bC P T){t:Nat}(h:mem T.bo t=true):P.underlying t=some .bool:=by
 have:=bH'.1 ok.bo _ (gY h);simp only[aG8] at this;split at this
 ·assumption
 ·cases this
theorem bC.gfo(ok:bC P T){t k:Nat}{os:List Nat}(h:lk T.fo t=some os)(hk:os[k]?=some d):Vr P t k=some d:=by
 have:=bH'.1 ok.fo _ (jC h);have h2:=bH'.1 this (d,k) (by rw[List.mem_zipIdx_iff_getElem?];exact hk);simpa using h2
theorem bC.NH (ok : bC P T) {t : Nat}  (h : lk T.zs t = some z) : zeroOf P t = some z := by
  have := jC h;have hz := ok.zs;generalize T.zs = l at *
  induction l with
  | nil => cases this
  | cons p r ih =>
    rcases bJ3.1 this with rfl | hm
    · exact hz.1
    · by_cases hb : Nat.beq p.1 t = true
      · simp only [lk, hb, cond_true, bK0] at h
        rw [← beq_iff.1 hb, ← h]; exact hz.1
      · have hb' : Nat.beq p.1 t = false := by cases hq : Nat.beq p.1 t; · rfl
                                               · exact absurd hq hb
        simp only [lk, hb', cond_false] at h;exact ih h hm hz.2
end
section
variable {P : Program} {n : Nat} {w0 : World} {mu : List Nat} {l : Fm} {hp : Hp} {Q : Exit → Fm → Hp → Prop} {all : Array Oper} {rest : List Oper} {o : Oper}
theorem oI(h:xY P t=true)(w:World):(isAgg t).run P w=.ok false w:=by
 unfold xY at h
 cases hu:P.underlying t with
 | none=>rw[hu] at h;cases h
 | some d=>
  rw[hu] at h;unfold isAgg;rw[Sem.run_bind,run_underlying hu w];cases d<;>simp_all
theorem uB(h:xY P t=true){p:Addr}(hc:w.cell? p=some v):(Instr.loadAt t (.pointer (some p))).run P w=.ok v w:=by
 simp only[Instr.loadAt,Instr.sureAddr,Sem.run_bind,Sem.run_pure,Result.andThen_ok,loadVar,oI h w];simp[load,Sem.run,hc]
theorem ZA(hop:o.op=.load t x)(hs:xY P t=true)(hx:ev l x=some (.pointer (some ⟨b,off,none⟩)))
  (e:mO) (hm:e∈hp) (hb:e.b=b) (hv:e.cs[off]?=some v):Hy P n w0 mu l hp o v:=
 bQ fun a w hk hG=>by
  simp only[execOp,hop,hk.ev hx];have hc:w.cell? ⟨b,off,none⟩=some v:=by rw[←hb,cell_of_block (hG.here e hm)];exact hv
  simp[uB hs hc]
theorem Vs(hop:o.op=.load t x)(hs:xY P t=true)(hx:ev l x=some (.pointer (some ⟨b,off,none⟩)))
  (hc:w0.cell? ⟨b,off,none⟩=some v) (hmu:b∉mu):Hy P n w0 mu l hp o v:=
 bQ fun a w hk hG=>by
  simp only[execOp,hop,hk.ev hx];simp[uB hs (hG.cell hc hmu)]
theorem uC{cs:List Value}(ha:nN P t=true)(hs:fK P t=some cs.length)(hc:w.rangeAt b off cs):(Instr.loadAt t (.pointer (some ⟨b,off,none⟩))).run P w=.ok (.agg cs.toArray) w:=by
 unfold nN at ha
 cases hu:P.underlying t with
 | none=>rw[hu] at ha;cases ha
 | some d=>
  rw[hu] at ha;exact run_loadAt_mid w b off t cs d hc hu (by cases d<;>simp_all) hs
theorem Vt(vs:List Value)(hop:o.op=.load t x)(ha:nN P t=true)(hx:ev l x=some (.pointer (some ⟨b,off,none⟩)))
  (e:mO) (hm:e∈hp) (hb:e.b=b) (hs:fK P t=some vs.length) (hv:(e.cs.toList.drop off).take vs.length=vs):Hy P n w0 mu l hp o (.agg vs.toArray):=
 bQ fun a w hk hG=>by
  simp only[execOp,hop,hk.ev hx]
  have hr:w.rangeAt b off vs:=by
   intro j v hj;rw[←hb,cell_of_block (hG.here e hm)];rw[←hv,bM7] at hj;split at hj
   ·rw[bP2] at hj;simpa using hj
   ·cases hj
  simp[uC ha hs hr]
theorem RV(vs:List Value)(hop:o.op=.load t x)(ha:nN P t=true)(hx:ev l x=some (.pointer (some ⟨b,off,none⟩)))
  (hs:fK P t=some vs.length) (hr:w0.rangeAt b off vs) (hmu:b∉mu):Hy P n w0 mu l hp o (.agg vs.toArray):=
 bQ fun a w hk hG=>by
  simp only[execOp,hop,hk.ev hx];have hr':w.rangeAt b off vs:=fun j v hj=>hG.cell (hr j v hj) hmu;simp[uC ha hs hr']
theorem add_lit(b o k:Nat):(⟨b,o,none⟩:Addr).add k=⟨b,o+k,none⟩:=Addr.add_mid b o k
theorem Vu{k:Nat}(hop:o.op=.fieldAddr t x k)(hx:ev l x=some (.pointer (some ⟨b,off,none⟩)))(hf:Vr P t k=some d):Hy P n w0 mu l hp o (.pointer (some ⟨b,off+d,none⟩)):=
 bQ fun a w hk _=>by
  simp only[execOp,hop,hk.ev hx];unfold Vr at hf
  cases hu:P.underlying t with
  | none=>rw[hu] at hf;cases hf
  | some dd=>
   rw[hu] at hf
   cases dd with
   | struct fs=>
    simp only at hf
    cases hq:fs[k]? with
    | none=>rw[hq] at hf;cases hf
    | some f=>
     rw[hq] at hf;simp only[bQ5] at hf
     cases hz:fK P f.type with
     | none=>rw[hz] at hf;cases hf
     | some s=>
      rw[hz] at hf
      cases s with
      | zero=>cases hf
      | succ s=>
       simp only[bK0] at hf;subst hf
       cases hi:P.info? f.type with
       | none=>simp[fK,hi] at hz
       | some i=>
        have hsz:i.size=s+1:=by simpa [fK,hi] using hz
        simp[Instr.fieldAt,Instr.sureAddr,run_underlying hu w,hq,fieldPlace,sizeOf,typeInfo,hi,hsz,add_lit]
   | _=>cases hf
theorem run_sizeOf   (h : fK P t = some s) (w : World) : (sizeOf t).run P w = .ok s w := by
  cases hi : P.info? t with
  | none => simp [fK, hi] at h
  | some i => have : i.size = s := by simpa [fK, hi] using h
              simp [sizeOf, typeInfo, hi, this]
theorem JW{c:Nat}{i:Int}(hop:o.op=.indexAddr t x y)(ht:P.underlying t=some (.slice e))(hs:fK P e=some s)
  (hx:ev l x=some (.slice (some ⟨b,off,none⟩) m c)) (hy:ev l y=some (.int k i)) (h0:0≤i) (h1:i<m):Hy P n w0 mu l hp o (.pointer (some ⟨b,off+i.toNat*s,none⟩)):=
 bQ fun a w hk _=>by
  simp only[execOp,hop,hk.ev hx,hk.ev hy];simp[Instr.indexAt,run_underlying ht w,asIntOf,h0,h1,run_sizeOf hs w,add_lit]
theorem Gf{i:Int}(hop:o.op=.indexAddr t x y)(ht:P.underlying t=some (.array m e))(hs:fK P e=some s)
  (hx:ev l x=some (.pointer (some ⟨b,off,none⟩))) (hy:ev l y=some (.int k i)) (h0:0≤i) (h1:i<m):Hy P n w0 mu l hp o (.pointer (some ⟨b,off+i.toNat*s,none⟩)):=
 bQ fun a w hk _=>by
  simp only[execOp,hop,hk.ev hx,hk.ev hy];simp[Instr.indexAt,Instr.sureAddr,run_underlying ht w,asIntOf,h0,h1,run_sizeOf hs w,add_lit]
theorem CG{b:Nat}(hg:o.guard=none)(hd:Zn o.dst n=true)(cs:Array Value)(t:TypeId)(_hb:b=b)(F:Nat→Value)
  (hrun:∀ a w,Knows n l a→Good w0 mu hp w→(execOp a.eval o).run P w=.ok (.value (F w.heap.size)) (w.alloc (.cells cs t)))
  (h:∀ b,Ops P n w0 mu all rest (upd l o.dst (F b)) (⟨b,cs,t⟩::hp) Q):Ops P n w0 mu all (o::rest) l hp Q:=by
 intro a w hk hG;refine wpList_plain hg fun K hK=>?_;unfold Oper.wp;rw[hrun a w hk hG];exact hK _ _ (h w.heap.size _ _ (hk.put (xq hd) _) (hG.alloc cs t))
theorem RX(hop:o.op=.alloc t)(hg:o.guard=none)(hd:Zn o.dst n=true)(hz:zeroOf P t=some z)
  (h:∀ b,Ops P n w0 mu all rest (upd l o.dst (.pointer (some ⟨b,0,none⟩))) (⟨b,z.cells,t⟩::hp) Q):Ops P n w0 mu all (o::rest) l hp Q:=
 CG (b:=0) hg hd z.cells t rfl (fun b=>.pointer (some ⟨b,0,none⟩)) (fun a w _ _=>by
  simp only[execOp,hop]
  cases hi:P.info? t with
  | none=>simp[zeroOf,hi] at hz
  | some i=>
   have hz':i.zero=some z:=by simpa [zeroOf,hi] using hz
   simp[Instr.alloc,zeroValue,typeInfo,hi,hz',go_sem]) h
theorem ZB(hop:o.op=.box t x)(hg:o.guard=none)(hd:Zn o.dst n=true)(hx:ev l x=some v)
  (h:∀ b,Ops P n w0 mu all rest (upd l o.dst (.pointer (some ⟨b,0,none⟩))) (⟨b,v.cells,t⟩::hp) Q):Ops P n w0 mu all (o::rest) l hp Q:=
 CG (b:=0) hg hd v.cells t rfl (fun b=>.pointer (some ⟨b,0,none⟩)) (fun a w hk _=>by
  simp only[execOp,hop,hk.ev hx]
  simp[Instr.box,go_sem]) h
def places(P:Program)(t:TypeId):Option (Array (Nat×Nat)):=
 match P.underlying t with
 | some (.struct fs)=>fs.mapM fun f=>(fK P f.type).map fun s=>(f.offset,s)
 | _=>none
theorem run_places{fs:Array Field}{ps:Array (Nat×Nat)}(h:(fs.mapM fun f=>(fK P f.type).map fun s=>(f.offset,s))=some ps)(w:World):
  (fs.mapM fun f=>do pure (f.offset,←sizeOf f.type):Sem (Array (Nat×Nat))).run P w=.ok ps w:=by
 rw[←bZ3 (xs:=fs)] at h ⊢;simp only[List.mapM_toArray] at h ⊢;generalize fs.toList=l at *
 have key:∀ (l:List Field) (r:List (Nat×Nat)),(l.mapM fun f=>(fK P f.type).map fun s=>(f.offset,s))=some r→(l.mapM fun f=>do pure (f.offset,←sizeOf f.type):Sem (List (Nat×Nat))).run P w=.ok r w:=by
  intro l
  induction l with
  | nil=>intro r h;simp at h;subst h;simp
  | cons f l ih=>
   intro r h;rw[List.mapM_cons] at h
   cases hs:fK P f.type with
   | none=>simp[hs] at h
   | some s=>
    simp only[hs,bL5,Option.bind_eq_bind,bQ5] at h
    cases hm:(l.mapM fun f=>(fK P f.type).map fun s=>(f.offset,s)) with
    | none=>simp[hm] at h
    | some r'=>
     simp only[hm,bQ5,Option.pure_def,bK0] at h;subst h;rw[List.mapM_cons];simp only[Sem.run_bind,run_sizeOf hs w,Result.andThen_ok,Sem.run_pure,ih r' hm]
 cases hm:(l.mapM fun f=>(fK P f.type).map fun s=>(f.offset,s)) with
 | none=>simp[hm] at h
 | some r=>
  simp[hm] at h;subst h;have:=key l r hm;show Sem.run P ((List.mapM _ l) >>= fun x=>pure x.toArray) w=_;simp only[Sem.run_bind,this,Result.andThen_ok,Sem.run_pure]
def evs(l:Fm):List Operand→Option (List Value)
 | []=>some []
 | x::r=>match ev l x,evs l r with | some v,some vs=>some (v::vs) | _,_=>none
theorem Knows.evs(hk:Knows n l a):∀ {xs:List Operand} {vs:List Value},Proofs.YtellmabgmnbhcaaGreat.evs l xs=some vs→xs.map a.eval=vs:=by
 intro xs
 induction xs with
 | nil=>intro vs h;simp[Proofs.YtellmabgmnbhcaaGreat.evs] at h;subst h;rfl
 | cons x r ih=>
  intro vs h;simp only[Proofs.YtellmabgmnbhcaaGreat.evs] at h;split at h
  ·rename_i v vs' h1 h2;simp only[bK0] at h;subst h;simp[hk.ev h1,ih h2]
  ·cases h
def Fh(l:Fm):List (Nat×Operand)→Option (List (Nat×Value))
 | []=>some []
 | (i,x)::r=>match ev l x,Fh l r with | some v,some vs=>some ((i,v)::vs) | _,_=>none
theorem Knows.Fh(hk:Knows n l a):∀ {xs:List (Nat×Operand)} {vs:List (Nat×Value)},Proofs.YtellmabgmnbhcaaGreat.Fh l xs=some vs→(xs.map fun p=>(p.1,a.eval p.2))=vs:=by
 intro xs
 induction xs with
 | nil=>intro vs h;simp[Proofs.YtellmabgmnbhcaaGreat.Fh] at h;subst h;rfl
 | cons p r ih=>
  obtain⟨i,x⟩:=p;intro vs h;simp only[Proofs.YtellmabgmnbhcaaGreat.Fh] at h;split at h
  ·rename_i v vs' h1 h2;simp only[bK0] at h;subst h;simp[hk.ev h1,ih h2]
  ·cases h
theorem pK(hz:zeroOf P t=some z)(w:World):(zeroValue t).run P w=.ok z w:=by
 cases hi:P.info? t with
 | none=>simp[zeroOf,hi] at hz
 | some i=>
  have hz':i.zero=some z:=by simpa [zeroOf,hi] using hz
  simp[zeroValue,typeInfo,hi,hz']
theorem Vw{ps:List (Nat×Operand)}{vs:List (Nat×Value)}{pl:Array (Nat×Nat)}(hop:o.op=.build t ps.toArray)(hz:zeroOf P t=some z)(hpl:places P t=some pl)
  (hv:Fh l ps=some vs) (hf:Instr.fill (pl[·]?) z.cells vs=some out):Hy P n w0 mu l hp o (.agg out):=
 bQ fun a w hk _=>by
  simp only[execOp,hop];have e:(ps.toArray.map fun x=>(x.1,a.eval x.2))=vs.toArray:=by rw[←hk.Fh hv];simp
  unfold places at hpl
  cases hu:P.underlying t with
  | none=>rw[hu] at hpl;cases hpl
  | some d=>
   rw[hu] at hpl
   cases d with
   | struct fs=>
    have e2:=run_places hpl w;simp only[Instr.build,Sem.run_bind,pK hz w,Result.andThen_ok,run_underlying hu w,e,e2]
    simp[hf]
   | _=>cases hpl
def putAt:Array Value→Nat→List Value→Array Value
 | cs,_,[]=>cs
 | cs,o,v::r=>putAt (cs.setIfInBounds o v) (o+1) r
theorem Good.sets{w:World}{hp:Hp}:∀ (vs:List Value) (cs:Array Value) (o:Nat) (w:World),Good w0 mu (⟨b,cs,t⟩::hp) w→Good w0 mu (⟨b,putAt cs o vs,t⟩::hp) (w.setCells b o vs):=by
 intro vs
 induction vs with
 | nil=>intro cs o w h;exact h
 | cons v r ih=>intro cs o w h;exact ih _ _ _ (h.set o v)
theorem RY(vs:List Value){hp':Hp}(hop:o.op=.store t x y)(hg:o.guard=none)(hd:o.dst=none)
  (hx:ev l x=some (.pointer (some ⟨b,off,none⟩))) (hy:ev l y=some v) (lC:v.cells=vs.toArray) (hv1:vs.all (·.oneCell')=true) (hs:fK P t=some vs.length) (hperm:(⟨b,cs,tb⟩::hp').Perm hp) (hlt:off+vs.length≤cs.size)
  (h:Ops P n w0 mu all rest l (⟨b,putAt cs off vs,tb⟩::hp') Q):Ops P n w0 mu all (o::rest) l hp Q:=by
 intro a w hk hG;refine wpList_plain hg fun K hK=>?_;have hG':=hG.perm hperm;have hb:=hG'.here _ (bI8 ..)
 have hst:=run_storeCells_cells (P:=P) b off vs 0 w
  (fun j hj=>by rw[cell_of_block hb];simp[show off+j<cs.size by omega])
  (fun j _=>fQ hb) (fun u hu=>(bH'.1 hv1) u hu)
 unfold Oper.wp
 have hrun:(execOp a.eval o).run P w=.ok .skip (w.setCells b off vs):=by
  simp only[execOp,hop,hk.ev hx,hk.ev hy];simp only[bL4] at hst;simp[Instr.storeAt,Instr.sureAddr,storeVar,lC,run_sizeOf hs w,hst]
 rw[hrun];exact hK (a.put o.dst undef) _ (h _ _ (by rw[hd];exact hk) (Good.sets (w:=w) vs cs off w hG'))
theorem qZ        (hop : o.op = .call { callee := .value (.func f), args := xs.toArray, argTypes := tys })
    (hf : P.funcs[f]? = some fn) (hname : (fn.name == "runtime.NumGoroutine") = false) (hb : fn.body = some c) (hk : Knows n l a) (hv : evs l xs = some vs) (w : World) : (execOp a.eval o).run P w = .ok (.enter f vs.toArray) w := by
  have e : xs.toArray.map a.eval = vs.toArray := by rw [← hk.evs hv]; simp
  rw [Conc.execOp_call_func hop, e];exact MuLone.run_callFunc_enter hf hname hb _ w
theorem ZC        (hop : o.op = .call { callee := .value (.func f), args := xs.toArray, argTypes := tys })
    (hf : P.funcs[f]? = some fn) (hname : (fn.name == "runtime.NumGoroutine") = false) (hb : fn.body = some c) (hv : evs l xs = some vs)
    (hc : ∀ w, Good w0 mu hp w → Fn P f vs.toArray w [] (fun u _ => u = v)) : Hy P n w0 mu l hp o v := by
  intro a w hk hG K Q' hK;unfold Oper.wp;rw [qZ hop hf hname hb hk hv w];refine Calls.mono (hc w hG) ?_;rintro e w' ⟨u, hn, rfl, hg', rfl⟩;exact hK w' ((hG.trans hg').sub (bR' _ _))
theorem Vx       {R : Value → Hp → Prop} (hop : o.op = .call { callee := .value (.func f), args := xs.toArray, argTypes := tys }) (hg : o.guard = none) (hd : Zn o.dst n = true)
    (hf : P.funcs[f]? = some fn) (hname : (fn.name == "runtime.NumGoroutine") = false) (hb : fn.body = some c) (hv : evs l xs = some vs)
    (hc : ∀ w, Good w0 mu hp w → Fn P f vs.toArray w [] R) (h : ∀ v hn, R v hn → Ops P n w0 mu all rest (upd l o.dst v) (hn ++ hp) Q) : Ops P n w0 mu all (o :: rest) l hp Q := by
  intro a w hk hG;refine wpList_plain hg fun K hK => ?_;unfold Oper.wp;rw [qZ hop hf hname hb hk hv w];refine Calls.mono (hc w hG) ?_;rintro e w' ⟨u, hn, rfl, hg', hR⟩;exact hK _ _ (h u hn hR _ _ (hk.put (xq hd) u) (hG.trans hg'))
theorem RZ       {R : Value → Hp → Prop} (hi hp' : Hp) (hop : o.op = .call { callee := .value (.func f), args := xs.toArray, argTypes := tys }) (hg : o.guard = none) (hd : Zn o.dst n = true)
    (hf : P.funcs[f]? = some fn) (hname : (fn.name == "runtime.NumGoroutine") = false) (hb : fn.body = some c) (hv : evs l xs = some vs) (hperm : (hi ++ hp').Perm hp)
    (hc : ∀ w, Good w0 mu (hi ++ hp') w → Fn P f vs.toArray w (hi.map (·.b)) R) (h : ∀ v hn, R v hn → Ops P n w0 mu all rest (upd l o.dst v) (hn ++ hp') Q) : Ops P n w0 mu all (o :: rest) l hp Q := by
  intro a w hk hG;refine wpList_plain hg fun K hK => ?_;unfold Oper.wp;rw [qZ hop hf hname hb hk hv w];refine Calls.mono (hc w (hG.perm hperm)) ?_;rintro e w' ⟨u, hn, rfl, hg', hR⟩;exact hK _ _ (h u hn hR _ _ (hk.put (xq hd) u) ((hG.perm hperm).lH hg'))
end
end
section
def aG'(P:Program)(l:Fm)(hp:Hp):ResultVar→Value→Prop
 | .tmp t,v=>look l t=some v
 | .cell a t,v=>∃ e∈hp,look l a=some (.pointer (some ⟨e.b,0,none⟩))∧((xY P t=true∧e.cs[0]?=some v)∨(nN P t=true∧fK P t=some e.cs.size∧v=.agg e.cs))
def H9(P:Program)(l:Fm)(hp:Hp):List ResultVar→List Value→Prop
 | [],[]=>True
 | r::rs,v::vs=>aG' P l hp r v∧H9 P l hp rs vs
 | _,_=>False
def packed:List Value→Value
 | [v]=>v
 | vs=>.tuple vs.toArray
def Fin(P:Program)(fn:Func)(R:Value→Hp→Prop)(e:Exit)(l:Fm)(hp:Hp):Prop:=
 (e=.ret∨e=.normal)∧∃ vs,H9 P l hp fn.results.toList vs∧R (packed vs) hp
def xZ:Nat→List Value→Fm
 | _,[]=>[]
 | i,v::r=>(i,v)::xZ (i+1) r
section
variable {P : Program} {n : Nat} {w0 : World} {mu : List Nat} {l : Fm} {hp : Hp}
theorem Dw:∀ (args:List Value) (i t:Nat) (v:Value),look (xZ i args) t=some v→i≤t∧args[t-i]?=some v:=by
 intro args
 induction args with
 | nil=>intro i t v h;simp[xZ,look] at h
 | cons u r ih=>
  intro i t v h;simp only[xZ,look] at h
  cases hb:Nat.beq i t with
  | true=>
   rw[hb] at h;have:=beq_iff.1 hb;subst this;simp at h;subst h
   simp
  | false=>
   rw[hb] at h;have hne:i≠t:=fun e=>by rw[beq_iff.2 e] at hb;cases hb
   obtain⟨h1,h2⟩:=ih (i+1) t v (by simpa using h);refine⟨by omega,?_⟩;rw[show t-i=(t-(i+1))+1 by omega];simpa using h2
def Dx(tmps:Array Value)(r:ResultVar):Sem Value:=ResultVar.casesOn r (fun t=>pure (tmps.getD t undef)) (fun a t=>do loadVar t (←asAddr (tmps.getD a undef)))
theorem NU(fn:Func)(tmps:Array Value):results fn tmps=(do let vs ←fn.results.mapM (Dx tmps);pure (if h:vs.size=1 then vs[0] else .tuple vs)):=by
 unfold results
 congr 1
 congr 1
 funext r
 cases r<;>rfl
theorem Vy(hk:Knows n l a)(hG:Good w0 mu hp w){r:ResultVar}(h:aG' P l hp r v):(Dx a.tmps r).run P w=.ok v w:=by
 cases r with
 | tmp t=>simp only[Dx,Sem.run_pure,hk.has t v h]
 | cell x t=>
  obtain⟨e,he,hx,h⟩:=h;have hb:=hG.here e he;simp only[Dx,hk.has x _ hx];rcases h with⟨hs,hc⟩ | ⟨ha,hs,rfl⟩
  ·have hc':w.cell? ⟨e.b,0,none⟩=some v:=by rw[cell_of_block hb];exact hc
   simp only[asAddr,Sem.run_bind,Sem.run_pure,Result.andThen_ok,loadVar,oI hs w];simp[load,Sem.run,hc']
  ·have hr:w.rangeAt e.b 0 e.cs.toList:=fun j v hj=>by rw[cell_of_block hb];simpa using hj
   have:=uC (P:=P) ha (by simpa using hs) hr;simpa [asAddr,Instr.loadAt,Instr.sureAddr] using this
theorem NV(hk:Knows n l a)(hG:Good w0 mu hp w):∀ {rs:List ResultVar} {vs:List Value},H9 P l hp rs vs →
  (rs.mapM (Dx a.tmps)).run P w=.ok vs w:=by
 intro rs
 induction rs with
 | nil=>
  intro vs h
  cases vs with
  | nil=>simp
  | cons v vs=>exact h.elim
 | cons r rs ih=>
  intro vs h
  cases vs with
  | nil=>exact h.elim
  | cons v vs=>
   rw[List.mapM_cons];simp only[Sem.run_bind,Vy hk hG h.1,Result.andThen_ok,ih h.2,Sem.run_pure]
theorem Bj(hk:Knows n l a)(hG:Good w0 mu hp w)(h:H9 P l hp fn.results.toList vs):(results fn a.tmps).run P w=.ok (packed vs) w:=by
 have hm:=NV (a:=a) (w:=w) hk hG h;rw[NU,←bZ3 (xs:=fn.results)];rw[Sem.run_bind,List.mapM_toArray];show (Sem.run P ((List.mapM _ _) >>= fun x=>pure x.toArray) w).andThen _=_;simp only[Sem.run_bind];rw[hm];simp only[Result.andThen_ok,Sem.run_pure]
 congr 1
 match vs with
 | []=>rfl
 | [v]=>rfl
 | v::u::r=>simp[packed]
theorem Vz{args:List Value}{R:Value→Hp→Prop}(hf:P.funcs[f]?=some fn)(hb:fn.body=some c)(n:Nat)(hn:fn.ntmps=n)(ha:args.length≤n)
  (h:St P n w [] c (xZ 0 args) [] (Fin P fn R)):Fn P f args.toArray w [] R:=by
 refine calls_of_wp hf hb (Code.wp_mono ?_ (h _ w ⟨?_,rfl,?_⟩ (Good.nil w [])))
 ·rintro e a w' ⟨l',hp',hk,hG,he,vs,hr,hR⟩;have:=Bj hk hG hr;rcases he with rfl | rfl
  ·exact⟨hk.defers,packed vs,this,packed vs,hp',rfl,hG,hR⟩
  ·exact⟨hk.defers,packed vs,this,packed vs,hp',rfl,hG,hR⟩
 ·simp[hn];omega
 ·intro t v ht;obtain⟨_,h2⟩:=Dw args 0 t v ht;simp only[bW1] at h2;have hlt:=(bJ8.1 h2).1;have h3:args[t]=v:=(bJ8.1 h2).2;simp[Array.getElem?_append,hlt,h3]
theorem Si{args:List Value}{R:Value→Hp→Prop}(hi:Hp)(aH0:∀ e∈hi,w.heap[e.b]?=some (.cells e.cs e.t (0,0)))(hnd:(hi.map (·.b)).Nodup)
  (hf:P.funcs[f]?=some fn) (hb:fn.body=some c) (n:Nat) (hn:fn.ntmps=n) (ha:args.length≤n)
  (h:St P n w (hi.map (·.b)) c (xZ 0 args) hi (Fin P fn R)):Fn P f args.toArray w (hi.map (·.b)) R:=by
 refine calls_of_wp hf hb (Code.wp_mono ?_ (h _ w ⟨?_,rfl,?_⟩ ⟨rfl,rfl,rfl,bI9 _,hnd,aH0,fun e he=>.inl (bI7.2 ⟨e,he,rfl⟩),fun _ _ _=>rfl⟩))
 ·rintro e a w' ⟨l',hp',hk,hG,he,vs,hr,hR⟩;have:=Bj hk hG hr;rcases he with rfl | rfl
  ·exact⟨hk.defers,packed vs,this,packed vs,hp',rfl,hG,hR⟩
  ·exact⟨hk.defers,packed vs,this,packed vs,hp',rfl,hG,hR⟩
 ·simp[hn];omega
 ·intro t v ht;obtain⟨_,h2⟩:=Dw args 0 t v ht;simp only[bW1] at h2;have hlt:=(bJ8.1 h2).1;have h3:args[t]=v:=(bJ8.1 h2).2;simp[Array.getElem?_append,hlt,h3]
end
section
variable {P : Program} {n : Nat} {w0 : World} {mu : List Nat} {l : Fm} {hp : Hp} {Q : Exit → Fm → Hp → Prop} {N : Fm → Hp → Prop} {all : Array Oper} {rest : List Oper}
theorem vP(h:N l hp):nx N Q .normal l hp:=h
theorem Ia(h:Q .ret l hp):nx N Q .ret l hp:=h
theorem CJ(h:Q (.exit id) l hp):nx N Q (.exit id) l hp:=h
theorem rZ(h:Q .normal l hp):inb id Q .normal l hp:=h
theorem CO(h:Q .ret l hp):inb id Q .ret l hp:=h
theorem yc(h:Q .normal l hp):inb id Q (.exit id) l hp:=by
 show bif Nat.beq id id then Q .normal l hp else _
 rw[beq_iff.2 rfl];exact h
theorem yf{id':Nat}(hne:Nat.beq id' id=false)(h:Q (.exit id') l hp):inb id Q (.exit id') l hp:=by
 show bif Nat.beq id' id then Q .normal l hp else _
 rw[hne];exact h
theorem jI(hd:Nat.blt d n=true)(hy:Hy P n w0 mu l hp ⟨some d,op,ty,pos,af,none⟩ v)
  (h:Ops P n w0 mu all rest ((d,v)::l) hp Q):Ops P n w0 mu all (⟨some d,op,ty,pos,af,none⟩::rest) l hp Q:=ar5 rfl hd v hy h
theorem Sj{b:Bool}(hd:Nat.blt d n=true)(hj:(all[j]?).bind (·.dst)=some dj)(hb:look l dj=some (.bool b))(hdj:Nat.blt dj n=true)
  (hy:jd b want=true→Hy P n w0 mu l hp ⟨some d,op,ty,pos,af,some (j,want)⟩ v)
  (h:Ops P n w0 mu all rest ((d,gv (jd b want) v)::l) hp Q):Ops P n w0 mu all (⟨some d,op,ty,pos,af,some (j,want)⟩::rest) l hp Q:=Qk j want rfl hd dj hj true b hb hdj v (fun _=>hy) h
theorem Dy{b:Bool}(hd:Nat.blt d n=true)(hj:(all[j]?).bind (·.dst)=some dj)(hb:look l dj=some (gv c0 (.bool b)))(hdj:Nat.blt dj n=true)
  (hy:c0=true→jd b want=true→Hy P n w0 mu l hp ⟨some d,op,ty,pos,af,some (j,want)⟩ v)
  (h:Ops P n w0 mu all rest ((d,gv (c0&&jd b want) v)::l) hp Q):Ops P n w0 mu all (⟨some d,op,ty,pos,af,some (j,want)⟩::rest) l hp Q:=Qk j want rfl hd dj hj c0 b hb hdj v hy h
end
end
section
section
variable {P : Program} {T : Tab} {n : Nat} {w0 : World} {mu : List Nat} {l : Fm} {hp : Hp} {Q : Exit → Fm → Hp → Prop} {all : Array Oper} {rest : List Oper} {o : Oper} {ty : TypeId} {pos : String} {af : Array Edge} {op : Op}
theorem as6(ok:bC P T)(hop:o.op=.load t x)(hs:mem T.sc t=true)(hx:ev l x=some (.pointer (some ⟨b,off,none⟩)))
  (hm:(⟨b,cs,tb⟩:mO)∈hp) (hv:cs[off]?=some v):Hy P n w0 mu l hp o v:=ZA hop (ok.gsc hs) hx ⟨b,cs,tb⟩ hm rfl hv
theorem ZE(ok:bC P T)(hop:o.op=.load t x)(hs:mem T.sc t=true)(hx:ev l x=some (.pointer (some ⟨b,off,none⟩)))
  (hc:w0.cell? ⟨b,off,none⟩=some v) (hmu:b∉mu):Hy P n w0 mu l hp o v:=Vs hop (ok.gsc hs) hx hc hmu
theorem ZF(ok:bC P T)(hop:o.op=.load t x)(hs:mem T.ag t=true)(hx:ev l x=some (.pointer (some ⟨b,off,none⟩)))
  (hz:lk T.sz t=some sz) (hm:(⟨b,cs,tb⟩:mO)∈hp) (hv:(cs.toList.drop off).take sz=vs) (hl:vs.length=sz):Hy P n w0 mu l hp o (.agg vs.toArray):=Vt vs hop (ok.gag hs) hx ⟨b,cs,tb⟩ hm rfl (by rw[hl];exact ok.zO hz) (by rw[hl];exact hv)
theorem VA(ok:bC P T)(hop:o.op=.load t x)(hs:mem T.ag t=true)(hx:ev l x=some (.pointer (some ⟨b,off,none⟩)))
  (hz:lk T.sz t=some vs.length) (hr:w0.rangeAt b off vs) (hmu:b∉mu):Hy P n w0 mu l hp o (.agg vs.toArray):=RV vs hop (ok.gag hs) hx (ok.zO hz) hr hmu
theorem ZG(ok:bC P T){k k':Nat}{os:List Nat}(hop:o.op=.fieldAddr t x k)(hx:ev l x=some (.pointer (some ⟨b,off,none⟩)))(ho:lk T.fo t=some os)(hk:os[k]?=some k')(he:off+k'=off'):Hy P n w0 mu l hp o (.pointer (some ⟨b,off',none⟩)):=he▸Vu hop hx (ok.gfo ho hk)
theorem ZH(ok:bC P T){c:Nat}{i:Int}(hop:o.op=.indexAddr t x y)(hx:ev l x=some (.slice (some ⟨b,off,none⟩) m c))(hy:ev l y=some (.int k i))(ht:lk T.sl t=some (e,s))(h0:0≤i)(h1:i<m)(he:off+i.toNat*s=off'):
  Hy P n w0 mu l hp o (.pointer (some ⟨b,off',none⟩)):=he▸JW hop (ok.zJ ht).1 (ok.zJ ht).2 hx hy h0 h1
theorem VB(ok:bC P T){c:Nat}(hop:o.op=.indexAddr t x y)(hx:ev l x=some (.slice (some ⟨b,off,none⟩) m c))(hy:ev l y=some (.int k ((i:Nat):Int)))(ht:lk T.sl t=some (e,s))(h1:i<m)(he:off+i*s=off'):
  Hy P n w0 mu l hp o (.pointer (some ⟨b,off',none⟩)):=he▸JW hop (ok.zJ ht).1 (ok.zJ ht).2 hx hy bB3 bB3
theorem Sl(ok:bC P T)(hop:o.op=.indexAddr t x y)(hx:ev l x=some (.pointer (some ⟨b,off,none⟩)))(hy:ev l y=some (.int k ((i:Nat):Int)))(ht:lk T.ar t=some (m,e,s))(h1:i<m)(he:off+i*s=off'):
  Hy P n w0 mu l hp o (.pointer (some ⟨b,off',none⟩)):=he▸Gf hop (ok.gar ht).1 (ok.gar ht).2 hx hy bB3 bB3
theorem aH1(hop:o.op=.binOp .add t x y u)(hx:ev l x=some (.int .i64 ((i:Nat):Int)))(hy:ev l y=some (.int .i64 1))(h1:i<9223372036854775807):Hy P n w0 mu l hp o (.int .i64 ((i+1:Nat):Int)):=by
 have:=H8 (P:=P) (n:=n) (w0:=w0) (mu:=mu) (hp:=hp) hop hx hy bB3 bB3;simpa using this
theorem VD(ok:bC P T){i:Int}(hop:o.op=.indexAddr t x y)(hx:ev l x=some (.pointer (some ⟨b,off,none⟩)))(hy:ev l y=some (.int k i))(ht:lk T.ar t=some (m,e,s))(h0:0≤i)(h1:i<m)(he:off+i.toNat*s=off'):
  Hy P n w0 mu l hp o (.pointer (some ⟨b,off',none⟩)):=he▸Gf hop (ok.gar ht).1 (ok.gar ht).2 hx hy h0 h1
theorem aH2(ok:bC P T){t e:Nat}{p:Option Addr}{c:Nat}(hop:o.op=.call { callee:=.builtin .len,args:=#[x],argTypes:=#[t] })(hx:ev l x=some (.slice p m c))(ht:lk T.sl t=some (e,s)):Hy P n w0 mu l hp o (.int .i64 m):=as5 hop (ok.zJ ht).1 hx
theorem VE(ok:bC P T){s:TypeId}{k':IntKind}{p:Int}(hop:o.op=.convert s t x)(hx:ev l x=some (.int k p))(hs:lk T.ik s=some k)(ht:lk T.ik t=some k'):Hy P n w0 mu l hp o (.int k' (k'.wrap p)):=Zz hop (ok.gik hs) (ok.gik ht) hx
theorem wrap_u64{x:Int}(h0:0≤x)(h1:x≤18446744073709551615):IntKind.u64.wrap x=x:=by
 simp[IntKind.wrap,IntKind.bits,IntKind.signed];omega
theorem ZI(ok:bC P T){s:TypeId}{p:Int}(hop:o.op=.convert s t x)(hx:ev l x=some (.int k p))(hs:lk T.ik s=some k)(ht:lk T.ik t=some .i64)(h0:-9223372036854775808≤p)(h1:p≤9223372036854775807):Hy P n w0 mu l hp o (.int .i64 p):=by
 have:=VE (n:=n) (w0:=w0) (mu:=mu) (hp:=hp) ok hop hx hs ht;rwa [wrap_in h0 h1] at this
theorem ZJ(ok:bC P T){s:TypeId}{p:Int}(hop:o.op=.convert s t x)(hx:ev l x=some (.int k p))(hs:lk T.ik s=some k)(ht:lk T.ik t=some .u64)(h0:0≤p)(h1:p≤18446744073709551615):Hy P n w0 mu l hp o (.int .u64 p):=by
 have:=VE (n:=n) (w0:=w0) (mu:=mu) (hp:=hp) ok hop hx hs ht;rwa [wrap_u64 h0 h1] at this
theorem bC.gpl(ok:bC P T){t:Nat}{ps:List (Nat×Nat)}(h:lk T.pl t=some ps):places P t=some ps.toArray:=by
 have:=bH'.1 ok.pl _ (jC h);simp only[placesOf,beq_iff_eq] at this;unfold places;split at this
 ·rename_i fs hu;rw[←bZ3 (xs:=fs),List.mapM_toArray,this];rfl
 ·cases this
theorem ZK(ok:bC P T){ps:List (Nat×Operand)}{vs:List (Nat×Value)}{pl:List (Nat×Nat)}(hop:o.op=.build t ps.toArray)(hz:lk T.zs t=some z)(hpl:lk T.pl t=some pl)
  (hv:Fh l ps=some vs) (hf:Instr.fill (pl.toArray[·]?) z.cells vs=some out):Hy P n w0 mu l hp o (.agg out):=Vw hop (ok.NH hz) (ok.gpl hpl) hv hf
theorem ZL(ok:bC P T){t:Nat}{cs:List Value}(hop:op=.alloc t)(hd:Nat.blt d n=true)(hz:lk T.zs t=some z)(hc:z.cells=cs.toArray)
  (h:∀ b,Ops P n w0 mu all rest ((d,.pointer (some ⟨b,0,none⟩))::l) (⟨b,cs.toArray,t⟩::hp) Q):Ops P n w0 mu all (⟨some d,op,ty,pos,af,none⟩::rest) l hp Q:=
 RX hop rfl hd (ok.NH hz) (by rw[hc];exact h)
theorem aH3{t:Nat}{cs:List Value}(hop:op=.box t x)(hd:Nat.blt d n=true)(hx:ev l x=some v)(hc:v.cells=cs.toArray)
  (h:∀ b,Ops P n w0 mu all rest ((d,.pointer (some ⟨b,0,none⟩))::l) (⟨b,cs.toArray,t⟩::hp) Q):Ops P n w0 mu all (⟨some d,op,ty,pos,af,none⟩::rest) l hp Q:=
 ZB hop rfl hd hx (by rw[hc];exact h)
theorem ZM(ok:bC P T){cs':Array Value}{hp':Hp}(hop:op=.store t x y)
  (hx:ev l x=some (.pointer (some ⟨b,off,none⟩))) (hy:ev l y=some v) (lC:v.cells=vs.toArray) (hs:lk T.sz t=some sz) (hl:vs.length=sz) (hperm:(⟨b,cs,tb⟩::hp').Perm hp) (hv1:vs.all (·.oneCell')=true) (hlt:off+vs.length≤cs.size) (hput:putAt cs off vs=cs')
  (h:Ops P n w0 mu all rest l (⟨b,cs',tb⟩::hp') Q):Ops P n w0 mu all (⟨none,op,ty,pos,af,none⟩::rest) l hp Q:=
 RY vs hop rfl rfl hx hy lC hv1 (by rw[hl];exact ok.zO hs) hperm hlt (by rw[hput];exact h)
theorem as7        (hop : o.op = .call { callee := .value (.func f), args := xs.toArray, argTypes := tys }) (hf : P.funcs[f]? = some fn) (hname : (fn.name == "runtime.NumGoroutine") = false) (hb : fn.body = some c) (hv : evs l xs = some vs)
    (hc : ∀ w, Good w0 mu hp w → Fn P f vs.toArray w [] (fun u _ => u = v)) : Hy P n w0 mu l hp o v := ZC hop hf hname hb hv hc
theorem as8        {R : Value → Hp → Prop} (hop : op = .call { callee := .value (.func f), args := xs.toArray, argTypes := tys }) (hd : Nat.blt d n = true)
    (hf : P.funcs[f]? = some fn) (hname : (fn.name == "runtime.NumGoroutine") = false) (hb : fn.body = some c) (hv : evs l xs = some vs)
    (hc : ∀ w, Good w0 mu hp w → Fn P f vs.toArray w [] R) (h : ∀ v hn, R v hn → Ops P n w0 mu all rest ((d, v) :: l) (hn ++ hp) Q) : Ops P n w0 mu all (⟨some d, op, ty, pos, af, none⟩ :: rest) l hp Q :=
  Vx hop rfl hd hf hname hb hv hc h
end
end
section
def bF(all:Array Oper)(k:Nat):Option Nat:=(all[k]?).bind (·.dst)
def dB:List Oper→Nat→List (Nat×Nat)
 | [],_=>[]
 | o::r,i=>match o.dst with
  | some d=>(i,d)::dB r (i+1)
  | none=>dB r (i+1)
def aT(ds:List (Nat×Nat))(iv:Fm):List Edge→Fm
 | []=>[]
 | e::r=>match Region.binds .any e,lk ds e.on,look iv e.on with
  | true,some d,some v=>(d,v)::aT ds iv r
  | _,_,_=>aT ds iv r
def bV(ds:List (Nat×Nat)):Fm→Fm
 | []=>[]
 | (k,v)::r=>match lk ds k with
  | some d=>(d,v)::bV ds r
  | none=>bV ds r
def wU(P:Program)(n:Nat)(w0:World)(mu:List Nat)(all:Array Oper)(lf:Fm)(hp:Hp)(o:Oper)(v:Value):Prop:=
 match o.guard with
 | none=>Hy P n w0 mu lf hp o v
 | some (j,want)=>∃ dj c0 b u,(all[j]?).bind (·.dst)=some dj∧look lf dj=some (gv c0 (.bool b))∧Nat.blt dj n=true∧(c0=true→jd b want=true→Hy P n w0 mu lf hp o u)∧v=gv (c0&&jd b want) u
def DH(P:Program)(n:Nat)(w0:World)(mu:List Nat)(all:Array Oper)(ds:List (Nat×Nat))(tail:List Oper)(l:Fm)(hp:Hp)(Q:Exit→Fm→Hp→Prop):Nat→List Oper→Fm→Prop
 | _,[],iv=>Ops P n w0 mu all tail (bV ds iv++l) hp Q
 | i,o::r,iv=>∃ v,wU P n w0 mu all (aT ds iv o.after.toList++l) hp o v∧DH P n w0 mu all ds tail l hp Q (i+1) r ((i,v)::iv)
def pM(ops:Array Oper):Bool:=(List.range ops.size).all fun i=>match ops[i]? with | some o=>o.after.all fun e=>!Region.binds .any e||Nat.blt e.on i | none=>true
def dstsOf(ops:Array Oper)(k:Nat):List (Option Nat):=(List.range k).map (bF ops)
def zQ(ops:Array Oper)(k n:Nat):Bool:=((dstsOf ops k).all fun d=>match d with | some d=>Nat.blt d n | none=>false)&&decide (dstsOf ops k).Nodup
def bW(l:Fm):List (Option Nat)→Bool
 | []=>true
 | some d::r=>(look l d).isNone&&bW l r
 | none::r=>bW l r
section
variable {P : Program} {n : Nat} {w0 : World} {mu : List Nat} {l : Fm} {hp : Hp} {Q : Exit → Fm → Hp → Prop}
theorem fV{a b:Fm}{t:Nat}(h:look (a++b) t=some v):look a t=some v∨(look a t=none∧look b t=some v):=by
 induction a with
 | nil=>exact .inr ⟨rfl,h⟩
 | cons p r ih=>
  obtain⟨k,u⟩:=p;simp only[bI0,look] at h ⊢
  cases hb:Nat.beq k t with
  | true=>rw[hb] at h;exact .inl h
  | false=>rw[hb] at h;simpa using ih h
theorem iY{a:Fm}{t:Nat}(h:look a t=some v):(t,v)∈a:=by
 induction a with
 | nil=>cases h
 | cons p r ih=>
  obtain⟨k,u⟩:=p;simp only[look] at h
  cases hb:Nat.beq k t with
  | true=>
   rw[hb] at h;simp only[cond_true,bK0] at h
   rw[←beq_iff.1 hb,←h];exact bI8 ..
  | false=>rw[hb] at h;exact bI5 _ (ih h)
theorem zS{iv:Fm}{es:List Edge}(h:(d,v)∈aT ds iv es):∃ e∈es,Region.binds .any e=true∧lk ds e.on=some d∧look iv e.on=some v:=by
 induction es with
 | nil=>cases h
 | cons e r ih=>
  simp only[aT] at h;split at h
  ·rename_i d' v' h1 h2 h3;rcases bJ3.1 h with h | h
   ·cases h;exact⟨e,bI8 ..,h1,h2,h3⟩
   ·obtain⟨e',h4,h5⟩:=ih h;exact⟨e',bI5 _ h4,h5⟩
  ·obtain⟨e',h4,h5⟩:=ih h;exact⟨e',bI5 _ h4,h5⟩
theorem jX{iv:Fm}(h:(d,v)∈bV ds iv):∃ k,(k,v)∈iv∧lk ds k=some d:=by
 induction iv with
 | nil=>cases h
 | cons p r ih=>
  obtain⟨k,u⟩:=p;simp only[bV] at h;split at h
  ·rename_i d' h1;rcases bJ3.1 h with h | h
   ·cases h;exact⟨k,bI8 ..,h1⟩
   ·obtain⟨k',h2,h3⟩:=ih h;exact⟨k',bI5 _ h2,h3⟩
  ·obtain⟨k',h2,h3⟩:=ih h;exact⟨k',bI5 _ h2,h3⟩
theorem Ql:∀ (r:List Oper) (i:Nat) (iv:Fm),(∀ k v,(k,v)∈iv→k<i∧look iv k=some v)→DH P n w0 mu all ds tail l hp Q i r iv →
  ∃ bz:Fm,(∀ k,k<i→look bz k=look iv k)∧(∀ k v,(k,v)∈bz→k<i+r.length∧look bz k=some v) ∧
   (∀ j o,r[j]?=some o→∃ dw v,(∀ k u,look dw k=some u→k<i+j∧look bz k=some u)∧look bz (i+j)=some v∧wU P n w0 mu all (aT ds dw o.after.toList++l) hp o v) ∧
   Ops P n w0 mu all tail (bV ds bz++l) hp Q:=by
 intro r
 induction r with
 | nil=>
  intro i iv hu h
  exact⟨iv,fun _ _=>rfl,fun k v hm=>by simpa using hu k v hm,fun j o ho=>by simp at ho,h⟩
 | cons o r ih=>
  intro i iv hu h;obtain⟨v,hy,h⟩:=h
  have hu':∀ k u,(k,u)∈((i,v)::iv:Fm)→k<i+1∧look ((i,v)::iv) k=some u:=by
   intro k u hm;rcases bJ3.1 hm with hm | hm
   ·cases hm;refine⟨by omega,?_⟩;simp only[look];rw[beq_iff.2 rfl];rfl
   ·obtain⟨h1,h2⟩:=hu k u hm;refine⟨by omega,?_⟩;simp only[look]
    have:Nat.beq i k=false:=by
     cases hb:Nat.beq i k
     ·rfl
     ·have:=beq_iff.1 hb;omega
    rw[this];exact h2
  obtain⟨bz,e1,e2,e3,e4⟩:=ih (i+1) ((i,v)::iv) hu' h
  have VF:∀ k,k<i→look bz k=look iv k:=by
   intro k hk;rw[e1 k bB3];simp only[look]
   have:Nat.beq i k=false:=by
    cases hb:Nat.beq i k
    ·rfl
    ·have:=beq_iff.1 hb;omega
   rw[this];rfl
  have VG:look bz i=some v:=by
   rw[e1 i bB3];simp only[look];rw[beq_iff.2 rfl];rfl
  refine⟨bz,VF,fun k u hm=>?_,fun j o' ho=>?_,e4⟩
  ·have:=e2 k u hm;simp only[bL6];exact⟨by omega,this.2⟩
  ·cases j with
   | zero=>
    simp only[bS7,bK0] at ho;subst ho;refine⟨iv,v,fun k u hk=>?_,by simpa using VG,hy⟩;have h1:=hu k u (iY hk)
    exact⟨by omega,by rw[VF k h1.1];exact hk⟩
   | succ j=>
    simp only[bU4] at ho;obtain⟨dw,v',h1,h2,h3⟩:=e3 j o' ho;refine⟨dw,v',fun k u hk=>?_,by rw[show i+(j+1)=i+1+j by omega];exact h2,h3⟩;have:=h1 k u hk;exact⟨by omega,this.2⟩
structure Mid(n:Nat)(w0:World)(mu:List Nat)(all:Array Oper)(l:Fm)(hp:Hp)(bz:Fm)(k:Nat)(listed:Array Bool)(a:Act)(w:World):Prop where
 size:a.tmps.size=n
 defers:a.defers=[]
 has:∀ t v,look l t=some v→a.tmps.getD t undef=v
 done:∀ i,i<k→listed.getD i false=true→∀ d v,bF all i=some d→look bz i=some v→a.tmps.getD d undef=v
 good:Good w0 mu hp w
theorem mid_step{bz:Fm}{k:Nat}{w':World}(hm:Mid n w0 mu all l hp bz k listed a w)(ho:all[i]?=some o)(hi:i<k)
  (hd:zQ all k n=true) (hf:bW l (dstsOf all k)=true) (hv:look bz i=some v) (hG:Good w0 mu hp w'):Mid n w0 mu all l hp bz k (listed.setIfInBounds i true) (a.put o.dst v) w':=by
 simp only[zQ,bH6,decide_eq_true_eq] at hd
 have hdi:∀ j,j<k→∃ d,bF all j=some d∧d<n:=by
  intro j hj;have:=bH'.1 hd.1 (bF all j) (bI7.2 ⟨j,bJ1.2 hj,rfl⟩)
  cases hdd:bF all j with
  | none=>rw[hdd] at this;cases this
  | some d=>rw[hdd] at this;exact⟨d,rfl,by simpa using this⟩
 obtain⟨d,hdo,hdn⟩:=hdi i hi;have hod:o.dst=some d:=by simpa [bF,ho] using hdo
 have hfr:∀ (L:List (Option Nat)),bW l L=true→some d∈L→look l d=none:=by
  intro L
  induction L with
  | nil=>intro _ h;cases h
  | cons x r ih=>
   intro hL hmem
   cases x with
   | none=>
    rcases bJ3.1 hmem with h | h
    ·cases h
    ·exact ih hL h
   | some y=>
    simp only[bW,bH6,bX'] at hL;rcases bJ3.1 hmem with h | h
    ·cases h;exact hL.1
    ·exact ih hL.2 h
 have hnew:look l d=none:=hfr _ hf (bI7.2 ⟨i,bJ1.2 hi,hdo⟩)
 have hput:∀ t,t≠d→(a.put o.dst v).tmps.getD t undef=a.tmps.getD t undef:=by
  intro t ht;rw[hod];simp[Act.put,bQ0 (bP0 ht)]
 refine⟨by rw[hod];simpa [Act.put] using hm.size,by rw[hod];exact hm.defers,?_,?_,hG⟩
 ·intro t u hu;rw[hput t (fun e=>by subst e;rw[hnew] at hu;cases hu)];exact hm.has t u hu
 ·intro j hj hl d' u hd' hu;by_cases hji:j=i
  ·subst hji;rw[hdo] at hd';cases hd';rw[hv] at hu;cases hu;rw[hod];simp[Act.put,hm.size,hdn]
  ·have hne:d'≠d:=by
    intro e;subst e;have hnd:=hd.2;have h1:(dstsOf all k)[j]?=some (some d'):=by simp[dstsOf,hj,hd']
    have h2:(dstsOf all k)[i]?=some (some d'):=by simp[dstsOf,hi,hdo]
    have hjl:=(bJ8.1 h1).1;have hil:=(bJ8.1 h2).1;have e1:=(bJ8.1 h1).2;have e2:=(bJ8.1 h2).2;have this:j=i:=(List.getElem_inj hnd (h₀:=hjl) (h₁:=hil)).1 (by rw[e1,e2]);exact hji this
   rw[hput d' hne];refine hm.done j hj ?_ d' u hd' hu;rwa [getD_set_ne false (bP0 hji)] at hl
theorem lN:∀ (L:List Oper) (i k d:Nat),lk (dB L i) k=some d→i≤k∧(L[k-i]?).bind (·.dst)=some d:=by
 intro L
 induction L with
 | nil=>intro i k d h;cases h
 | cons o r ih=>
  intro i k d h;simp only[dB] at h
  have step:lk (dB r (i+1)) k=some d→i≤k∧((o::r)[k-i]?).bind (·.dst)=some d:=by
   intro h;obtain⟨h1,h2⟩:=ih _ _ _ h;refine⟨by omega,?_⟩;rw[show k-i=(k-(i+1))+1 by omega];simpa using h2
  split at h
  ·rename_i d' hd;simp only[lk] at h
   cases hb:Nat.beq i k with
   | true=>
    rw[hb] at h;have:=beq_iff.1 hb;subst this;simp only[cond_true,bK0] at h;subst h
    simpa using hd
   | false=>rw[hb] at h;exact step h
  ·exact step h
theorem xu(hds:∀ k d,lk ds k=some d→bF all k=some d){dw bz:Fm}{k:Nat}{o:Oper}(hm:Mid n w0 mu all l hp bz k listed a w)(hi:i<k)
  (hiv:∀ j u,look dw j=some u→j<i∧look bz j=some u) (hl:∀ e∈o.after,Region.binds .any e=true→listed.getD e.on false=true):Knows n (aT ds dw o.after.toList++l) a:=by
 refine⟨hm.size,hm.defers,fun t v h=>?_⟩;rcases fV h with h | ⟨_,h⟩
 ·obtain⟨e,he,h1,h2,h3⟩:=zS (iY h);obtain⟨h4,h5⟩:=hiv _ _ h3;exact hm.done e.on bB3 (hl e (by simpa using he) h1) t v (hds _ _ h2) h5
 ·exact hm.has t v h
def leftOf(k:Nat)(listed:Array Bool):Nat:=((List.range k).filter fun i=>!listed.getD i true).length
theorem pO{k:Nat}(hi:i<k)(hs:i<listed.size)(h:listed.getD i true=false):leftOf k listed=leftOf k (listed.setIfInBounds i true)+1:=by
 unfold leftOf
 induction k with
 | zero=>omega
 | succ k ih=>
  simp only[bO5,bW6,bJ9];by_cases hik:i=k
  ·subst hik;have e1:(List.filter (fun j=>!listed.getD j true) [i]).length=1:=by rw[bW2,if_pos (by simp only[h,bL1])];rfl
   have e2:(List.filter (fun j=>!(listed.setIfInBounds i true).getD j true) [i]).length=0:=by simp[hs]
   have e3:∀ (L:List Nat),(∀ j∈L,j<i)→(L.filter fun j=>!listed.getD j true)=L.filter fun j=>!(listed.setIfInBounds i true).getD j true:=by
    intro L hL;refine List.filter_congr fun j hj=>?_;rw[getD_set_ne true (show i≠j by have:=hL j hj;omega)]
   rw[e1,e2,e3 _ (fun j hj=>by simpa using hj)]
  ·have:=ih bB3
   have e4:(List.filter (fun j=>!listed.getD j true) [k])=List.filter (fun j=>!(listed.setIfInBounds i true).getD j true) [k]:=by
    refine List.filter_congr fun j hj=>?_;have:j=k:=by simpa using hj
    rw[getD_set_ne true (show i≠j by omega)]
   rw[this,e4];omega
theorem JX(hds:∀ k d,lk ds k=some d→bF all k=some d){bz:Fm}{k g:Nat}{Q':Exit→Act→World→Prop}(hk:k≤all.size)(hd:zQ all k n=true)(hf:bW l (dstsOf all k)=true)(hback:pM all=true)
  (hops:∀ i o,i<k→all[i]?=some o→∃ dw v,(∀ j u,look dw j=some u→j<i∧look bz j=some u)∧look bz i=some v∧wU P n w0 mu all (aT ds dw o.after.toList++l) hp o v)
  (htail:∀ listed,HeadInv .any all k listed→(∀ i,i<k→listed.getD i true=true)→∀ a w,Mid n w0 mu all l hp bz k listed a w→wpAny P .any all Q' g listed a w)
  (oC:∀ listed,HeadInv .any all k listed→∀ i,i<k→listed.getD i true=false→∀ t,k≤t→t∉Region.ready .any all listed):
  ∀ f listed a w,leftOf k listed=f→HeadInv .any all k listed→Mid n w0 mu all l hp bz k listed a w→wpAny P .any all Q' (f+g) listed a w:=by
 intro f
 induction f with
 | zero=>
  intro listed a w hlf inv hm;rw[bK2];refine htail listed inv (fun i hi=>?_) a w hm
  cases hc:listed.getD i true with
  | true=>rfl
  | false=>
   exfalso;have:i∈(List.range k).filter fun i=>!listed.getD i true:=bN'.2 ⟨bJ1.2 hi,by simp only[hc,bL1]⟩;have h2:=bQ6 this;unfold leftOf at hlf
   omega
 | succ f ih=>
  intro listed a w hlf inv hm;rw[show f+1+g=(f+g)+1 by omega]
  have hex:∃ i,i<k∧listed.getD i true=false:=by
   have h2:0<leftOf k listed:=by omega
   obtain⟨i,hi⟩:=bS5 h2;rw[bN'] at hi;exact⟨i,bJ1.1 hi.1,by simpa using hi.2⟩
  obtain⟨i0,su,hi0⟩:=hex;refine⟨fun hnil=>?_,fun i hi=>?_⟩
  ·exfalso;obtain⟨i,⟨hik,hil⟩,hmin⟩:=exists_least (p:=fun i=>i<k∧listed.getD i true=false) ⟨i0,su,hi0⟩
   have hr:i∈Region.ready .any all listed:=by
    rw[mem_ready];have hs:i<all.size:=by omega
    refine⟨hil,all[i],by simp[hs],fun e he hb=>?_⟩;have hb2:=bH'.1 hback i (bJ1.2 hs);simp only[bO3 hs] at hb2;have hb3:=(bN2.1 hb2) e he;simp only[hb,bK1,bL3,bX4] at hb3
    cases hc:listed.getD e.on false with
    | true=>rfl
    | false=>
     have h5:=hmin e.on ⟨by omega,getD_in bC4 hc⟩;omega
   rw[hnil] at hr;cases hr
  ·have hik:i<k:=by
    rcases bQ3 i k with h | h
    ·exact h
    ·exact absurd hi (oC listed inv i0 su hi0 i h)
   obtain⟨hun,o,ho,hall⟩:=mem_ready.1 hi;obtain⟨dw,v,h1,h2,h3⟩:=hops i o hik ho;have hkn:=xu hds hm hik h1 hall
   have hnext:∀ w',Good w0 mu hp w'→wpAny P .any all Q' (f+g) (listed.setIfInBounds i true) (a.put o.dst v) w':=fun w' hG'=>
    ih _ _ _ bE5 (inv.set hi hik) (mid_step hm ho hik hd hf h2 hG')
   unfold wpOp;simp only[ho];unfold wU at h3
   cases hg:o.guard with
   | none=>
    rw[hg] at h3;rw[if_pos bD2]
    exact .inl (h3 a w hkn hm.good _ _ hnext)
   | some jw=>
    obtain⟨j,want⟩:=jw;rw[hg] at h3;obtain⟨dj,c0,b,u,hj,hb,hdj,hy,hvv⟩:=h3;have hw:=jL hkn hg hj hb hdj
    cases hc:(c0&&jd b want) with
    | true=>
     rw[hc] at hw hvv;rw[if_pos hw];rw[bH6] at hc;rw[show v=u from hvv] at hnext
     exact .inl (hy hc.1 hc.2 a w hkn hm.good _ _ hnext)
    | false=>
     rw[hc] at hw hvv;rw[if_neg bF'];rw[show v=undef from hvv] at hnext;exact hnext w hm.good
def yg(ops:Array Oper)(k n:Nat):Bool:=
 decide (k<ops.size)&&zQ ops k n&&pM ops&&Region.sinkB .any ops k&&Region.chainB .any ops k&&Region.seqB .any ops (ops.size-k) k ((Array.replicate k true)++(Array.replicate (ops.size-k) false))
theorem ZN(k:Nat)(hm:P.follows .mixedOrders=true)(hB:yg ops.toArray k n=true)(hf:bW l (dstsOf ops.toArray k)=true)
  (h:DH P n w0 mu ops.toArray (dB ops 0) (ops.drop k) l hp Q 0 (ops.take k) []):St P n w0 mu (.region id ops.toArray true) l hp Q:=by
 intro a w hk hG;simp only[yg,bH6,decide_eq_true_eq] at hB;obtain⟨⟨⟨⟨⟨hlt,hd⟩,hback⟩,hs⟩,hc⟩,hseq⟩:=hB;obtain⟨bz,_,hE,hops,htail⟩:=Ql _ _ _ bB5 h;have hks:k≤ops.toArray.size:=by omega
 have htl:(ops.take k).length=k:=by simp at hlt ⊢;omega
 have inv0:HeadInv .any ops.toArray k (Array.replicate ops.toArray.size false):=
  ⟨by simp,fun j oj _ hl=>bC0,fun t _ ht=>getD_in bG3 (getD_replicate_false _ _)⟩
 have hleft:leftOf k (Array.replicate ops.toArray.size false)=k:=by
  unfold leftOf;rw[bP'.2]
  ·simp
  ·intro i hi;have hi':i<k:=by simpa using hi
   have:(Array.replicate ops.toArray.size false).getD i true=false:=getD_in (by simp at hlt ⊢;omega) (getD_replicate_false _ _);simp only[this,bL1]
 have hds:∀ k d,lk (dB ops 0) k=some d→bF ops.toArray k=some d:=fun k d h=>by have:=(lN ops 0 k d h).2;simpa [bF] using this
 refine wp_region_any hm ?_
 have key:=JX hds (P:=P) (n:=n) (w0:=w0) (mu:=mu) (l:=l) (hp:=hp) (bz:=bz) (all:=ops.toArray) (k:=k) (g:=ops.toArray.size-k) (Q':=QQ n w0 mu Q) hks hd hf hback
  (fun i o hi ho=>by
   have ho':(ops.take k)[i]?=some o:=by simpa [hi] using ho
   obtain⟨dw,v,h1,h2,h3⟩:=hops i o ho'
   exact⟨dw,v,fun j u hu=>by simpa using h1 j u hu,by simpa using h2,h3⟩)
  (fun listed inv hall a w hmid=>by
   have hl:listed=(Array.replicate k true)++(Array.replicate (ops.toArray.size-k) false):=by
    apply Array.ext
    ·simp[inv.size];simp at hlt;omega
    ·intro i h1 h2;by_cases hi:i<k
     ·have:=hall i hi;simp[h1] at this;rw[bT8 bE6];simpa using this
     ·have h3:=inv.tail i bB3 bE2;simp[h1] at h3;rw[bT5 bB9];simpa using h3
   have hdl:(ops.drop k).length=ops.toArray.size-k:=by simp
   rw[←hdl];refine wpAny_of_seq (ops.drop k) k listed a w (fun j=>by simp) bF7 ?_;refine htail a w ⟨hmid.size,hmid.defers,fun t v ht=>?_⟩ hmid.good;rcases fV ht with ht | ⟨_,ht⟩
   ·obtain⟨j,h1,h2⟩:=jX (iY ht);obtain⟨h3,h4⟩:=hE j v h1;have hjk:j<k:=by rw[htl] at h3;omega
    have h5:=hall j hjk
    exact hmid.done j hjk (by
     cases hcc:listed.getD j false with
     | true=>rfl
     | false=>rw[getD_in bC4 hcc] at h5;cases h5) t v (hds _ _ h2) h4
   ·exact hmid.has t v ht)
  (fun listed inv i hi hun t ht=>tail_waits hs hc hlt inv _ i rfl hi hun t ht)
  k _ a { w with drawn:=w.drawn+1 } hleft inv0 ⟨hk.size,hk.defers,hk.has,fun i _ hl=>bC0,hG.drawn _⟩
 have e:k+(ops.toArray.size-k)=ops.toArray.size:=by omega
 rw[e] at key;exact key
def Dz(ops:Array Oper)(n:Nat):Bool:=zQ ops ops.size n&&pM ops
theorem NW(hm:P.follows .mixedOrders=true)(hB:Dz ops.toArray n=true)(hf:bW l (dstsOf ops.toArray ops.length)=true)
  (h:DH P n w0 mu ops.toArray (dB ops 0) [] l hp Q 0 ops []):St P n w0 mu (.region id ops.toArray true) l hp Q:=by
 intro a w hk hG;simp only[Dz,bH6] at hB;obtain⟨hd,hback⟩:=hB;have hsz:ops.toArray.size=ops.length:=by simp
 rw[hsz] at hd;obtain⟨bz,_,hE,hops,htail⟩:=Ql _ _ _ bB5 h
 have inv0:HeadInv .any ops.toArray ops.length (Array.replicate ops.toArray.size false):=
  ⟨by simp,fun j oj _ hl=>bC0,fun t h1 ht=>(by simp at ht;omega)⟩
 have hleft:leftOf ops.length (Array.replicate ops.toArray.size false)=ops.length:=by
  unfold leftOf;rw[bP'.2]
  ·simp
  ·intro i hi;have hi':i<ops.length:=by simpa using hi
   have:(Array.replicate ops.toArray.size false).getD i true=false:=getD_in (by simpa using hi') (getD_replicate_false _ _);simp only[this,bL1]
 have hds:∀ k d,lk (dB ops 0) k=some d→bF ops.toArray k=some d:=fun k d h=>by have:=(lN ops 0 k d h).2;simpa [bF] using this
 refine wp_region_any hm ?_
 have key:=JX hds (P:=P) (n:=n) (w0:=w0) (mu:=mu) (l:=l) (hp:=hp) (bz:=bz) (all:=ops.toArray) (k:=ops.length) (g:=0) (Q':=QQ n w0 mu Q) bB5 hd hf hback
  (fun i o hi ho=>by
   have ho':ops[i]?=some o:=by simpa using ho
   obtain⟨dw,v,h1,h2,h3⟩:=hops i o ho'
   exact⟨dw,v,fun j u hu=>by simpa using h1 j u hu,by simpa using h2,h3⟩)
  (fun listed inv hall a w hmid=>by
   refine⟨?_,?_⟩
   ·rw[bM9];intro i hi;obtain⟨hun,o,ho,_⟩:=mem_ready.1 hi
    have hi':i<ops.length:=by
     have:=(bK5.1 ho).1;simpa using this
    rw[hall i hi'] at hun;cases hun
   ·have hfin:wpList P ops.toArray (QQ n w0 mu Q) [] a w:=by
     refine htail a w ⟨hmid.size,hmid.defers,fun t v ht=>?_⟩ hmid.good;rcases fV ht with ht | ⟨_,ht⟩
     ·obtain⟨j,h1,h2⟩:=jX (iY ht);obtain⟨h3,h4⟩:=hE j v h1;have hjk:j<ops.length:=by omega
      have h5:=hall j hjk
      exact hmid.done j hjk (by
       cases hcc:listed.getD j false with
       | true=>rfl
       | false=>rw[getD_in (by rw[inv.size];simpa using hjk) hcc] at h5;cases h5) t v (hds _ _ h2) h4
     ·exact hmid.has t v ht
    exact hfin)
  (fun listed inv i hi hun t ht hr=>by
   obtain⟨_,o,ho,_⟩:=mem_ready.1 hr;have:=(bK5.1 ho).1
   simp at this;omega)
  ops.length _ a { w with drawn:=w.drawn+1 } hleft inv0 ⟨hk.size,hk.defers,hk.has,fun i _ hl=>bC0,hG.drawn _⟩
 simpa using key
theorem dh1{rest:List Oper}{iv:Fm}(hy:Hy P n w0 mu (aT ds iv af.toList++l) hp ⟨some d,op,ty,pos,af,none⟩ v)
  (h:DH P n w0 mu all ds tail l hp Q (i+1) rest ((i,v)::iv)):DH P n w0 mu all ds tail l hp Q i (⟨some d,op,ty,pos,af,none⟩::rest) iv:=⟨v,hy,h⟩
theorem aT4{rest:List Oper}{iv:Fm}{b:Bool}(hj:(all[j]?).bind (·.dst)=some dj)
  (hb:look (aT ds iv af.toList++l) dj=some (.bool b)) (hdj:Nat.blt dj n=true) (hy:jd b want=true→Hy P n w0 mu (aT ds iv af.toList++l) hp ⟨some d,op,ty,pos,af,some (j,want)⟩ v)
  (h:DH P n w0 mu all ds tail l hp Q (i+1) rest ((i,gv (jd b want) v)::iv)):DH P n w0 mu all ds tail l hp Q i (⟨some d,op,ty,pos,af,some (j,want)⟩::rest) iv:=⟨_,⟨dj,true,b,v,hj,hb,hdj,fun _=>hy,rfl⟩,h⟩
theorem al4{rest:List Oper}{iv:Fm}{b:Bool}(hj:(all[j]?).bind (·.dst)=some dj)
  (hb:look (aT ds iv af.toList++l) dj=some (gv c0 (.bool b))) (hdj:Nat.blt dj n=true) (hy:c0=true→jd b want=true→Hy P n w0 mu (aT ds iv af.toList++l) hp ⟨some d,op,ty,pos,af,some (j,want)⟩ v)
  (h:DH P n w0 mu all ds tail l hp Q (i+1) rest ((i,gv (c0&&jd b want) v)::iv)):DH P n w0 mu all ds tail l hp Q i (⟨some d,op,ty,pos,af,some (j,want)⟩::rest) iv:=⟨_,⟨dj,c0,b,v,hj,hb,hdj,hy,rfl⟩,h⟩
end
end
section
def Cal (P : Program) (f : FuncId) : Prop := ∃ fn c, P.funcs[f]? = some fn ∧ (fn.name == "runtime.NumGoroutine") = false ∧ fn.body = some c
theorem mh{a:mO}{r:Hp}:a∈a::r:=bI8 ..
theorem mt{a b:mO}{r:Hp}(h:a∈r):a∈b::r:=bI5 _ h
theorem p0{x:mO}{r:Hp}:(x::r).Perm (x::r):=.refl _
theorem p1{x y:mO}{r:Hp}:(x::y::r).Perm (y::x::r):=.swap _ _ _
theorem p2{x y z:mO}{r:Hp}:(x::y::z::r).Perm (y::z::x::r):=p1.trans (p1.cons _)
theorem p3{x y z u:mO}{r:Hp}:(x::y::z::u::r).Perm (y::z::u::x::r):=p1.trans (p2.cons _)
theorem p4{x y z u v:mO}{r:Hp}:(x::y::z::u::v::r).Perm (y::z::u::v::x::r):=p1.trans (p3.cons _)
theorem p5{x y z u v t:mO}{r:Hp}:(x::y::z::u::v::t::r).Perm (y::z::u::v::t::x::r):=p1.trans (p4.cons _)
def nth{α:Type}:List α→Nat→Option α
 | [],_=>none
 | x::_,0=>some x
 | _::r,i+1=>nth r i
def fl(pl:List (Nat×Nat)):Array Value→List (Nat×Value)→Option (Array Value)
 | cs,[]=>some cs
 | cs,(i,v)::r=>match nth pl i with
  | some (off,sz)=>bif Nat.beq v.cells.size sz&&Nat.ble (off+sz) cs.size then fl pl (putAt cs off v.cells.toList) r else none
  | none=>none
theorem mZ{α:Type}(l:List α):∀ i,nth l i=l.toArray[i]?:=by
 induction l with
 | nil=>intro i;simp[nth]
 | cons x r ih=>
  intro i
  cases i with
  | zero=>simp[nth]
  | succ i=>simp only[nth,ih i];simp
theorem Bl(l:List Value):∀ (cs:Array Value) (off k:Nat),(l.zipIdx k).foldl (fun cs (x:Value×Nat)=>cs.setIfInBounds (off+x.2) x.1) cs=putAt cs (off+k) l:=by
 induction l with
 | nil=>intro cs off k;rfl
 | cons v r ih=>intro cs off k;simp only[List.zipIdx_cons,bY0,putAt];rw[ih];rfl
theorem Qm(pl:List (Nat×Nat)):∀ (vs:List (Nat×Value)) (cs out:Array Value),fl pl cs vs=some out→Instr.fill (pl.toArray[·]?) cs vs=some out:=by
 intro vs
 induction vs with
 | nil=>intro cs out h;exact h
 | cons p r ih=>
  obtain⟨i,v⟩:=p;intro cs out h;simp only[fl,mZ] at h;simp only[Instr.fill];split at h
  ·rename_i off sz hp;simp only[hp]
   cases hc:(Nat.beq v.cells.size sz&&Nat.ble (off+sz) cs.size) with
   | false=>rw[hc] at h;cases h
   | true=>
    rw[hc] at h;simp only[cond_true] at h;simp only[bH6,beq_iff,Nat.ble_eq] at hc;rw[if_neg (by simp[hc.1];omega)]
    have e:(v.cells.zipIdx.foldl (fun cs (x:Value×Nat)=>cs.setIfInBounds (off+x.2) x.1) cs)=putAt cs off v.cells.toList:=by
     have:=Bl v.cells.toList cs off 0;rw[bL4] at this;rw[←this,←Array.foldl_toList];simp
    have:=ih _ _ h;rw[←e] at this;exact this
  ·cases h
section
variable {P : Program} {T : Tab} {n : Nat} {w0 : World} {mu : List Nat} {l : Fm} {hp : Hp} {Q : Exit → Fm → Hp → Prop} {all : Array Oper} {rest : List Oper} {dd : Option Tmp} {ty : TypeId} {pos : String} {af : Array Edge} {gg : Option (Nat × Bool)}
theorem Ic(hx:ev l x=some v):Hy P n w0 mu l hp ⟨dd,.move x,ty,pos,af,gg⟩ v:=Zu rfl hx
theorem JY(hx:ev l x=some v):Hy P n w0 mu l hp ⟨dd,.assign x,ty,pos,af,gg⟩ v:=RU rfl hx
theorem aH4{c:Operand}{b q:Bool}(hc:ev l c=some (.bool b))(hx:ev l x=some (gv (jd b false) (.bool q))):Hy P n w0 mu l hp ⟨dd,.pick c (.const (.bool true)) x,ty,pos,af,gg⟩ (.bool (b||q)):=aG4 rfl hc hx
theorem al5{c:Operand}{b q:Bool}(hc:ev l c=some (.bool b))(hx:ev l x=some (gv (jd b true) (.bool q))):Hy P n w0 mu l hp ⟨dd,.pick c x (.const (.bool false)),ty,pos,af,gg⟩ (.bool (b&&q)):=as3 rfl hc hx
theorem VH{c:Operand}{b:Bool}{u:Value}(hc:ev l c=some (.bool b))(hx:ev l x=some u)(hy:ev l y=some v):Hy P n w0 mu l hp ⟨dd,.pick c x y,ty,pos,af,gg⟩ (bif b then u else v):=xX rfl hc hx hy
theorem al6{b:Bool}(hx:ev l x=some (.bool b)):Hy P n w0 mu l hp ⟨dd,.unOp .not t x,ty,pos,af,gg⟩ (.bool (!b)):=ar6 rfl hx
theorem Gg{vs:Array Value}(hx:ev l x=some (.tuple vs))(hi:nth vs.toList i=some v):Hy P n w0 mu l hp ⟨dd,.extract x i,ty,pos,af,gg⟩ v:=NT rfl hx (by rw[mZ] at hi;simpa using hi)
theorem DC{p:Addr}(hx:ev l x=some (.pointer (some p))):Hy P n w0 mu l hp ⟨dd,.nilCheck x,ty,pos,af,gg⟩ (.pointer (some p)):=JV rfl hx
theorem al7{p:Int}(hx:ev l x=some (.int k p))(hy:ev l y=some (.int k q)):Hy P n w0 mu l hp ⟨dd,.binOp .lss t x y u,ty,pos,af,gg⟩ (.bool (decide (p<q))):=ar7 rfl hx hy
theorem al8{p:Int}(hx:ev l x=some (.int k p))(hy:ev l y=some (.int k q)):Hy P n w0 mu l hp ⟨dd,.binOp .leq t x y u,ty,pos,af,gg⟩ (.bool (decide (p≤q))):=ar8 rfl hx hy
theorem al9{p:Int}(hx:ev l x=some (.int k p))(hy:ev l y=some (.int k q)):Hy P n w0 mu l hp ⟨dd,.binOp .gtr t x y u,ty,pos,af,gg⟩ (.bool (decide (q<p))):=ar9 rfl hx hy
theorem am0{p:Int}(hx:ev l x=some (.int k p))(hy:ev l y=some (.int k q)):Hy P n w0 mu l hp ⟨dd,.binOp .geq t x y u,ty,pos,af,gg⟩ (.bool (decide (q≤p))):=ar' rfl hx hy
theorem VI{p:Int}(hx:ev l x=some (.int k p))(hy:ev l y=some (.int k q)):Hy P n w0 mu l hp ⟨dd,.binOp .eql t x y u,ty,pos,af,gg⟩ (.bool (decide (p=q))):=as1 rfl hx hy
theorem am1{p:Int}(hx:ev l x=some (.int k p))(hy:ev l y=some (.int k q)):Hy P n w0 mu l hp ⟨dd,.binOp .neq t x y u,ty,pos,af,gg⟩ (.bool (!decide (p=q))):=as2 rfl hx hy
theorem VJ(ok:bC P T){p q:Bool}(hx:ev l x=some (.bool p))(hy:ev l y=some (.bool q))(ht:mem T.bo t=true):Hy P n w0 mu l hp ⟨dd,.binOp .eql t x y u,ty,pos,af,gg⟩ (.bool (p == q)):=Zv rfl (ok.gbo ht) hx hy
theorem VK(ok:bC P T){p q:Bool}(hx:ev l x=some (.bool p))(hy:ev l y=some (.bool q))(ht:mem T.bo t=true):Hy P n w0 mu l hp ⟨dd,.binOp .neq t x y u,ty,pos,af,gg⟩ (.bool (p != q)):=Zw rfl (ok.gbo ht) hx hy
theorem am2(hx:ev l x=some (.int .i64 ((i:Nat):Int)))(hy:ev l y=some (.int .i64 1))(h1:i<9223372036854775807):Hy P n w0 mu l hp ⟨dd,.binOp .add t x y u,ty,pos,af,gg⟩ (.int .i64 ((i+1:Nat):Int)):=aH1 rfl hx hy h1
theorem am3{p:Int}(hx:ev l x=some (.int .i64 p))(hy:ev l y=some (.int .i64 q))(h0:-9223372036854775808≤p+q)(h1:p+q≤9223372036854775807):Hy P n w0 mu l hp ⟨dd,.binOp .add t x y u,ty,pos,af,gg⟩ (.int .i64 (p+q)):=H8 rfl hx hy h0 h1
theorem am4{p:Int}(hx:ev l x=some (.int .i64 p))(hy:ev l y=some (.int .i64 q))(h0:-9223372036854775808≤p-q)(h1:p-q≤9223372036854775807):Hy P n w0 mu l hp ⟨dd,.binOp .sub t x y u,ty,pos,af,gg⟩ (.int .i64 (p-q)):=Zx rfl hx hy h0 h1
theorem am5{p:Int}(hx:ev l x=some (.int .i64 p))(hy:ev l y=some (.int .i64 q))(h0:-9223372036854775808≤p*q)(h1:p*q≤9223372036854775807):Hy P n w0 mu l hp ⟨dd,.binOp .mul t x y u,ty,pos,af,gg⟩ (.int .i64 (p*q)):=Zy rfl hx hy h0 h1
theorem VL{p:Int}(hx:ev l x=some (.int k p))(hy:ev l y=some (.int k q)):Hy P n w0 mu l hp ⟨dd,.binOp .add t x y u,ty,pos,af,gg⟩ (.int k (k.wrap (p+q))):=Vp rfl hx hy
theorem VM{p:Int}(hx:ev l x=some (.int k p))(hy:ev l y=some (.int k q)):Hy P n w0 mu l hp ⟨dd,.binOp .sub t x y u,ty,pos,af,gg⟩ (.int k (k.wrap (p-q))):=Vq rfl hx hy
theorem Ie(ok:bC P T){s:TypeId}{p:Int}(hx:ev l x=some (.int k p))(hs:lk T.ik s=some k)(ht:lk T.ik t=some .i64)(h0:-9223372036854775808≤p)(h1:p≤9223372036854775807):Hy P n w0 mu l hp ⟨dd,.convert s t x,ty,pos,af,gg⟩ (.int .i64 p):=ZI ok rfl hx hs ht h0 h1
theorem Qn(ok:bC P T){s:TypeId}{p:Int}(hx:ev l x=some (.int k p))(hs:lk T.ik s=some k)(ht:lk T.ik t=some .u64)(h0:0≤p)(h1:p≤18446744073709551615):Hy P n w0 mu l hp ⟨dd,.convert s t x,ty,pos,af,gg⟩ (.int .u64 p):=ZJ ok rfl hx hs ht h0 h1
theorem x_len(ok:bC P T){t e:Nat}{p:Option Addr}{c:Nat}(hx:ev l x=some (.slice p m c))(ht:lk T.sl t=some (e,s)):Hy P n w0 mu l hp ⟨dd,.call { callee:=.builtin .len,args:=#[x],argTypes:=#[t] },ty,pos,af,gg⟩ (.int .i64 m):=aH2 ok rfl hx ht
theorem Qo(ok:bC P T){k k':Nat}{os:List Nat}(hx:ev l x=some (.pointer (some ⟨b,off,none⟩)))(ho:lk T.fo t=some os)(hk:nth os k=some k')(he:off+k'=off'):Hy P n w0 mu l hp ⟨dd,.fieldAddr t x k,ty,pos,af,gg⟩ (.pointer (some ⟨b,off',none⟩)):=ZG ok rfl hx ho (by rw[mZ] at hk;simpa using hk) he
theorem JZ(ok:bC P T){c:Nat}(hx:ev l x=some (.slice (some ⟨b,off,none⟩) m c))(hy:ev l y=some (.int k ((i:Nat):Int)))(ht:lk T.sl t=some (e,s))(h1:i<m)(he:off+i*s=off'):Hy P n w0 mu l hp ⟨dd,.indexAddr t x y,ty,pos,af,gg⟩ (.pointer (some ⟨b,off',none⟩)):=VB ok rfl hx hy ht h1 he
theorem Gh(ok:bC P T)(hx:ev l x=some (.pointer (some ⟨b,off,none⟩)))(hy:ev l y=some (.int k ((i:Nat):Int)))(ht:lk T.ar t=some (m,e,s))(h1:i<m)(he:off+i*s=off'):Hy P n w0 mu l hp ⟨dd,.indexAddr t x y,ty,pos,af,gg⟩ (.pointer (some ⟨b,off',none⟩)):=Sl ok rfl hx hy ht h1 he
theorem Ig(ok:bC P T){c:Nat}{i:Int}(hx:ev l x=some (.slice (some ⟨b,off,none⟩) m c))(hy:ev l y=some (.int k i))(ht:lk T.sl t=some (e,s))(h0:0≤i)(h1:i<m)(he:off+i.toNat*s=off'):Hy P n w0 mu l hp ⟨dd,.indexAddr t x y,ty,pos,af,gg⟩ (.pointer (some ⟨b,off',none⟩)):=ZH ok rfl hx hy ht h0 h1 he
theorem J3(ok:bC P T){i:Int}(hx:ev l x=some (.pointer (some ⟨b,off,none⟩)))(hy:ev l y=some (.int k i))(ht:lk T.ar t=some (m,e,s))(h0:0≤i)(h1:i<m)(he:off+i.toNat*s=off'):Hy P n w0 mu l hp ⟨dd,.indexAddr t x y,ty,pos,af,gg⟩ (.pointer (some ⟨b,off',none⟩)):=VD ok rfl hx hy ht h0 h1 he
theorem VN(ok:bC P T)(hs:mem T.sc t=true)(hx:ev l x=some (.pointer (some ⟨b,off,none⟩)))(hm:(⟨b,cs,tb⟩:mO)∈hp)(hv:nth cs.toList off=some v):Hy P n w0 mu l hp ⟨dd,.load t x,ty,pos,af,gg⟩ v:=as6 ok rfl hs hx hm (by rw[mZ] at hv;simpa using hv)
theorem Ih(ok:bC P T)(hs:mem T.sc t=true)(hx:ev l x=some (.pointer (some ⟨b,off,none⟩)))(hc:w0.cell? ⟨b,off,none⟩=some v)(hmu:b∉mu):Hy P n w0 mu l hp ⟨dd,.load t x,ty,pos,af,gg⟩ v:=ZE ok rfl hs hx hc hmu
theorem Qp(ok:bC P T)(hs:mem T.ag t=true)(hx:ev l x=some (.pointer (some ⟨b,off,none⟩)))(hz:lk T.sz t=some sz)(hm:(⟨b,cs,tb⟩:mO)∈hp)(hv:(cs.toList.drop off).take sz=vs)(hl:vs.length=sz):Hy P n w0 mu l hp ⟨dd,.load t x,ty,pos,af,gg⟩ (.agg vs.toArray):=ZF ok rfl hs hx hz hm hv hl
theorem J4(ok:bC P T)(hs:mem T.ag t=true)(hx:ev l x=some (.pointer (some ⟨b,off,none⟩)))(hz:lk T.sz t=some sz)(hr:w0.rangeAt b off vs)(hl:vs.length=sz)(hmu:b∉mu):Hy P n w0 mu l hp ⟨dd,.load t x,ty,pos,af,gg⟩ (.agg vs.toArray):=VA ok rfl hs hx (by rw[hl];exact hz) hr hmu
theorem Ii(ok:bC P T){ps:List (Nat×Operand)}{vs:List (Nat×Value)}{pl:List (Nat×Nat)}{zc out':Array Value}(hz:lk T.zs t=some z)(hzc:z.cells=zc)(hpl:lk T.pl t=some pl)(hv:Fh l ps=some vs)(hf:fl pl zc vs=some out)(hn:out=out'):Hy P n w0 mu l hp ⟨dd,.build t ps.toArray,ty,pos,af,gg⟩ (.agg out'):=by
 subst hn;subst hzc;exact ZK ok rfl hz hpl hv (Qm _ _ _ _ hf)
theorem fM(bM:Cal P f)(hv:evs l xs=some vs)
  (hc:∀ w,Good w0 mu hp w→Fn P f vs.toArray w [] (fun u _=>u=v)):Hy P n w0 mu l hp ⟨dd,.call { callee:=.value (.func f),args:=xs.toArray,argTypes:=tys },ty,pos,af,gg⟩ v:=by
 obtain⟨fn,c,hf,hname,hb⟩:=bM;exact as7 rfl hf hname hb hv hc
theorem CP(ok:bC P T){t:Nat}{cs:List Value}(hd:Nat.blt d n=true)(hz:lk T.zs t=some z)(hc:z.cells=cs.toArray)
  (h:∀ b,Ops P n w0 mu all rest ((d,.pointer (some ⟨b,0,none⟩))::l) (⟨b,cs.toArray,t⟩::hp) Q):Ops P n w0 mu all (⟨some d,.alloc t,ty,pos,af,none⟩::rest) l hp Q:=ZL ok rfl hd hz hc h
theorem Qq{t:Nat}{cs:List Value}(hd:Nat.blt d n=true)(hx:ev l x=some v)(hc:v.cells=cs.toArray)
  (h:∀ b,Ops P n w0 mu all rest ((d,.pointer (some ⟨b,0,none⟩))::l) (⟨b,cs.toArray,t⟩::hp) Q):Ops P n w0 mu all (⟨some d,.box t x,ty,pos,af,none⟩::rest) l hp Q:=aH3 rfl hd hx hc h
theorem yh(ok:bC P T){cs':Array Value}{hp':Hp}
  (hx:ev l x=some (.pointer (some ⟨b,off,none⟩))) (hy:ev l y=some v) (lC:v.cells=vs.toArray) (hs:lk T.sz t=some sz) (hl:vs.length=sz) (hperm:(⟨b,cs,tb⟩::hp').Perm hp) (hv1:vs.all (·.oneCell')=true) (hlt:off+vs.length≤cs.size) (hput:putAt cs off vs=cs')
  (h:Ops P n w0 mu all rest l (⟨b,cs',tb⟩::hp') Q):Ops P n w0 mu all (⟨none,.store t x y,ty,pos,af,none⟩::rest) l hp Q:=ZM ok rfl hx hy lC hs hl hperm hv1 hlt hput h
def rep(zl:List Value):Nat→List Value
 | 0=>[]
 | k+1=>rep zl k++zl
def flS(sz:Nat):Array Value→List (Nat×Value)→Option (Array Value)
 | cs,[]=>some cs
 | cs,(i,v)::r=>bif Nat.beq v.cells.size sz&&Nat.ble (i*sz+sz) cs.size then flS sz (putAt cs (i*sz) v.cells.toList) r else none
theorem J5(sz:Nat):∀ (vs:List (Nat×Value)) (cs out:Array Value),flS sz cs vs=some out→Instr.fill (fun i=>some (i*sz,sz)) cs vs=some out:=by
 intro vs
 induction vs with
 | nil=>intro cs out h;exact h
 | cons p r ih=>
  obtain⟨i,v⟩:=p;intro cs out h;simp only[flS] at h;simp only[Instr.fill]
  cases hc:(Nat.beq v.cells.size sz&&Nat.ble (i*sz+sz) cs.size) with
  | false=>rw[hc] at h;cases h
  | true=>
   rw[hc] at h;simp only[cond_true] at h;simp only[bH6,beq_iff,Nat.ble_eq] at hc;rw[if_neg (by simp[hc.1];omega)]
   have e:(v.cells.zipIdx.foldl (fun cs (x:Value×Nat)=>cs.setIfInBounds (i*sz+x.2) x.1) cs)=putAt cs (i*sz) v.cells.toList:=by
    have:=Bl v.cells.toList cs (i*sz) 0;rw[bL4] at this;rw[←this,←Array.foldl_toList];simp
   have:=ih _ _ h;rw[←e] at this;exact this
theorem NY(zc:Array Value)(hz:0<zc.size)(len:Nat):(Array.range (len*zc.size)).map (fun i=>zc[i%zc.size]!)=(rep zc.toList len).toArray:=by
 have key:∀ len,(List.range (len*zc.size)).map (fun i=>zc[i%zc.size]!)=rep zc.toList len:=by
  intro len
  induction len with
  | zero=>simp[rep]
  | succ k ih=>
   rw[bN6,List.range_add,bJ4,ih,rep]
   congr 1
   rw[bW'];apply List.ext_getElem
   ·simp
   ·intro i h1 h2;have hi:i<zc.size:=by simpa using h2
    simp[Nat.mul_add_mod_of_lt hi,Nat.add_mod,Nat.mod_eq_of_lt hi,hi]
 apply Array.ext';rw[Array.toList_map,Array.toList_range,key]
theorem yj (ok : bC P T) {t len e:Nat}  {ps : List (Nat × Operand)} {vs : List (Nat × Value)} {zl : List Value}  {out' : List Value} (hd : Nat.blt d n = true) (ht : lk T.sl t = some (e, sz)) (hz : lk T.zs e = some z) (hzc : z.cells = zl.toArray) (hzs : Nat.beq zl.length sz = true) (hpos : (Nat.blt 0 (len * sz) && Nat.ble (len * sz) 16777216) = true) (hv : Fh l ps = some vs) (hf : flS sz (rep zl len).toArray vs = some out) (hn : out = out'.toArray)
    (h : ∀ b, Ops P n w0 mu all rest ((d, .slice (some ⟨b, 0, none⟩) len len) :: l) (⟨b, out'.toArray, e⟩ :: hp) Q) : Ops P n w0 mu all (⟨some d, .buildSlice t len ps.toArray, ty, pos, af, none⟩ :: rest) l hp Q := by
  subst hn;have hzs' : zl.length = sz := by simpa using hzs
  rw [bH6] at hpos;obtain ⟨hp1, hp2⟩ := hpos;replace hp1 : 0 < len * sz := by simpa using hp1
  replace hp2 : len * sz ≤ 16777216 := bM2 hp2
  have hsp : 0 < sz := by rcases bU' sz with h | h; · rw [h] at hp1; simp at hp1
                          · exact h
  refine CG (b := 0) rfl hd out'.toArray e rfl (fun b => .slice (some ⟨b, 0, none⟩) len len) (fun a w hk _ => ?_) h;have e1 : (ps.toArray.map fun x => (x.1, a.eval x.2)) = vs.toArray := by rw [← hk.Fh hv]; simp
  obtain ⟨hu, hs⟩ := ok.zJ ht;have hr := NY z.cells (by rw [hzc]; simpa [hzs'] using hsp) len;have hsz : z.cells.size = sz := by rw [hzc]; simpa using hzs'
  rw [hsz] at hr;simp only [execOp, Instr.buildSlice, Sem.run_bind, run_underlying hu w, Result.andThen_ok, run_sizeOf hs w, e1];rw [if_neg bB3];simp only [Sem.run_bind, Sem.run_pure, Result.andThen_ok, if_neg (show ¬ len * sz = 0 by omega), pK (ok.NH hz) w, hsz, hr];rw [show z.cells.toList = zl by rw [hzc]];simp only [bP4, J5 _ _ _ _ hf];simp [go_sem]
theorem VO{R:Value→Hp→Prop}(bM:Cal P f)(hd:Nat.blt d n=true)(hv:evs l xs=some vs)
  (hc:∀ w,Good w0 mu hp w→Fn P f vs.toArray w [] R) (h:∀ v hn,R v hn→Ops P n w0 mu all rest ((d,v)::l) (hn++hp) Q):Ops P n w0 mu all (⟨some d,.call { callee:=.value (.func f),args:=xs.toArray,argTypes:=tys },ty,pos,af,none⟩::rest) l hp Q:=by
 obtain⟨fn,c,hf,hname,hb⟩:=bM;exact as8 rfl hd hf hname hb hv hc h
theorem ZO{R:Value→Hp→Prop}(bM:Cal P f)(hi hp':Hp)(hd:Nat.blt d n=true)(hv:evs l xs=some vs)(hperm:(hi++hp').Perm hp)
  (hc:∀ w,Good w0 mu (hi++hp') w→Fn P f vs.toArray w (hi.map (·.b)) R) (h:∀ v hn,R v hn→Ops P n w0 mu all rest ((d,v)::l) (hn++hp') Q):Ops P n w0 mu all (⟨some d,.call { callee:=.value (.func f),args:=xs.toArray,argTypes:=tys },ty,pos,af,none⟩::rest) l hp Q:=by
 obtain⟨fn,c,hf,hname,hb⟩:=bM;exact RZ hi hp' rfl rfl hd hf hname hb hv hperm hc h
end
end
section
inductive jU where
 | i (k:IntKind)
 | b
deriving DecidableEq
def zT:jU→Value→Bool
 | .i k,.int k' _=>decide (k=k')
 | .b,.bool _=>true
 | _,_=>false
def bu:List jU→List Value→Bool
 | [],[]=>true
 | l::ls,v::vs=>zT l v&&bu ls vs
 | _,_=>false
def iF:Value→Value→Bool
 | .int _ x,.int _ y=>decide (x=y)
 | .bool x,.bool y=>x == y
 | _,_=>false
def aW:List Value→List Value→Bool
 | v::vs,u::us=>iF v u&&aW vs us
 | _,_=>true
def kY (F : TypeId → Option (List jU)) : Nat → List Field → Option (List jU)
  | _, [] => some []
  | off, f :: r => if f.name ≠ "_" ∧ f.offset = off then (F f.type).bind fun ks => (kY F (off + ks.length) r).map fun rs => ks ++ rs else none
def lY(ks:List jU):Nat→List jU
 | 0=>[]
 | n+1=>ks++lY ks n
def uy(P:Program):Nat→TypeId→Option (List jU)
 | 0,_=>none
 | d+1,t=>match P.underlying t with
  | some (.int k)=>some [.i k]
  | some .bool=>some [.b]
  | some (.struct fs)=>if P.stoodInHeld t=false then (kY (fun u=>(uy P d u).bind fun ks=>if fK P u=some ks.length∧0<ks.length then some ks else none) 0 fs.toList) else none
  | some (.array n e)=>(uy P d e).bind fun ks=>if fK P e=some ks.length∧0<ks.length then some (lY ks n) else none
  | _=>none
theorem iZ:∀ {ks:List jU} {vs:List Value},bu ks vs=true→vs.length=ks.length:=by
 intro ks
 induction ks with
 | nil=>intro vs h;cases vs<;>simp_all [bu]
 | cons k r ih=>intro vs h;cases vs with
  | nil=>simp[bu] at h
  | cons v vs=>simp only[bu,bH6] at h;simp[ih h.2]
theorem oJ:∀ {ks rs:List jU} {vs:List Value},bu (ks++rs) vs=true→bu ks (vs.take ks.length)=true∧bu rs (vs.drop ks.length)=true:=by
 intro ks
 induction ks with
 | nil=>intro rs vs h;simpa [bu] using h
 | cons k r ih=>intro rs vs h;cases vs with
  | nil=>simp[bu] at h
  | cons v vs=>
   simp only[bI0,bu,bH6] at h;obtain⟨h1,h2⟩:=ih h.2;simp[bu,h.1,h1,h2]
theorem uD:∀ (n:Nat) (vs us:List Value),vs.length=us.length→aW vs us=(aW (vs.take n) (us.take n)&&aW (vs.drop n) (us.drop n)):=by
 intro n
 induction n with
 | zero=>intro vs us h;simp[aW]
 | succ n ih=>intro vs us h;cases vs with
  | nil=>cases us with
   | nil=>rfl
   | cons u us=>simp at h
  | cons v vs=>cases us with
   | nil=>simp at h
   | cons u us=>simp only[bL6,Nat.add_right_cancel_iff] at h;simp only[bL7,bL2,aW];rw[ih vs us h,bP3]
def Qr(P:Program)(t:TypeId)(cs:List Value):Value:=bif nN P t then .agg cs.toArray else cs.headD undef
section
variable {P : Program}
theorem yl{cs:List Value}(hs:fK P t=some s)(hle:off+s≤cs.length)(hsc:nN P t=true∨(xY P t=true∧s=1))(w:World):
  (part t cs.toArray off).run P w=.ok (Qr P t ((cs.drop off).take s)) w:=by
 rcases hsc with ha | ⟨hsc,rfl⟩
 ·have hagg:(isAgg t).run P w=.ok true w:=by
   unfold nN at ha
   cases hu:P.underlying t with
   | none=>rw[hu] at ha;cases ha
   | some d=>
    rw[hu] at ha;unfold isAgg;rw[Sem.run_bind,run_underlying hu w];cases d<;>first | rfl | (simp at ha;done) | (simp at ha)
  simp only[part,Sem.run_bind,hagg,Result.andThen_ok,if_true,run_sizeOf hs w,Sem.run_pure,Qr,ha,cond_true]
  congr 2
  simp[List.extract_toArray,List.extract_eq_take_drop]
 ·have hn:nN P t=false:=by
   unfold xY at hsc;unfold nN
   cases hu:P.underlying t with
   | none=>rfl
   | some d=>
    rw[hu] at hsc;cases d<;>first | rfl | cases hsc
  simp only[part,Sem.run_bind,oI hsc w,Result.andThen_ok,Qr,hn,cond_false];have h1:off<cs.length:=by omega
  simp only[List.getElem?_toArray,bH9 h1,Sem.run_pure];rw[bV5 h1];rfl
theorem BU {F : TypeId → Option (List jU)}  (hF : ∀ u ks, F u = some ks → fK P u = some ks.length ∧ 0 < ks.length ∧ (nN P u = true ∨ (xY P u = true ∧ ks.length = 1)) ∧
      ∀ xs ys w, bu ks xs = true → bu ks ys = true → (Op.equalIn d u (Qr P u xs) (Qr P u ys)).run P w = .ok (aW xs ys) w) (xs ys : List Value) :
    ∀ (fs : List Field) (off : Nat) (ks : List jU), kY F off fs = some ks → bu ks (xs.drop off) = true → bu ks (ys.drop off) = true → ∀ w, (Op.eqFields d xs.toArray ys.toArray fs).run P w = .ok (aW (xs.drop off) (ys.drop off)) w := by
  intro fs
  induction fs with
  | nil =>
    intro off ks h hx hy w;simp only [kY, bK0] at h;subst h;have e1 : xs.drop off = [] := by have := iZ hx; simp at this; exact bM0 bB3
    have e2 : ys.drop off = [] := by have := iZ hy; simp at this; exact bM0 bB3
    simp [Op.eqFields, e1, e2, aW]
  | cons f r ih =>
    intro off ks h hx hy w;simp only [kY] at h;split at h
    · rename_i hc
      obtain ⟨hname, hoff⟩ := hc
      cases hf : F f.type with
      | none => simp [hf] at h
      | some k1 =>
        rw [hf] at h;simp only [bQ5] at h
        cases hr : kY F (off + k1.length) r with
        | none => simp [hr] at h
        | some k2 =>
          rw [hr] at h;simp only [bL5, bK0] at h;subst h;obtain ⟨hs, hpos, hk, hE⟩ := hF _ _ hf;have lx := iZ hx;have ly := iZ hy;simp only [bN9, bJ9] at lx ly;obtain ⟨x1, x2⟩ := oJ hx;obtain ⟨y1, y2⟩ := oJ hy;rw [bQ2] at x2 y2;simp only [Op.eqFields];rw [if_pos hname, hoff];have p1 := yl (P := P) (t := f.type) (cs := xs) (off := off) hs bB3 hk w;have p2 := yl (P := P) (t := f.type) (cs := ys) (off := off) hs bB3 hk w;simp only [Sem.run_bind, p1, Result.andThen_ok, p2];have := hE _ _ w x1 y1;rw [this];rw [uD k1.length (xs.drop off) (ys.drop off) (by simp; omega), bQ2, bQ2]
          cases hq : aW ((xs.drop off).take k1.length) ((ys.drop off).take k1.length) with
          | false => simp
          | true =>
            simp only [Result.andThen_ok, bK1, bO6, if_false, bI6];exact ih _ k2 hr x2 y2 w
    · cases h
theorem J6   {ks : List jU} (hs : fK P e = some ks.length) (hpos : 0 < ks.length) (hk : nN P e = true ∨ (xY P e = true ∧ ks.length = 1))
    (hE : ∀ xs ys w, bu ks xs = true → bu ks ys = true → (Op.equalIn d e (Qr P e xs) (Qr P e ys)).run P w = .ok (aW xs ys) w) (xs ys : List Value) (n : Nat) (hx : bu (lY ks n) (xs.drop (m * ks.length)) = true) (hy : bu (lY ks n) (ys.drop (m * ks.length)) = true) (w : World) :
    ((do for i in List.range' m n do
          if !(← Op.equalIn d e (← part e xs.toArray (i * ks.length)) (← part e ys.toArray (i * ks.length))) then return false
         pure true : Sem Bool)).run P w = .ok (aW (xs.drop (m * ks.length)) (ys.drop (m * ks.length))) w := by
  induction n generalizing m with
  | zero =>
    have e1 : xs.drop (m * ks.length) = [] := by have := iZ hx; simp [lY] at this; exact bM0 bB3
    have e2 : ys.drop (m * ks.length) = [] := by have := iZ hy; simp [lY] at this; exact bM0 bB3
    simp [e1, e2, aW]
  | succ n ih =>
    have lx := iZ hx;have ly := iZ hy;simp only [bN9, lY, bJ9] at lx ly;obtain ⟨x1, x2⟩ := oJ hx;obtain ⟨y1, y2⟩ := oJ hy;rw [bQ2, ← bN6] at x2 y2;have p1 := yl (P := P) (t := e) (cs := xs) (off := m * ks.length) hs bB3 hk w;have p2 := yl (P := P) (t := e) (cs := ys) (off := m * ks.length) hs bB3 hk w;rw [List.range'_succ];simp only [List.forIn_cons, Sem.run_bind, p1, Result.andThen_ok, p2, hE _ _ w x1 y1];rw [uD ks.length (xs.drop (m * ks.length)) (ys.drop (m * ks.length)) (by simp; omega), bQ2, bQ2, ← bN6]
    cases hq : aW ((xs.drop (m * ks.length)).take ks.length) ((ys.drop (m * ks.length)).take ks.length) with
    | false => simp
    | true =>
      have := ih x2 y2;simp only [Sem.run_bind] at this;simpa using this
theorem Ij{ks:List jU}(h:uy P d t=some ks):nN P t=true∨(xY P t=true∧ks.length=1):=by
 cases d with
 | zero=>cases h
 | succ d=>
  simp only[uy] at h;unfold nN xY;split at h
  ·rename_i hu;rw[hu];simp only[bK0] at h;subst h;exact .inr ⟨rfl,rfl⟩
  ·rename_i hu;rw[hu];simp only[bK0] at h;subst h;exact .inr ⟨rfl,rfl⟩
  ·rename_i hu;rw[hu];exact .inl rfl
  ·rename_i hu;rw[hu];exact .inl rfl
  ·cases h
theorem zU : ∀ (d m : Nat) (t : TypeId) (ks : List jU), uy P d t = some ks → ∀ xs ys w, bu ks xs = true → bu ks ys = true → (Op.equalIn (d + m) t (Qr P t xs) (Qr P t ys)).run P w = .ok (aW xs ys) w := by
  intro d
  induction d with
  | zero => intro m t ks h; cases h
  | succ d ih =>
    intro m t ks h xs ys w hx hy;have hsc := Ij h;simp only [uy] at h;rw [show d + 1 + m = (d + m) + 1 by omega];split at h
    · rename_i k hu
      simp only [bK0] at h;subst h;have hag : nN P t = false := by unfold nN; rw [hu]
      obtain ⟨k1, a, rfl⟩ : ∃ k1 a, xs = [.int k1 a] := by
        cases xs with
        | nil => simp [bu] at hx
        | cons v r => cases r with
          | nil => cases v <;> first | exact ⟨_, _, rfl⟩ | simp [bu, zT] at hx
          | cons u r => simp [bu] at hx
      obtain ⟨k2, b, rfl⟩ : ∃ k2 b, ys = [.int k2 b] := by
        cases ys with
        | nil => simp [bu] at hy
        | cons v r => cases r with
          | nil => cases v <;> first | exact ⟨_, _, rfl⟩ | simp [bu, zT] at hy
          | cons u r => simp [bu] at hy
      · · simp only [bu, zT, bM', decide_eq_true_eq] at hx hy
          subst hx; subst hy;have e : (a == b) = decide (a = b) := by rw [bI2]; simp
          simp only [Qr, hag, cond_false, List.headD_cons, run_equalIn_int w (d + m) t k k a b hu, aW, iF, bM', e]
    · rename_i hu
      simp only [bK0] at h;subst h;have hag : nN P t = false := by unfold nN; rw [hu]
      obtain ⟨a, rfl⟩ : ∃ a, xs = [.bool a] := by
        cases xs with
        | nil => simp [bu] at hx
        | cons v r => cases r with
          | nil => cases v <;> first | exact ⟨_, rfl⟩ | simp [bu, zT] at hx
          | cons u r => simp [bu] at hx
      obtain ⟨b, rfl⟩ : ∃ b, ys = [.bool b] := by
        cases ys with
        | nil => simp [bu] at hy
        | cons v r => cases r with
          | nil => cases v <;> first | exact ⟨_, rfl⟩ | simp [bu, zT] at hy
          | cons u r => simp [bu] at hy
      · simp only [Qr, hag, cond_false, List.headD_cons, run_equalIn_bool' w (d + m) t a b hu, aW, iF, bM']
    · rename_i fs hu
      have hag : nN P t = true := by unfold nN; rw [hu]
      split at h
      · rename_i hst
        have hfs : P.fieldsOf t = fs := by unfold Program.fieldsOf; rw [hu]
        simp only [Qr, hag, cond_true];rw [run_equalIn_struct w (d + m) t xs.toArray ys.toArray (by rw [hfs]; exact hu) hst, hfs]
        have := BU (P := P) (F := fun u => (uy P d u).bind fun ks => if fK P u = some ks.length ∧ 0 < ks.length then some ks else none) (d := d + m) (fun u ks' hF => by
          cases hl : uy P d u with
          | none => rw [hl] at hF; cases hF
          | some k1 =>
            rw [hl] at hF;simp only [bQ5] at hF;split at hF
            · rename_i hz
              simp only [bK0] at hF;subst hF;exact ⟨hz.1, hz.2, Ij hl, fun xs ys w => ih m u k1 hl xs ys w⟩
            · cases hF) xs ys fs.toList 0 ks h (by simpa using hx) (by simpa using hy) w
        simpa using this
      · cases h
    · rename_i n e hu
      have hag : nN P t = true := by unfold nN; rw [hu]
      cases hl : uy P d e with
      | none => rw [hl] at h; cases h
      | some k1 =>
        rw [hl] at h;simp only [bQ5] at h;split at h
        · rename_i hz
          simp only [bK0] at h;subst h;simp only [Qr, hag, cond_true, Op.equalIn, Sem.run_bind, run_underlying hu w, Result.andThen_ok, run_sizeOf hz.1 w];have := J6 (m := 0) hz.1 hz.2 (Ij hl) (fun xs ys w => ih m e k1 hl xs ys w) xs ys n (by simpa using hx) (by simpa using hy) w;simp only [bR6, bL'] at this;rw [← this]
          congr 1
          simp only [Std.Legacy.Range.forIn_eq_forIn_range', Std.Legacy.Range.size];simp
        · cases h
    · cases h
def J7(P:Program):List (Nat×List jU)→Prop
 | []=>True
 | p::r=>(uy P 8 p.1=some p.2∧nN P p.1=true∧P.eqGuardType P.depth p.1=false)∧J7 P r
theorem NZ{L:List (Nat×List jU)}(ok:J7 P L){t:Nat}{ks:List jU}(h:lk L t=some ks):uy P 8 t=some ks∧nN P t=true∧P.eqGuardType P.depth t=false:=by
 induction L with
 | nil=>cases h
 | cons p r ih=>
  obtain⟨k,v⟩:=p;simp only[lk] at h
  cases hb:Nat.beq k t with
  | true=>
   rw[hb] at h;simp only[cond_true,bK0] at h;subst h;obtain rfl:=bO8 hb
   exact ok.1
  | false=>rw[hb] at h;exact ih ok.2 h
theorem Qs{L:List (Nat×List jU)}(ok:J7 P L){t:Nat}{ks:List jU}(h:lk L t=some ks)(xs ys:List Value)(w:World)(h1:bu ks xs=true)(h2:bu ks ys=true):(Op.equalIn 10000 t (.agg xs.toArray) (.agg ys.toArray)).run P w=.ok (aW xs ys) w:=by
 obtain⟨g1,g2,_⟩:=NZ ok h;have:=zU (P:=P) 8 9992 t ks g1 xs ys w h1 h2;simpa only [Qr,g2,cond_true] using this
variable {n : Nat} {w0 : World} {mu : List Nat} {hp : Hp} {l : Fm} {L : List (Nat × List jU)}
theorem ZP(ok:J7 P L){xs ys:List Value}{ks:List jU}(hop:o.op=.binOp .eql t x y u)(hx:ev l x=some (.agg xs.toArray))(hy:ev l y=some (.agg ys.toArray))(hk:lk L t=some ks)(h1:bu ks xs=true)(h2:bu ks ys=true):Hy P n w0 mu l hp o (.bool (aW xs ys)):=
 bQ fun a w hk' _=>by
  have:=Qs ok hk xs ys w h1 h2;have hg:=(NZ ok hk).2.2;simp only[execOp,hop,hk'.ev hx,hk'.ev hy];simp[run_eqGuard_agg,hg,run_eql_struct,this]
theorem ZQ(ok:J7 P L){xs ys:List Value}{ks:List jU}(hop:o.op=.binOp .neq t x y u)(hx:ev l x=some (.agg xs.toArray))(hy:ev l y=some (.agg ys.toArray))(hk:lk L t=some ks)(h1:bu ks xs=true)(h2:bu ks ys=true):Hy P n w0 mu l hp o (.bool (!aW xs ys)):=
 bQ fun a w hk' _=>by
  have:=Qs ok hk xs ys w h1 h2;have hg:=(NZ ok hk).2.2;simp only[execOp,hop,hk'.ev hx,hk'.ev hy];simp[run_eqGuard_agg,hg,run_neq_struct,this]
variable {dd : Option Tmp} {ty : TypeId} {pos : String} {af : Array Edge} {gg : Option (Nat × Bool)}
theorem VP(ok:J7 P L){xs ys:List Value}{ks:List jU}(hx:ev l x=some (.agg xs.toArray))(hy:ev l y=some (.agg ys.toArray))(hk:lk L t=some ks)(h1:bu ks xs=true)(h2:bu ks ys=true):Hy P n w0 mu l hp ⟨dd,.binOp .eql t x y u,ty,pos,af,gg⟩ (.bool (aW xs ys)):=ZP ok rfl hx hy hk h1 h2
theorem VQ(ok:J7 P L){xs ys:List Value}{ks:List jU}(hx:ev l x=some (.agg xs.toArray))(hy:ev l y=some (.agg ys.toArray))(hk:lk L t=some ks)(h1:bu ks xs=true)(h2:bu ks ys=true):Hy P n w0 mu l hp ⟨dd,.binOp .neq t x y u,ty,pos,af,gg⟩ (.bool (!aW xs ys)):=ZQ ok rfl hx hy hk h1 h2
theorem ZR{Q:Exit→Fm→Hp→Prop}{rest:List Oper}{R:Value→Prop}(bM:Cal P f)(hd:Nat.blt d n=true)(hv:evs l xs=some vs)
  (hc:∀ w,Good w0 mu hp w→Fn P f vs.toArray w [] (fun v _=>R v)) (h:∀ v,R v→Ops P n w0 mu all rest ((d,v)::l) hp Q):Ops P n w0 mu all (⟨some d,.call { callee:=.value (.func f),args:=xs.toArray,argTypes:=tys },ty,pos,af,none⟩::rest) l hp Q:=
 VO bM hd hv hc fun v hn hR a w hk hg=>h v hR a w hk (hg.sub (bR' _ _))
end
end
section
section
variable {P : Program} {T : Tab} {n : Nat} {w0 : World} {mu : List Nat} {l : Fm} {hp : Hp} {dd : Option Tmp} {ty : TypeId} {pos : String} {af : Array Edge} {gg : Option (Nat × Bool)}
end
end
section
theorem Good.row{hp:Hp}(h:Good w0 mu (⟨b,cs,t⟩::hp) w)(cs':Array Value):Good w0 mu (⟨b,cs',t⟩::hp) (w.setRow b cs'):=by
 have hnd:=h.nodup;simp only[bL9,bO4] at hnd;refine⟨h.os,h.tape,h.output,by have:=h.size;simpa [World.setRow] using this,by simpa using hnd,?_,?_,?_⟩
 ·intro e he;rcases bJ3.1 he with rfl | he
  ·exact setRow_heap w b cs _ t _ (h.here _ (bI8 ..))
  ·exact (setRow_other w b e.b _ (fun hb=>hnd.1 (bI7.2 ⟨e,he,hb⟩))).trans (h.here e (bI5 _ he))
 ·intro e he;rcases bJ3.1 he with rfl | he
  ·exact h.own ⟨b,cs,t⟩ (bI8 ..)
  ·exact h.own e (bI5 _ he)
 ·intro k hk hm;refine (setRow_other w b k _ (fun hb=>?_)).trans (h.old k hk hm);rcases h.own ⟨b,cs,t⟩ (bI8 ..) with h1 | h1
  ·exact hm (hb▸h1)
  ·simp only at hb h1;omega
structure Row(g cap:Nat)(cur:Array Value)(sz n:Nat)(xs:List Value):Prop where
 len:xs.length=n*sz
 le:n≤cap
 max:cap≤maxLen
 size:cur.size=cap*sz
 take:cur.toList.take (n*sz)=xs
def lI(w0:World)(mu:List Nat)(hp:Hp)(a o:Nat)(news:List Value):Prop:=∀ w,Good w0 mu hp w→∀ j u,news[j]?=some u→w.cell? ⟨a,o+j,none⟩=some u
theorem aY{hp:Hp}{a o:Nat}{news:List Value}(hm:(⟨a,cs,t⟩:mO)∈hp)(h:(cs.toList.drop o).take m=news):lI w0 mu hp a o news:=by
 intro w hG j u hu;subst h;rw[cell_of_block (hG.here _ hm)];rw[bM7] at hu;split at hu
 ·rw[bP2] at hu;simpa using hu
 ·cases hu
theorem yt{hp:Hp}{a o:Nat}{news:List Value}(hr:w0.rangeAt a o news)(hmu:a∉mu):lI w0 mu hp a o news:=fun w hG j u hu=>hG.cell (hr j u hu) hmu
section
variable {P : Program} {T : Tab} {n : Nat} {w0 : World} {mu : List Nat} {l : Fm} {hp : Hp} {ty : TypeId} {pos : String} {af : Array Edge} {Q : Exit → Fm → Hp → Prop} {all : Array Oper} {rest : List Oper}
theorem sD{e:Nat}(hs:fK P e=some sz)(hb:(P.info? e).map (·.bytes)=some jr)(hz:zeroOf P e=some z):∃ i,P.info? e=some i∧i.zero=some z∧i.size=sz∧i.bytes=jr:=by
 unfold fK at hs;unfold zeroOf at hz
 cases hi:P.info? e with
 | none=>rw[hi] at hs;cases hs
 | some i=>
  rw[hi] at hs hb hz;exact⟨i,rfl,by simpa using hz,by simpa using hs,by simpa using hb⟩
theorem CQ{k old:Nat}{xs news:List Value}(hzs:z.cells.size=sz)(hx:xs.length=k*sz)(hl:news.length=m*sz)(hmax:k+m≤maxLen):
  Row w.heap.size (grownCap w (k+m) old e) (xs.toArray++news.toArray++Builtin.zeroCells z.cells (grownCap w (k+m) old e-(k+m))) sz (k+m) (xs++news):=by
 have hge:=grownCap_ge w (k+m) old e;have hcm:grownCap w (k+m) old e≤maxLen:=grownCap_le_maxLen w (k+m) old e hmax;refine⟨by rw[bJ9,hx,hl,bR0],hge,hcm,?_,?_⟩
 ·simp only[Array.size_append,bV3,size_zeroCells,hzs,hx,hl,←bR0]
  congr 1
  omega
 ·simp only[Array.toList_append,bK7];rw[←bK7,show (k+m)*sz=(xs++news).length by rw[bJ9,hx,hl,bR0]];exact bY2
theorem Gi(ok:bC P T){t e c a o:Nat}{news:List Value}(hd:Nat.blt d n=true)(hx:ev l x=some (.slice none 0 0))(hy:ev l y=some (.slice (some ⟨a,o,none⟩) m c))(ht:lk T.sl t=some (e,sz))
  (hz:lk T.zs e=some z) (hzs:z.cells.size=sz) (hb:lk T.eb e=some jr) (hm:0<m) (hl:news.length=m*sz) (hnews:lI w0 mu hp a o news) (h63:m≤1048576) (h48:m*jr≤281474976710656)
  (h:∀ g cap cur,Row g cap cur sz m news→Ops P n w0 mu all rest ((d,.slice (some ⟨g,0,none⟩) m cap)::l) (⟨g,cur,e⟩::hp) Q):Ops P n w0 mu all (⟨some d,.call { callee:=.builtin .append,args:=#[x,y],argTypes:=#[t,t] },ty,pos,af,none⟩::rest) l hp Q:=by
 intro ac w hk hG;have hput:∀ v,Knows n ((d,v)::l) (ac.put (some d) v):=fun v=>Knows.put (d:=some d) hk (fun t ht=>by cases ht;simpa using hd) v;obtain⟨hu,hsz⟩:=ok.zJ ht;have hbb:=bH'.1 ok.eb _ (jC hb);simp only[beq_iff_eq] at hbb;obtain⟨i,hi,hiz,his,hib⟩:=sD hsz hbb (ok.NH hz);subst his hib;refine wpList_plain rfl fun K hK=>?_;have hr:=run_append_nil (P:=P) w t ty e i z hu hi hiz ⟨a,o,none⟩ m c news hl (fun j u hj=>by rw[Addr.add_mid];exact hnews w hG j u hj) hm bB3 h48;unfold Oper.wp execOp;simp only[resolve,invoke,builtin,Sem.run_bind,Sem.run_pure,Result.andThen_ok,bP5,bL9,bO9,hk.ev hx,hk.ev hy,hr];have hrow:=CQ (w:=w) (z:=z) (sz:=i.size) (k:=0) (m:=m) (old:=0) (e:=e) (xs:=[]) (news:=news) hzs bB5 hl bE';simp only[bK2,bI3,Array.empty_append] at hrow;have hG':=(hG.drawn (w.drawn+1)).alloc (news.toArray++Builtin.zeroCells z.cells (grownCap w m 0 e-m)) e;exact hK _ _ (h _ _ _ hrow _ _ (hput _) hG')
theorem vS(ok:bC P T){t e k c a o g cap:Nat}{cur:Array Value}{xs news:List Value}{hp':Hp}(hd:Nat.blt d n=true)(hx:ev l x=some (.slice (some ⟨g,0,none⟩) k cap))(hy:ev l y=some (.slice (some ⟨a,o,none⟩) m c))(ht:lk T.sl t=some (e,sz))
  (hz:lk T.zs e=some z) (hzs:z.cells.size=sz) (hb:lk T.eb e=some jr) (hperm:(⟨g,cur,e⟩::hp').Perm hp) (hown:Row g cap cur sz k xs) (hl:news.length=m*sz) (hnews:lI w0 mu hp a o news) (h1:news.all (·.oneCell')=true) (h63:k+m≤1048576) (h48:(k+m+(k+m)/4+192)*jr≤281474976710656)
  (h:∀ g cap cur,Row g cap cur sz (k+m) (xs++news)→Ops P n w0 mu all rest ((d,.slice (some ⟨g,0,none⟩) (k+m) cap)::l) (⟨g,cur,e⟩::hp') Q):Ops P n w0 mu all (⟨some d,.call { callee:=.builtin .append,args:=#[x,y],argTypes:=#[t,t] },ty,pos,af,none⟩::rest) l hp Q:=by
 intro ac w hk hG;have hput:∀ v,Knows n ((d,v)::l) (ac.put (some d) v):=fun v=>Knows.put (d:=some d) hk (fun t ht=>by cases ht;simpa using hd) v;obtain⟨hu,hsz⟩:=ok.zJ ht;have hbb:=bH'.1 ok.eb _ (jC hb);simp only[beq_iff_eq] at hbb;obtain⟨i,hi,hiz,his,hib⟩:=sD hsz hbb (ok.NH hz);subst his hib;have hG':=hG.perm hperm;have hg:=hG'.here _ (bI8 ..);have hn:∀ j u,news[j]?=some u→w.cell? ((⟨a,o,none⟩:Addr).add j)=some u:=fun j u hj=>by rw[Addr.add_mid];exact hnews w hG j u hj
 refine wpList_plain rfl fun K hK=>?_;by_cases hroom:k+m≤cap
 ·have hfit:k*i.size+news.length≤cur.size:=by rw[hl,hown.size,←bR0];exact bK8 _ hroom
  have hr:=run_append_room (P:=P) w t ty e i hu hi g k cap cur hg ⟨a,o,none⟩ m c news hl hn (fun u hu=>bH'.1 h1 u hu) hroom hfit;unfold Oper.wp execOp;simp only[resolve,invoke,builtin,Sem.run_bind,Sem.run_pure,Result.andThen_ok,bP5,bL9,bO9,hk.ev hx,hk.ev hy,hr];refine hK _ _ (h _ _ _ ⟨?_,hroom,hown.max,?_,?_⟩ _ _ (hput _) (hG'.row _))
  ·rw[bJ9,hown.len,hl,bR0]
  ·have:=hown.size;simp only[bV3,bJ9,bK',bN9,bU6];omega
  ·rw[hown.take,show (k+m)*i.size=(xs++news).length by rw[bJ9,hown.len,hl,bR0]];exact bY2
 ·have holds:∀ j u,xs[j]?=some u→w.cell? ((⟨g,0,none⟩:Addr).add j)=some u:=by
   intro j u hj;rw[Addr.add_mid,cell_of_block hg];rw[←hown.take,bM7] at hj;split at hj
   ·simpa using hj
   ·cases hj
  have hr:=run_append_grow (P:=P) w t ty e i z hu hi hiz ⟨g,0,none⟩ k cap xs hown.len holds ⟨a,o,none⟩ m c news hl hn bB3 bB3 (growslice_fits_wide bB3 h48);unfold Oper.wp execOp;simp only[resolve,invoke,builtin,Sem.run_bind,Sem.run_pure,Result.andThen_ok,bP5,bL9,bO9,hk.ev hx,hk.ev hy,hr];have hG2:=((hG'.sub (hp':=hp') (List.sublist_cons_self _ _)).drawn (w.drawn+1)).alloc (xs.toArray++news.toArray++Builtin.zeroCells z.cells (grownCap w (k+m) cap e-(k+m))) e;have hrow:=CQ (w:=w) (k:=k) (m:=m) (old:=cap) (e:=e) hzs hown.len hl bE';exact hK _ _ (h _ _ _ hrow _ _ (hput _) hG2)
end
end
section
section
variable {P : Program} {T : Tab} {n : Nat} {w0 : World} {mu : List Nat} {l : Fm} {hp : Hp} {dd : Option Tmp} {ty : TypeId} {pos : String} {af : Array Edge} {gg : Option (Nat × Bool)} {Q : Exit → Fm → Hp → Prop} {all : Array Oper} {rest : List Oper}
theorem DD{fs cs:List Operand}{us:List Value}(hf:evs l fs=some vs)(hc:evs l cs=some us):Hy P n w0 mu l hp ⟨dd,.makeFunc (.func f) fs.toArray cs.toArray,ty,pos,af,gg⟩ (.func (.func f) vs.toArray us.toArray):=
 bQ fun a w hk _=>by
  have e1:fs.toArray.map a.eval=vs.toArray:=by rw[←hk.evs hf];simp
  have e2:cs.toArray.map a.eval=us.toArray:=by rw[←hk.evs hc];simp
  simp[execOp,Instr.makeFunc,e1,e2]
theorem Gj      {fs us:List Value}    (hop : o.op = .call { callee := .value x, args := xs.toArray, argTypes := tys })
    (hx : ev l x = some (.func (.func f) fs.toArray us.toArray)) (hf : P.funcs[f]? = some fn) (hname : (fn.name == "runtime.NumGoroutine") = false) (hb : fn.body = some c) (hk : Knows n l a) (hv : evs l xs = some vs) (w : World) : (execOp a.eval o).run P w = .ok (.enter f (fs ++ vs ++ us).toArray) w := by
  have e : xs.toArray.map a.eval = vs.toArray := by rw [← hk.evs hv]; simp
  have h := MuLone.run_callFunc_enter (P := P) hf hname hb (fs ++ vs ++ us).toArray w;unfold execOp;simp only [hop, resolve, hk.ev hx, e];simpa [Deferred.ofValue, invoke] using h
theorem yu{fs us:List Value}(bM:Cal P f)(hx:ev l x=some (.func (.func f) fs.toArray us.toArray))(hv:evs l xs=some vs)
  (hc:∀ w,Good w0 mu hp w→Fn P f (fs++vs++us).toArray w [] (fun u _=>u=v)):Hy P n w0 mu l hp ⟨dd,.call { callee:=.value x,args:=xs.toArray,argTypes:=tys },ty,pos,af,gg⟩ v:=by
 obtain⟨fn,c,hf,hname,hb⟩:=bM;intro a w hk hG K Q' hK;unfold Oper.wp;rw[Gj rfl hx hf hname hb hk hv w];refine Calls.mono (hc w hG) ?_;rintro e w' ⟨u,hn,rfl,hg',rfl⟩;exact hK w' ((hG.trans hg').sub (bR' _ _))
theorem as9(ok:bC P T){t e:Nat}{k':IntKind}(hd:Nat.blt d n=true)(hx:ev l x=some (.int k (m:Int)))(hy:ev l y=some (.int k' (m:Int)))(ht:lk T.sl t=some (e,sz))(hz:lk T.zs e=some z)(hb:lk T.eb e=some jr)
  (h24:m*sz≤16777216) (h48:jr*m≤281474976710656) (h63:m≤9223372036854775807)
  (h:∀ b,Ops P n w0 mu all rest ((d,.slice (some ⟨b,0,none⟩) m m)::l) (⟨b,madeCells z.cells (m*sz),e⟩::hp) Q):Ops P n w0 mu all (⟨some d,.makeSlice t x y,ty,pos,af,none⟩::rest) l hp Q:=by
 intro ac w hk hG;have hput:∀ v,Knows n ((d,v)::l) (ac.put (some d) v):=fun v=>Knows.put (d:=some d) hk (fun t ht=>by cases ht;simpa using hd) v;obtain⟨hu,hsz⟩:=ok.zJ ht;have hbb:=bH'.1 ok.eb _ (jC hb);simp only[beq_iff_eq] at hbb;obtain⟨i,hi,hiz,his,hib⟩:=sD hsz hbb (ok.NH hz);subst his hib;refine wpList_plain rfl fun K hK=>?_;have hr:=run_makeSlice (P:=P) w t e i z hu hi hiz k k' (m:Int) (m:Int) bB3 bB3 (by rw[bN1];exact h24) bD5 bB3;simp only[bN1] at hr;unfold Oper.wp execOp;simp only[Sem.run_bind,Sem.run_pure,Result.andThen_ok,hk.ev hx,hk.ev hy,hr];exact hK _ _ (h _ _ _ (hput _) (hG.alloc _ _))
end
end
section
def Ik(seen:List Nat):Fm→Fm→Prop
 | [],_=>True
 | (k,v)::r,l=>(mem seen k=true∨look l k=some v)∧Ik (k::seen) r l
theorem Ik.look{l' l:Fm}:∀ {seen:List Nat},Ik seen l' l→∀ t v,mem seen t=false→look l' t=some v→look l t=some v:=by
 induction l' with
 | nil=>intro seen _ t v _ h;simp[Proofs.YtellmabgmnbhcaaGreat.look] at h
 | cons p r ih=>
  obtain⟨k,u⟩:=p;intro seen ⟨h1,h2⟩ t v hm hv;simp only[Proofs.YtellmabgmnbhcaaGreat.look] at hv
  cases hb:Nat.beq k t with
  | true=>
   rw[hb] at hv;simp at hv;obtain rfl:=beq_iff.1 hb;rcases h1 with h1 | h1
   ·rw[h1] at hm;cases hm
   ·rw[←hv];exact h1
  | false=>
   rw[hb] at hv;refine ih h2 t v ?_ (by simpa using hv);simp only[mem,hb,cond_false];exact hm
theorem Knows.at1{n:Nat}{l l':Fm}(h:Knows n l a)(hs:Ik [] l' l):Knows n l' a:=
 ⟨h.size,h.defers,fun t v ht=>h.has t v (hs.look t v rfl ht)⟩
def aI:Hp→Hp→Prop
 | [],_=>True
 | e::r,h=>∃ h',(e::h').Perm h∧aI r h'
theorem aI.perm{r:Hp}:∀ {h:Hp},aI r h→∃ x,(r++x).Perm h:=by
 induction r with
 | nil=>intro h _;exact⟨h,.refl _⟩
 | cons e r ih=>
  rintro h ⟨h',hp,hr⟩;obtain⟨x,hx⟩:=ih hr;exact⟨x,(hx.cons e).trans hp⟩
theorem aI.refl:∀ h:Hp,aI h h
 | []=>trivial
 | e::r=>⟨r,.refl _,aI.refl r⟩
theorem aI.right(a b:Hp):aI b (a++b):=by
 induction b generalizing a with
 | nil=>trivial
 | cons e r ih=>exact⟨a++r,bS6.symm,ih a⟩
theorem Good.le{hp hp':Hp}(h:Good w0 mu hp w)(hs:aI hp' hp):Good w0 mu hp' w:=by
 obtain⟨x,hx⟩:=hs.perm;exact (h.perm hx).sub (bY1 _ _)
theorem aI.app{b c:Hp}:∀ (a:Hp),aI b c→aI (a++b) (a++c)
 | [],h=>h
 | e::r,h=>⟨r++c,.refl _,aI.app r h⟩
theorem aI.left:∀ (a b:Hp),aI a (a++b)
 | [],_=>trivial
 | e::r,b=>⟨r++b,.refl _,aI.left r b⟩
theorem aI.skip{x:mO}{b:Hp}:∀ {c:Hp},aI b c→aI b (x::c):=by
 induction b with
 | nil=>intros;trivial
 | cons e r ih=>
  rintro c ⟨h',hp,hr⟩;exact⟨x::h',(List.Perm.swap x e h').trans (hp.cons x),ih hr⟩
section
variable {P : Program} {n : Nat} {w0 : World} {mu : List Nat} {l : Fm} {hp : Hp} {Q : Exit → Fm → Hp → Prop} {all : Array Oper}
theorem VR{σ:Type}(V:σ→Fm)(H:σ→Hp)(I:σ→Prop)(μ:σ→Nat)(s0:σ)(hI:I s0)(hl:Ik [] (V s0++l) l)(hh:aI (H s0) hp)
  (round:∀ s m,μ s=m→I s→St P n w0 mu c (V s++l) (H s) (nx (fun l' hp'=>∃ s',μ s'<m∧I s'∧Ik [] (V s'++l) l'∧aI (H s') hp') Q)):St P n w0 mu (.loop c) l hp Q:=by
 intro a w hk hg;refine wp_loop_ghost (fun m a w=>∃ s,μ s=m∧I s∧Knows n (V s++l) a∧Good w0 mu (H s) w) (μ s0) ⟨s0,rfl,hI,hk.at1 hl,hg.le hh⟩ ?_;rintro m a w ⟨s,rfl,hI,hk,hg⟩;refine Code.wp_mono ?_ (round s _ rfl hI a w hk hg);intro e a' w' hq;obtain⟨l',hp',hk',hg',hq⟩:=hq
 cases e with
 | normal=>
  obtain⟨s',hm,hI',h1,h2⟩:=hq
  exact⟨_,hm,s',rfl,hI',hk'.at1 h1,hg'.le h2⟩
 | exit id=>exact⟨l',hp',hk',hg',hq⟩
 | goto l=>exact⟨l',hp',hk',hg',hq⟩
 | ret=>exact⟨l',hp',hk',hg',hq⟩
 | panic ch=>exact⟨l',hp',hk',hg',hq⟩
 | outgrown=>exact⟨l',hp',hk',hg',hq⟩
theorem sF{σ:Type}{y:Code}(V:σ→Fm)(H:σ→Hp)(R:σ→Prop)(first:St P n w0 mu c l hp (nx (fun l' hp'=>∃ s,R s∧Ik [] (V s++l) l'∧aI (H s) hp') Q))
  (rest:∀ s,R s→St P n w0 mu y (V s++l) (H s) Q):St P n w0 mu c l hp (nx (fun l' hp'=>St P n w0 mu y l' hp' Q) Q):=
 Qi first fun e l hp h=>by
  cases e with
  | normal=>obtain⟨s,h1,h2,h3⟩:=h;exact fun a w hk hg=>rest s h1 a w (hk.at1 h2) (hg.le h3)
  | exit id=>exact h
  | goto l=>exact h
  | ret=>exact h
  | panic ch=>exact h
  | outgrown=>exact h
theorem oD(hp':Hp)(hs:aI hp' hp)(h:St P n w0 mu c l hp' Q):St P n w0 mu c l hp Q:=fun a w hk hg=>h a w hk (hg.le hs)
theorem aS(hp':Hp)(hs:aI hp' hp)(h:Ops P n w0 mu all ops l hp' Q):Ops P n w0 mu all ops l hp Q:=fun a w hk hg=>h a w hk (hg.le hs)
end
theorem Bq{n:Nat}{l:Fm}{hp:Hp}{b:Bool}(h:jd b want=true)(hf:jd b want=false):Hy P n w0 mu l hp o undef:=by rw[h] at hf;cases hf
theorem Il{n:Nat}{l:Fm}{hp:Hp}{c:Bool}(h:c=true)(hf:c=false):Hy P n w0 mu l hp o undef:=by rw[h] at hf;cases hf
section
variable {P : Program} {n : Nat} {w0 : World} {mu : List Nat} {l : Fm} {hp : Hp} {dd : Option Tmp} {ty : TypeId} {pos : String} {af : Array Edge} {gg : Option (Nat × Bool)}
theorem VS{c:Operand}{u:Value}(hc:ev l c=some (.bool false))(hx:ev l x=some u):Hy P n w0 mu l hp ⟨dd,.pick c x (.const (.bool false)),ty,pos,af,gg⟩ (.bool false):=xX (b:=false) rfl hc hx rfl
theorem am7{c:Operand}{u:Value}(hc:ev l c=some (.bool true))(hx:ev l x=some u):Hy P n w0 mu l hp ⟨dd,.pick c (.const (.bool true)) x,ty,pos,af,gg⟩ (.bool true):=xX (b:=true) rfl hc rfl hx
end
section
variable {P : Program} {n : Nat} {w0 : World} {mu : List Nat} {l : Fm} {hp : Hp} {Q : Exit → Fm → Hp → Prop} {all : Array Oper} {rest : List Oper}
theorem VT(hd:Nat.blt d n=true)(hj:(all[j]?).bind (·.dst)=some dj)(hb:look l dj=some undef)(hdj:Nat.blt dj n=true)
  (h:Ops P n w0 mu all rest ((d,undef)::l) hp Q):Ops P n w0 mu all (⟨some d,op,ty,pos,af,some (j,want)⟩::rest) l hp Q:=Dy (c0:=false) (b:=false) (v:=undef) hd hj hb hdj (fun h=>by cases h) h
theorem aH5{iv:Fm}(hj:(all[j]?).bind (·.dst)=some dj)
  (hb:look (aT ds iv af.toList++l) dj=some undef) (hdj:Nat.blt dj n=true)
  (h:DH P n w0 mu all ds tail l hp Q (i+1) rest ((i,undef)::iv)):DH P n w0 mu all ds tail l hp Q i (⟨some d,op,ty,pos,af,some (j,want)⟩::rest) iv:=al4 (c0:=false) (b:=false) (v:=undef) hj hb hdj (fun h=>by cases h) h
end
def dH(P:Program)(n:Nat)(w0:World)(mu:List Nat)(all:Array Oper)(ds:List (Nat×Nat))(tail:List Oper)(l:Fm)(hp:Hp)(Q:Exit→Fm→Hp→Prop)(i:Nat)(ops:List Oper)(iv fr:Fm):Prop:=bV ds iv=fr→DH P n w0 mu all ds tail l hp Q i ops iv
section
variable {P : Program} {n : Nat} {w0 : World} {mu : List Nat} {l : Fm} {hp : Hp} {Q : Exit → Fm → Hp → Prop} {all : Array Oper} {tail rest : List Oper} {ds : List (Nat × Nat)} {i d : Nat} {iv fr : Fm} {op : Op} {ty : TypeId} {pos : String} {af : Array Edge} {v : Value}
theorem lQ(hlk:lk ds i=some d)(h:bV ds iv=fr):bV ds ((i,v)::iv)=(d,v)::fr:=by simp only[bV,hlk,h]
theorem Gl(h:dH P n w0 mu all ds tail l hp Q 0 ops [] []):DH P n w0 mu all ds tail l hp Q 0 ops []:=h rfl
theorem Qu(h:Ops P n w0 mu all tail (fr++l) hp Q):dH P n w0 mu all ds tail l hp Q i [] iv fr:=fun e=>by subst e;exact h
theorem ZT(hlk:lk ds i=some d)(hy:Hy P n w0 mu (aT ds iv af.toList++l) hp ⟨some d,op,ty,pos,af,none⟩ v)
  (h:dH P n w0 mu all ds tail l hp Q (i+1) rest ((i,v)::iv) ((d,v)::fr)):dH P n w0 mu all ds tail l hp Q i (⟨some d,op,ty,pos,af,none⟩::rest) iv fr:=fun e=>dh1 hy (h (lQ hlk e))
theorem VU{b:Bool}(hlk:lk ds i=some d)(hj:(all[j]?).bind (·.dst)=some dj)
  (hb:look (aT ds iv af.toList++l) dj=some (.bool b)) (hdj:Nat.blt dj n=true) (hy:jd b want=true→Hy P n w0 mu (aT ds iv af.toList++l) hp ⟨some d,op,ty,pos,af,some (j,want)⟩ v)
  (h:dH P n w0 mu all ds tail l hp Q (i+1) rest ((i,gv (jd b want) v)::iv) ((d,gv (jd b want) v)::fr)):dH P n w0 mu all ds tail l hp Q i (⟨some d,op,ty,pos,af,some (j,want)⟩::rest) iv fr:=fun e=>aT4 hj hb hdj hy (h (lQ hlk e))
theorem VV{b:Bool}(hlk:lk ds i=some d)(hj:(all[j]?).bind (·.dst)=some dj)
  (hb:look (aT ds iv af.toList++l) dj=some (gv c0 (.bool b))) (hdj:Nat.blt dj n=true) (hy:c0=true→jd b want=true→Hy P n w0 mu (aT ds iv af.toList++l) hp ⟨some d,op,ty,pos,af,some (j,want)⟩ v)
  (h:dH P n w0 mu all ds tail l hp Q (i+1) rest ((i,gv (c0&&jd b want) v)::iv) ((d,gv (c0&&jd b want) v)::fr)):dH P n w0 mu all ds tail l hp Q i (⟨some d,op,ty,pos,af,some (j,want)⟩::rest) iv fr:=fun e=>al4 hj hb hdj hy (h (lQ hlk e))
theorem at6(hlk:lk ds i=some d)(hj:(all[j]?).bind (·.dst)=some dj)
  (hb:look (aT ds iv af.toList++l) dj=some undef) (hdj:Nat.blt dj n=true)
  (h:dH P n w0 mu all ds tail l hp Q (i+1) rest ((i,undef)::iv) ((d,undef)::fr)):dH P n w0 mu all ds tail l hp Q i (⟨some d,op,ty,pos,af,some (j,want)⟩::rest) iv fr:=fun e=>aH5 hj hb hdj (h (lQ hlk e))
end
def Acc(e:TypeId)(sz:Nat)(v:Value)(ha:Hp)(xs:List (List Value)):Prop:=
 (∀ c∈xs,c.length=sz∧c.all (·.oneCell')=true)∧((xs=[]∧v=.slice none 0 0∧ha=[])∨(xs≠[]∧∃ g cap cur,v=.slice (some ⟨g,0,none⟩) xs.length cap∧ha=[⟨g,cur,e⟩]∧Row g cap cur sz xs.length xs.flatten))
theorem Acc.nil(e:TypeId)(sz:Nat):Acc e sz (.slice none 0 0) [] []:=⟨by simp,.inl ⟨rfl,rfl,rfl⟩⟩
section
variable {P : Program} {T : Tab} {n : Nat} {w0 : World} {mu : List Nat} {l : Fm} {hp : Hp} {ty : TypeId} {pos : String} {af : Array Edge} {Q : Exit → Fm → Hp → Prop} {all : Array Oper} {rest : List Oper}
theorem Gm(ok:bC P T){t e cc a:Nat}{c:List Value}{ha hp':Hp}{xs:List (List Value)}(hA:Acc e sz v ha xs)(hd:Nat.blt d n=true)(hx:ev l x=some v)(hy:ev l y=some (.slice (some ⟨a,0,none⟩) 1 cc))(ht:lk T.sl t=some (e,sz))
  (hz:lk T.zs e=some z) (hzs:z.cells.size=sz) (hb:lk T.eb e=some jr) (hby:Nat.ble jr 4096=true) (hperm:(ha++hp').Perm hp) (hl:c.length=sz) (hnews:lI w0 mu hp a 0 c) (h1:c.all (·.oneCell')=true) (h63:xs.length<1000000)
  (h:∀ v' ha',Acc e sz v' ha' (xs++[c])→Ops P n w0 mu all rest ((d,v')::l) (ha'++hp') Q):Ops P n w0 mu all (⟨some d,.call { callee:=.builtin .append,args:=#[x,y],argTypes:=#[t,t] },ty,pos,af,none⟩::rest) l hp Q:=by
 have wO:jr≤4096:=bM2 hby
 have hall:∀ c'∈xs++[c],c'.length=sz∧c'.all (·.oneCell')=true:=by
  intro c' hc';rcases bK4.1 hc' with hc' | hc'
  ·exact hA.1 c' hc'
  ·obtain rfl:=bN3.1 hc';exact⟨hl,h1⟩
 rcases hA.2 with⟨rfl,rfl,rfl⟩ | ⟨hne,g,cap,cur,rfl,rfl,hrow⟩
 ·refine Gi ok hd hx hy ht hz hzs hb bB3 bF1 hnews bB3 bB3 fun g cap cur hr=>?_;have:=h (.slice (some ⟨g,0,none⟩) 1 cap) [⟨g,cur,e⟩] ⟨hall,.inr ⟨by simp,g,cap,cur,rfl,rfl,by simpa using hr⟩⟩;refine cZ _ ?_ this;exact (hperm.cons _:(⟨g,cur,e⟩::([]++hp')).Perm (⟨g,cur,e⟩::hp))
 ·refine vS ok hd hx hy ht hz hzs hb hperm hrow bF1 hnews h1 bB3 ?_ fun g cap cur hr=>?_
  ·have h2:(xs.length+1+(xs.length+1)/4+192)≤2000000:=by omega
   calc _≤2000000*jr:=bK8 _ h2
    _≤2000000*4096:=bS' _ wO
    _≤_:=by decide
  ·have:=h (.slice (some ⟨g,0,none⟩) (xs.length+1) cap) [⟨g,cur,e⟩] ⟨hall,.inr ⟨by simp,g,cap,cur,by simp,rfl,by simpa using hr⟩⟩;exact this
end
theorem lS{xs:List (List Value)}:∀ (h:∀ c∈xs,c.length=sz) {i:Nat} {c:List Value},xs[i]?=some c→(xs.flatten.drop (i*sz)).take sz=c:=by
 induction xs with
 | nil=>intro _ i c h;simp at h
 | cons x r ih=>
  intro h i c hc;have hx:=h x (bI8 ..)
  cases i with
  | zero=>
   simp only[bS7,bK0] at hc;subst hc;rw[bR6,bL',bU1,←hx]
   exact bY2
  | succ i=>
   have:=ih (fun c hc=>h c (bI5 _ hc)) (i:=i) (c:=c) (by simpa using hc);rw[bU1,bN6,Nat.add_comm,←bQ2,←hx,List.drop_left];rw[hx];exact this
theorem Acc.rows{hp ha:Hp}{e:Nat}{xs:List (List Value)}(hA:Acc e sz v ha xs)(hG:Good w0 mu hp w)(hm:∀ b∈ha,b∈hp):
  ∃ p cap,v=.slice p xs.length cap∧(xs≠[]→∃ b off,p=some ⟨b,off,none⟩∧∀ i c,xs[i]?=some c→w.rangeAt b (off+i*sz) c):=by
 rcases hA.2 with⟨rfl,rfl,rfl⟩ | ⟨hne,g,cap,cur,rfl,rfl,hrow⟩
 ·exact⟨none,0,rfl,fun h=>absurd rfl h⟩
 ·refine⟨_,_,rfl,fun _=>⟨g,0,rfl,fun i c hc j u hj=>?_⟩⟩;have hb:=hG.here _ (hm _ (bN3.2 rfl));rw[cell_of_block hb];have hcl:=(hA.1 c (bV6 hc)).1;have hi:i<xs.length:=(bJ8.1 hc).1;have hjl:j<sz:=by rw[←hcl];exact (bJ8.1 hj).1
  have hf:=lS (fun c hc=>(hA.1 c hc).1) hc;rw[←hrow.take] at hf
  have hle:i*sz+j<xs.length*sz:=by
   calc i*sz+j<i*sz+sz:=by omega
    _=(i+1)*sz:=by rw[bN6]
    _≤_:=bK8 _ hi
  rw[←hf,bM7,if_pos hjl,bP2,bM7,if_pos hle] at hj;rw[bK2];simpa using hj
theorem Acc.open{e:Nat}{ha:Hp}{xs:List (List Value)}(hA:Acc e sz v ha xs)(hne:xs≠[]):∃ g cap cur,v=.slice (some ⟨g,0,none⟩) xs.length cap∧ha=[⟨g,cur,e⟩]∧∀ i c,xs[i]?=some c→(cur.toList.drop (i*sz)).take sz=c:=by
 rcases hA.2 with⟨h,_⟩ | ⟨_,g,cap,cur,rfl,rfl,hrow⟩
 ·exact absurd h hne
 ·refine⟨g,cap,cur,rfl,rfl,fun i c hc=>?_⟩;have hf:=lS (fun c hc=>(hA.1 c hc).1) hc;rw[←hrow.take] at hf;have hi:i<xs.length:=(bJ8.1 hc).1;have hle:i*sz+sz≤xs.length*sz:=by rw[←bN6];exact bK8 _ hi
  rw[←hf,List.drop_take,bX0]
  congr 1
  omega
theorem xw{l:List Value}{o n k:Nat}{c:List Value}{u:Value}(h:(l.drop o).take n=c)(hu:c[k]?=some u):nth l (o+k)=some u:=by
 rw[mZ];rw[←h,bM7] at hu;split at hu
 ·rw[bP2] at hu;simpa using hu
 ·cases hu
end
section
abbrev Ch:=Nat→Value×Hp
abbrev RT:=Value→Hp→Prop
inductive Kd where
 | s (v:Value)
 | e (R:RT)
 | d
def BV(P:Program)(n:Nat)(w0:World)(mu:List Nat)(all:Array Oper)(lf:Fm)(hp:Hp)(o:Oper)(R:RT):Prop:=
 (∀ a,Knows n lf a→Region.wanted o (yielded all a.tmps)=true)∧∀ a w hx,Knows n lf a→Good w0 mu (hx++hp) w→∀ (K:Act→World→Prop) (Q:Exit→Act→World→Prop),(∀ v hn w',R v hn→Good w0 mu (hn++(hx++hp)) w'→K (a.put o.dst v) w')→o.wp P a w K Q
def Fj(P:Program)(n:Nat)(w0:World)(mu:List Nat)(lf:Fm)(hp:Hp)(o:Oper)(v:Value):Prop:=
 o.guard=none∧∀ a w,Knows n lf a→Good w0 mu hp w→(execOp a.eval o).run P w=.ok (.value v) w
def FC:Kd→Bool
 | .e _=>true
 | _=>false
def Valid(kd:Nat→Kd)(k:Nat)(c:Ch):Prop:=∀ i,i<k→∀ R,kd i=.e R→R (c i).1 (c i).2
def nO(kd:Nat→Kd)(c:Ch)(listed:Array Bool)(i:Nat):Hp:=bif FC (kd i)&&listed.getD i false then (c i).2 else []
def mP(kd:Nat→Kd)(c:Ch)(listed:Array Bool):Nat→Hp
 | 0=>[]
 | i+1=>nO kd c listed i++mP kd c listed i
theorem J8{kd:Nat→Kd}{c:Ch}{x:Value×Hp}(h:i≠j):nO kd (fun t=>if t=i then x else c t) (listed.setIfInBounds i true) j=nO kd c listed j:=by
 unfold nO;rw[getD_set_ne false h];simp[bP0 h]
theorem ZU{kd:Nat→Kd}{c:Ch}{x:Value×Hp}:∀ k,k≤i→mP kd (fun t=>if t=i then x else c t) (listed.setIfInBounds i true) k=mP kd c listed k:=by
 intro k
 induction k with
 | zero=>intro _;rfl
 | succ k ih=>intro h;simp only[mP];rw[ih bB3,J8 bB3]
theorem J9{kd:Nat→Kd}{c:Ch}{hn:Hp}(he:FC (kd i)=true)(hl:listed.getD i true=false)(hs:i<listed.size):∀ k,i<k→(hn++mP kd c listed k).Perm (mP kd (fun t=>if t=i then (v,hn) else c t) (listed.setIfInBounds i true) k):=by
 intro k
 induction k with
 | zero=>intro h;omega
 | succ k ih=>
  intro h;simp only[mP];by_cases hik:i=k
  ·subst hik;rw[ZU i (bI9 _)]
   have e1:nO kd c listed i=[]:=by
    unfold nO;rw[show listed.getD i false=false from getD_both hl];simp
   have e2:nO kd (fun t=>if t=i then (v,hn) else c t) (listed.setIfInBounds i true) i=hn:=by
    unfold nO;simp[he,hs]
   rw[e1,e2];exact .refl _
  ·rw[J8 bB3];refine List.Perm.trans ?_ ((ih bB3).append_left _);rw[←bK7,←bK7];exact bY5 _ bJ5
theorem vT{kd:Nat→Kd}{c:Ch}(he:FC (kd i)=false):∀ k,mP kd c (listed.setIfInBounds i true) k=mP kd c listed k:=by
 intro k
 induction k with
 | zero=>rfl
 | succ k ih=>
  simp only[mP];rw[ih]
  congr 1
  by_cases h:i=k
  ·subst h;unfold nO;rw[he];rfl
  ·unfold nO;rw[getD_set_ne false h]
structure Io(n:Nat)(w0:World)(mu:List Nat)(all:Array Oper)(l:Fm)(hp:Hp)(kd:Nat→Kd)(val:Ch→Nat→Value)(k:Nat)(c:Ch)(listed:Array Bool)(a:Act)(w:World):Prop where
 size:a.tmps.size=n
 defers:a.defers=[]
 has:∀ t v,look l t=some v→a.tmps.getD t undef=v
 valid:Valid kd k c
 good:Good w0 mu (mP kd c listed k++hp) w
 done:∀ i,i<k→listed.getD i false=true→∀ c',Valid kd k c'→(∀ j,j<k→listed.getD j false=true→FC (kd j)=true→c' j=c j)→∀ d,bF all i=some d→a.tmps.getD d undef=val c' i
section
variable {P : Program} {n : Nat} {w0 : World} {mu : List Nat} {l : Fm} {hp : Hp} {Q : Exit → Fm → Hp → Prop} {all : Array Oper} {kd : Nat → Kd} {val : Ch → Nat → Value} {k : Nat}
theorem Sm(hd:zQ all k n=true)(hj:j<k):∃ d,bF all j=some d∧d<n:=by
 simp only[zQ,bH6,decide_eq_true_eq] at hd;have:=bH'.1 hd.1 (bF all j) (bI7.2 ⟨j,bJ1.2 hj,rfl⟩)
 cases hdd:bF all j with
 | none=>rw[hdd] at this;cases this
 | some d=>rw[hdd] at this;exact⟨d,rfl,by simpa using this⟩
theorem ZV(hd:zQ all k n=true)(hi:i<k)(hj:j<k)(h1:bF all i=some d)(h2:bF all j=some d):i=j:=by
 simp only[zQ,bH6,decide_eq_true_eq] at hd;have hnd:=hd.2;have g1:(dstsOf all k)[j]?=some (some d):=by simp[dstsOf,hj,h2]
 have g2:(dstsOf all k)[i]?=some (some d):=by simp[dstsOf,hi,h1]
 have e1:=(bJ8.1 g1).2;have e2:=(bJ8.1 g2).2;exact ((List.getElem_inj hnd (h₀:=(bJ8.1 g2).1) (h₁:=(bJ8.1 g1).1)).1 (by rw[e1,e2]))
theorem DF:∀ (L:List (Option Nat)),bW l L=true→some d∈L→look l d=none:=by
 intro L
 induction L with
 | nil=>intro _ h;cases h
 | cons x r ih=>
  intro hL hmem
  cases x with
  | none=>
   rcases bJ3.1 hmem with h | h
   ·cases h
   ·exact ih hL h
  | some y=>
   simp only[bW,bH6,bX'] at hL;rcases bJ3.1 hmem with h | h
   ·cases h;exact hL.1
   ·exact ih hL.2 h
theorem o7{c c2:Ch}{w':World}(hm:Io n w0 mu all l hp kd val k c listed a w)(ho:all[i]?=some o)(hi:i<k)(hun:listed.getD i true=false)(hs:i<listed.size)
  (hd:zQ all k n=true) (hf:bW l (dstsOf all k)=true) (hv2:Valid kd k c2) (hsame:∀ j,j≠i→c2 j=c j) (hG:Good w0 mu (mP kd c2 (listed.setIfInBounds i true) k++hp) w')
  (hval:∀ c',Valid kd k c'→(∀ j,j<k→(listed.setIfInBounds i true).getD j false=true→FC (kd j)=true→c' j=c2 j)→val c' i=v):Io n w0 mu all l hp kd val k c2 (listed.setIfInBounds i true) (a.put o.dst v) w':=by
 obtain⟨d,hdo,hdn⟩:=Sm hd hi;have hod:o.dst=some d:=by simpa [bF,ho] using hdo
 have hnew:look l d=none:=DF _ hf (bI7.2 ⟨i,bJ1.2 hi,hdo⟩)
 have hput:∀ t,t≠d→(a.put o.dst v).tmps.getD t undef=a.tmps.getD t undef:=by
  intro t ht;rw[hod];simp[Act.put,bQ0 (bP0 ht)]
 refine⟨by rw[hod];simpa [Act.put] using hm.size,by rw[hod];exact hm.defers,?_,hv2,hG,?_⟩
 ·intro t u hu;rw[hput t (fun e=>by subst e;rw[hnew] at hu;cases hu)];exact hm.has t u hu
 ·intro j hj hl c' hc' hag d' hd';by_cases hji:j=i
  ·subst hji;rw[hdo] at hd';cases hd';rw[hval c' hc' hag,hod];simp[Act.put,hm.size,hdn]
  ·have hne:d'≠d:=fun e=>by subst e;exact hji (ZV hd hj hi hd' hdo)
   rw[hput d' hne];refine hm.done j hj (by rwa [getD_set_ne false (bP0 hji)] at hl) c' hc' (fun t ht hlt het=>?_) d' hd';have hti:t≠i:=by rintro rfl;rw[getD_both hun] at hlt;cases hlt
   rw[hag t ht (getD_set_true hlt) het,hsame t hti]
theorem ja(hds:∀ k d,lk ds k=some d→bF all k=some d){dw:Fm}{c c':Ch}{i:Nat}{o:Oper}(hm:Io n w0 mu all l hp kd val k c listed a w)(hc':Valid kd k c')(hag:∀ j,j<k→listed.getD j false=true→FC (kd j)=true→c' j=c j)
  (hiv:∀ j u,look dw j=some u→j<k∧val c' j=u) (hl:∀ e∈o.after,Region.binds .any e=true→listed.getD e.on false=true):Knows n (aT ds dw o.after.toList++l) a:=by
 refine⟨hm.size,hm.defers,fun t v h=>?_⟩;rcases fV h with h | ⟨_,h⟩
 ·obtain⟨e,he,h1,h2,h3⟩:=zS (iY h);obtain⟨h4,h5⟩:=hiv _ _ h3;rw[hm.done e.on h4 (hl e (by simpa using he) h1) c' hc' hag t (hds _ _ h2)];exact h5
 ·exact hm.has t v h
theorem Sr(hds:∀ k d,lk ds k=some d→bF all k=some d){g:Nat}{Q':Exit→Act→World→Prop}(hk:k≤all.size)(hd:zQ all k n=true)(hf:bW l (dstsOf all k)=true)(hback:pM all=true)
  (hS:∀ i o v,i<k→all[i]?=some o→kd i=.s v→(∀ c,val c i=v)∧∃ dw,(∀ j u,look dw j=some u→j<k∧∀ c,val c j=u)∧∀ hx,wU P n w0 mu all (aT ds dw o.after.toList++l) (hx++hp) o v)
  (hE:∀ i o R,i<k→all[i]?=some o→kd i=.e R→(∀ c,val c i=(c i).1)∧∃ dw,(∀ j u,look dw j=some u→j<k∧∀ c,val c j=u)∧BV P n w0 mu all (aT ds dw o.after.toList++l) hp o R)
  (hD:∀ c,Valid kd k c→∀ i o,i<k→all[i]?=some o→kd i=.d→∃ dw,(∀ j u,look dw j=some u→j<k∧val c j=u)∧Fj P n w0 mu (aT ds dw o.after.toList++l) hp o (val c i))
  (htail:∀ c listed,HeadInv .any all k listed→(∀ i,i<k→listed.getD i true=true)→∀ a w,Io n w0 mu all l hp kd val k c listed a w→wpAny P .any all Q' g listed a w)
  (oC:∀ listed,HeadInv .any all k listed→∀ i,i<k→listed.getD i true=false→∀ t,k≤t→t∉Region.ready .any all listed):
  ∀ f c listed a w,leftOf k listed=f→HeadInv .any all k listed→Io n w0 mu all l hp kd val k c listed a w→wpAny P .any all Q' (f+g) listed a w:=by
 intro f
 induction f with
 | zero=>
  intro c listed a w hlf inv hm;rw[bK2];refine htail c listed inv (fun i hi=>?_) a w hm
  cases hc:listed.getD i true with
  | true=>rfl
  | false=>
   exfalso;have:i∈(List.range k).filter fun i=>!listed.getD i true:=bN'.2 ⟨bJ1.2 hi,by simp only[hc,bL1]⟩;have h2:=bQ6 this;unfold leftOf at hlf
   omega
 | succ f ih=>
  intro c listed a w hlf inv hm;rw[show f+1+g=(f+g)+1 by omega]
  have hex:∃ i,i<k∧listed.getD i true=false:=by
   have h2:0<leftOf k listed:=by omega
   obtain⟨i,hi⟩:=bS5 h2;rw[bN'] at hi;exact⟨i,bJ1.1 hi.1,by simpa using hi.2⟩
  obtain⟨i0,su,hi0⟩:=hex;refine⟨fun hnil=>?_,fun i hi=>?_⟩
  ·exfalso;obtain⟨i,⟨hik,hil⟩,hmin⟩:=exists_least (p:=fun i=>i<k∧listed.getD i true=false) ⟨i0,su,hi0⟩
   have hr:i∈Region.ready .any all listed:=by
    rw[mem_ready];have hs:i<all.size:=by omega
    refine⟨hil,all[i],by simp[hs],fun e he hb=>?_⟩;have hb2:=bH'.1 hback i (bJ1.2 hs);simp only[bO3 hs] at hb2;have hb3:=(bN2.1 hb2) e he;simp only[hb,bK1,bL3,bX4] at hb3
    cases hc:listed.getD e.on false with
    | true=>rfl
    | false=>
     have h5:=hmin e.on ⟨by omega,getD_in bC4 hc⟩;omega
   rw[hnil] at hr;cases hr
  ·have hik:i<k:=by
    rcases bQ3 i k with h | h
    ·exact h
    ·exact absurd hi (oC listed inv i0 su hi0 i h)
   obtain⟨hun,o,ho,hall⟩:=mem_ready.1 hi;have hsz:i<listed.size:=by rw[inv.size];omega
   have hself:∀ j,j<k→listed.getD j false=true→FC (kd j)=true→c j=c j:=fun _ _ _ _=>rfl
   have hgo:∀ c2 a' w',Io n w0 mu all l hp kd val k c2 (listed.setIfInBounds i true) a' w'→wpAny P .any all Q' (f+g) (listed.setIfInBounds i true) a' w':=fun c2 a' w' h=>
    ih c2 _ _ _ bE5 (inv.set hi hik) h
   have Ko:Good w0 mu hp w:=hm.good.sub (bR' _ _);unfold wpOp;simp only[ho]
   cases hkd:kd i with
   | s v=>
    obtain⟨lC,dw,hiv,hy⟩:=hS i o v hik ho hkd;have hkn:=ja (i:=i) hds hm hm.valid hself (fun j u hu=>⟨(hiv j u hu).1,(hiv j u hu).2 c⟩) hall;have hE0:FC (kd i)=false:=by rw[hkd];rfl
    have hnext:∀ w',Good w0 mu (mP kd c listed k++hp) w'→wpAny P .any all Q' (f+g) (listed.setIfInBounds i true) (a.put o.dst v) w':=fun w' hG'=>
     hgo c _ _ (o7 hm ho hik hun hsz hd hf hm.valid (fun _ _=>rfl) (by rw[vT hE0];exact hG') (fun c' _ _=>lC c'))
    have h3:=hy (mP kd c listed k);unfold wU at h3
    cases hg:o.guard with
    | none=>
     rw[hg] at h3;rw[if_pos bD2]
     exact .inl (h3 a w hkn hm.good _ _ hnext)
    | some jw=>
     obtain⟨j,want⟩:=jw;rw[hg] at h3;obtain⟨dj,c0,b,u,hj,hb,hdj,hy,hvv⟩:=h3;have hw:=jL hkn hg hj hb hdj
     cases hc:(c0&&jd b want) with
     | true=>
      rw[hc] at hw hvv;rw[if_pos hw];rw[bH6] at hc;rw[show v=u from hvv] at hnext
      exact .inl (hy hc.1 hc.2 a w hkn hm.good _ _ hnext)
     | false=>
      rw[hc] at hw hvv;rw[if_neg bF'];rw[show v=undef from hvv] at hnext
      exact hnext w hm.good
   | e R=>
    obtain⟨lC,dw,hiv,hg,hy⟩:=hE i o R hik ho hkd;have hkn:=ja (i:=i) hds hm hm.valid hself (fun j u hu=>⟨(hiv j u hu).1,(hiv j u hu).2 c⟩) hall;rw[if_pos (hg _ hkn)];refine .inl (hy a w _ hkn hm.good _ _ fun v hn w' hR hG'=>?_);refine hgo (fun t=>if t=i then (v,hn) else c t) _ _ (o7 hm ho hik hun hsz hd hf ?_ (fun j hj=>by simp[hj]) ?_ ?_)
    ·intro j hj R' hR';by_cases hji:j=i
     ·subst hji;rw[hkd] at hR';cases hR';simpa using hR
     ·simp only[hji,if_false];exact hm.valid j hj R' hR'
    ·refine hG'.perm ?_;rw[←bK7];exact (J9 (by rw[hkd];rfl) hun hsz k hik).symm.append_right _
    ·intro c' hc' hag;rw[lC c',hag i hik (by simp[hsz]) (by rw[hkd];rfl)]
     simp
   | d=>
    obtain⟨dw,hiv,hg,hy⟩:=hD c hm.valid i o hik ho hkd;have hE0:FC (kd i)=false:=by rw[hkd];rfl
    have hkn:=ja (i:=i) hds hm hm.valid hself hiv hall;have hrun:=hy a w hkn Ko;rw[if_pos bD2];refine .inl ?_;unfold Oper.wp;rw[hrun];refine hgo c _ _ (o7 hm ho hik hun hsz hd hf hm.valid (fun _ _=>rfl) (by rw[vT hE0];exact hm.good) (fun c' hc' hag=>?_));obtain⟨rq,N7,hg2,hy2⟩:=hD c' hc' i o hik ho hkd;have hag':∀ j,j<k→listed.getD j false=true→FC (kd j)=true→c' j=c j:=fun j hj hl he=>hag j hj (getD_set_true hl) he;have hrun2:=hy2 a w (ja (i:=i) hds hm hc' hag' N7 hall) Ko;rw[hrun] at hrun2;simp only[Result.ok.injEq,Next.value.injEq,and_true] at hrun2;exact hrun2.symm
def Fp(c:Ch):List (Nat×RT)→Fm
 | []=>[]
 | p::r=>(p.1,(c p.1).1)::Fp c r
def Kq(c:Ch):List (Nat×RT)→Prop
 | []=>True
 | p::r=>p.2 (c p.1).1 (c p.1).2∧Kq c r
def JQ(E:List Nat)(c:Ch):Nat→Hp
 | 0=>[]
 | i+1=>(bif mem E i then (c i).2 else [])++JQ E c i
def jg(P:Program)(n:Nat)(w0:World)(mu:List Nat)(all:Array Oper)(ds:List (Nat×Nat))(l:Fm)(hp:Hp)(X:Fm→Prop):List Nat→Fm→Prop
 | [],iv=>X iv
 | i::S,iv=>∃ o v,all[i]?=some o∧(∀ hx,wU P n w0 mu all (aT ds iv o.after.toList++l) (hx++hp) o v)∧jg P n w0 mu all ds l hp X S ((i,v)::iv)
def iP(P:Program)(n:Nat)(w0:World)(mu:List Nat)(all:Array Oper)(ds:List (Nat×Nat))(l:Fm)(hp:Hp)(iv:Fm)(X:List (Nat×RT)→Prop):List Nat→List (Nat×RT)→Prop
 | [],Rs=>X Rs
 | i::E,Rs=>∃ o R,all[i]?=some o∧BV P n w0 mu all (aT ds iv o.after.toList++l) hp o R∧(∃ v hn,R v hn)∧iP P n w0 mu all ds l hp iv X E ((i,R)::Rs)
def gQ(P:Program)(n:Nat)(w0:World)(mu:List Nat)(all:Array Oper)(ds:List (Nat×Nat))(l:Fm)(hp:Hp)(Y:Fm→Prop):List Nat→Fm→Prop
 | [],iv=>Y iv
 | i::D,iv=>∃ o v,all[i]?=some o∧Fj P n w0 mu (aT ds iv o.after.toList++l) hp o v∧gQ P n w0 mu all ds l hp Y D ((i,v)::iv)
theorem jD(l:Fm)(i:Nat):look l i=lk l i:=by
 induction l with
 | nil=>rfl
 | cons p r ih=>obtain⟨k,v⟩:=p;simp only[look,lk,ih]
theorem bZ{α:Type}{l:List (Nat×α)}{k:Nat}{v:α}:lk ((k,v)::l) i=if k=i then some v else lk l i:=by
 simp only[lk];by_cases h:k=i
 ·rw[beq_iff.2 h,if_pos h];rfl
 ·have:Nat.beq k i=false:=by
   cases hb:Nat.beq k i
   ·rfl
   ·exact absurd (beq_iff.1 hb) h
  rw[this,if_neg h];rfl
def qP(iv rq:Fm):Prop:=∀ j u,lk iv j=some u→lk rq j=some u
theorem ni{iv:Fm}(h:lk iv i=none):qP iv ((i,v)::iv):=by
 intro j u hj;rw[bZ];by_cases hij:i=j
 ·subst hij;rw[h] at hj;cases hj
 ·rw[if_neg hij];exact hj
def Uq(iv:Fm):Prop:=∀ i v,(i,v)∈iv→lk iv i=some v
theorem Ip{iv:Fm}(h:lk iv i=none)(hu:Uq iv):Uq ((i,v)::iv):=by
 intro j u hj;rw[bZ];rcases bJ3.1 hj with hj | hj
 ·cases hj;rw[if_pos rfl]
 ·by_cases hij:i=j
  ·subst hij;have:=hu _ _ hj;rw[h] at this;cases this
  ·rw[if_neg hij];exact hu _ _ hj
section
variable {ds : List (Nat × Nat)}
theorem Qv{X:Fm→Prop}:∀ (S:List Nat) (iv:Fm),S.Nodup→(∀ i∈S,lk iv i=none)→Uq iv→jg P n w0 mu all ds l hp X S iv →
  (∀ i v,lk iv i=some v→∃ o dw,all[i]?=some o∧qP dw iv∧∀ hx,wU P n w0 mu all (aT ds dw o.after.toList++l) (hx++hp) o v) →
  ∃ aX,X aX∧Uq aX∧(∀ i,(∃ v,lk aX i=some v)↔i∈S∨∃ v,lk iv i=some v)∧∀ i v,lk aX i=some v→∃ o dw,all[i]?=some o∧qP dw aX∧∀ hx,wU P n w0 mu all (aT ds dw o.after.toList++l) (hx++hp) o v:=by
 intro S
 induction S with
 | nil=>intro iv _ _ hu h hs;exact⟨iv,h,hu,fun i=>by simp,hs⟩
 | cons i S ih=>
  rintro iv hnd hno hu ⟨o,v,ho,hy,h⟩ hs;rw[bO4] at hnd;have hi:=hno i (bI8 ..)
  obtain⟨aX,hX,hu2,hk,hs2⟩:=ih ((i,v)::iv) hnd.2 (fun j hj=>by rw[bZ,if_neg bE9];exact hno j (bI5 _ hj)) (Ip hi hu) h (fun j u hj=>by
   rw[bZ] at hj;by_cases hij:i=j
   ·subst hij;rw[if_pos rfl] at hj;cases hj;exact⟨o,iv,ho,ni hi,hy⟩
   ·rw[if_neg hij] at hj;obtain⟨o',dw,h1,h2,h3⟩:=hs j u hj
    exact⟨o',dw,h1,fun a b hab=>ni hi a b (h2 a b hab),h3⟩)
  refine⟨aX,hX,hu2,fun j=>?_,hs2⟩;rw[hk,bJ3,bZ];by_cases hij:i=j
  ·subst hij;simp
  ·rw[if_neg hij];simp[bP0 hij]
theorem Qw{iv:Fm}{X:List (Nat×RT)→Prop}:∀ (E:List Nat) (Rs:List (Nat×RT)),E.Nodup→(∀ i∈E,lk Rs i=none)→iP P n w0 mu all ds l hp iv X E Rs →
  (∀ i R,(i,R)∈Rs→lk Rs i=some R∧∃ o,all[i]?=some o∧BV P n w0 mu all (aT ds iv o.after.toList++l) hp o R∧∃ v hn,R v hn) →
  ∃ RE,X RE∧(∀ i,(∃ R,lk RE i=some R)↔i∈E∨∃ R,lk Rs i=some R)∧∀ i R,(i,R)∈RE→lk RE i=some R∧∃ o,all[i]?=some o∧BV P n w0 mu all (aT ds iv o.after.toList++l) hp o R∧∃ v hn,R v hn:=by
 intro E
 induction E with
 | nil=>intro Rs _ _ h hs;exact⟨Rs,h,fun i=>by simp,hs⟩
 | cons i E ih=>
  rintro Rs hnd hno ⟨o,R,ho,hy,N8,h⟩ hs;rw[bO4] at hnd;have hi:=hno i (bI8 ..)
  obtain⟨RE,hX,hk,hs2⟩:=ih ((i,R)::Rs) hnd.2 (fun j hj=>by rw[bZ,if_neg bE9];exact hno j (bI5 _ hj)) h (fun j R' hj=>by
   rcases bJ3.1 hj with hj | hj
   ·cases hj;exact⟨by rw[bZ,if_pos rfl],o,ho,hy,N8⟩
   ·obtain⟨h1,h2⟩:=hs j R' hj;refine⟨?_,h2⟩;rw[bZ];by_cases hij:i=j
    ·subst hij;rw[hi] at h1;cases h1
    ·rw[if_neg hij];exact h1)
  refine⟨RE,hX,fun j=>?_,hs2⟩;rw[hk,bJ3,bZ];by_cases hij:i=j
  ·subst hij;simp
  ·rw[if_neg hij];simp[bP0 hij]
theorem Iq{Y:Fm→Prop}{base:Fm}:∀ (D:List Nat) (iv:Fm),D.Nodup→(∀ i∈D,lk iv i=none)→Uq iv→qP base iv→gQ P n w0 mu all ds l hp Y D iv →
  (∀ i v,lk iv i=some v→lk base i=some v∨∃ o dw,all[i]?=some o∧qP dw iv∧Fj P n w0 mu (aT ds dw o.after.toList++l) hp o v) →
  ∃ Fq,Y Fq∧Uq Fq∧qP base Fq∧(∀ i,(∃ v,lk Fq i=some v)↔i∈D∨∃ v,lk iv i=some v)∧∀ i v,lk Fq i=some v→lk base i=some v∨∃ o dw,all[i]?=some o∧qP dw Fq∧Fj P n w0 mu (aT ds dw o.after.toList++l) hp o v:=by
 intro D
 induction D with
 | nil=>intro iv _ _ hu hb h hs;exact⟨iv,h,hu,hb,fun i=>by simp,hs⟩
 | cons i D ih=>
  rintro iv hnd hno hu hb ⟨o,v,ho,hy,h⟩ hs;rw[bO4] at hnd;have hi:=hno i (bI8 ..)
  obtain⟨Fq,hX,hu2,hb2,hk,hs2⟩:=ih ((i,v)::iv) hnd.2 (fun j hj=>by rw[bZ,if_neg bE9];exact hno j (bI5 _ hj)) (Ip hi hu) (fun a b hab=>ni hi a b (hb a b hab)) h (fun j u hj=>by
   rw[bZ] at hj;by_cases hij:i=j
   ·subst hij;rw[if_pos rfl] at hj;cases hj;exact .inr ⟨o,iv,ho,ni hi,hy⟩
   ·rw[if_neg hij] at hj;rcases hs j u hj with h0 | ⟨o',dw,h1,h2,h3⟩
    ·exact .inl h0
    ·exact .inr ⟨o',dw,h1,fun a b hab=>ni hi a b (h2 a b hab),h3⟩)
  refine⟨Fq,hX,hu2,hb2,fun j=>?_,hs2⟩;rw[hk,bJ3,bZ];by_cases hij:i=j
  ·subst hij;simp
  ·rw[if_neg hij];simp[bP0 hij]
theorem ji{c:Ch}{base:Fm}:∀ (Rs:List (Nat×RT)) (i:Nat),lk (Fp c Rs++base) i=match lk Rs i with | some _=>some (c i).1 | none=>lk base i:=by
 intro Rs
 induction Rs with
 | nil=>intro i;rfl
 | cons p r ih=>
  obtain⟨k,R⟩:=p;intro i;simp only[Fp,bI0];rw[bZ,bZ,ih];by_cases h:k=i
  ·subst h;simp
  ·simp[h]
theorem CS{c:Ch}:∀ (Rs:List (Nat×RT)) {i:Nat} {v:Value},(i,v)∈Fp c Rs→v=(c i).1∧∃ R,(i,R)∈Rs:=by
 intro Rs
 induction Rs with
 | nil=>intro i v h;cases h
 | cons p r ih=>
  intro i v h;rcases bJ3.1 h with h | h
  ·cases h;exact⟨rfl,p.2,bI8 ..⟩
  ·obtain⟨h1,R,h2⟩:=ih h;exact⟨h1,R,bI5 _ h2⟩
theorem Ir{c:Ch}:∀ (Rs:List (Nat×RT)),(∀ p∈Rs,p.2 (c p.1).1 (c p.1).2)→Kq c Rs:=by
 intro Rs
 induction Rs with
 | nil=>intro _;trivial
 | cons p r ih=>intro h;exact⟨h p (bI8 ..),ih fun q hq=>h q (bI5 _ hq)⟩
theorem mem_of{T:List Nat}{t:Nat}(h:t∈T):mem T t=true:=by
 induction T with
 | nil=>cases h
 | cons k r ih=>
  simp only[mem];rcases bJ3.1 h with rfl | h2
  ·rw[beq_iff.2 rfl];rfl
  ·rw[ih h2];cases Nat.beq k t<;>rfl
def splitB(k:Nat)(S E D:List Nat):Bool:=decide (E.reverse=(List.range k).reverse.filter (mem E))&&decide ((S++E++D).Nodup)&&(S++E++D).all (fun i=>Nat.blt i k)&&(List.range k).all fun i=>mem (S++E++D) i
def lT(P:Program)(n:Nat)(w0:World)(mu:List Nat)(ops:Array Oper)(l:Fm)(hp:Hp)(Q:Exit→Fm→Hp→Prop):Prop:=
 ∀ a w,Knows n l a→Good w0 mu hp w→wpAny P .any ops (QQ n w0 mu Q) ops.size (Array.replicate ops.size false) a { w with drawn:=w.drawn+1 }
theorem xx{ops:Array Oper}(hm:P.follows .mixedOrders=true)(h:lT P n w0 mu ops l hp Q):St P n w0 mu (.region id ops true) l hp Q:=fun a w hk hG=>wp_region_any hm (h a w hk hG)
theorem VW(k:Nat)(S E D:List Nat)(hB:yg ops.toArray k n=true)(hf:bW l (dstsOf ops.toArray k)=true)(hsp:splitB k S E D=true)(hds:dB ops 0=ds)
  (h:jg P n w0 mu ops.toArray ds l hp (fun aX=>iP P n w0 mu ops.toArray ds l hp aX (fun Rs=>∀ c,Kq c Rs→gQ P n w0 mu ops.toArray ds l hp (fun iv=>Ops P n w0 mu ops.toArray (ops.drop k) (bV ds iv++l) (JQ E c k++hp) Q) D (Fp c Rs++aX)) E []) S []):lT P n w0 mu ops.toArray l hp Q:=by
 intro a w hk hG;simp only[splitB,bH6,decide_eq_true_eq] at hsp;obtain⟨⟨⟨_,hnd⟩,hlt⟩,hcov⟩:=hsp;have hlt':∀ i∈S++E++D,i<k:=fun i hi=>by have:=bH'.1 hlt i hi;simpa using this
 have wV:∀ i,i<k→i∈S∨i∈E∨i∈D:=fun i hi=>by
  have:=gY (bH'.1 hcov i (bJ1.2 hi));simpa [or_assoc] using this
 rw[bK7,bM3] at hnd;obtain⟨Iu,Kr,hSx⟩:=hnd;rw[bM3] at Kr;obtain⟨Iw,VX,hEx⟩:=Kr;obtain⟨aX,h2,VY,yw,hsS⟩:=Qv S [] Iu (fun _ _=>rfl) (fun _ _ h=>by cases h) h (fun i v hv=>by cases hv);obtain⟨Rs,h3,yx,hsE⟩:=Qw E [] Iw (fun _ _=>rfl) h2 (fun i R hR=>by cases hR);simp only[lk,reduceCtorEq,exists_false,or_false] at yw yx
 have hES:∀ i R,lk Rs i=some R→lk aX i=none:=fun i R hR=>by
  cases hv:lk aX i with
  | none=>rfl
  | some v=>exact absurd rfl (hSx i ((yw i).1 ⟨v,hv⟩) i (bJ2 _ ((yx i).1 ⟨R,hR⟩)))
 let kd:Nat→Kd:=fun i=>match lk Rs i with | some R=>.e R | none=>match lk aX i with | some v=>.s v | none=>.d
 have sG:∀ i R,kd i=.e R↔lk Rs i=some R:=fun i R=>by
  show (match lk Rs i with | some R=>Kd.e R | none=>match lk aX i with | some v=>.s v | none=>.d)=_↔_
  cases lk Rs i with
  | some R'=>simp
  | none=>cases lk aX i<;>simp
 have VZ:∀ i v,kd i=.s v→lk Rs i=none∧lk aX i=some v:=fun i v=>by
  show (match lk Rs i with | some R=>Kd.e R | none=>match lk aX i with | some v=>.s v | none=>.d)=_→_
  cases lk Rs i with
  | some R'=>simp
  | none=>cases lk aX i<;>simp
 have at7:∀ i,kd i=.d→lk Rs i=none∧lk aX i=none:=fun i=>by
  show (match lk Rs i with | some R=>Kd.e R | none=>match lk aX i with | some v=>.s v | none=>.d)=_→_
  cases lk Rs i with
  | some R'=>simp
  | none=>cases lk aX i<;>simp
 have V3:∀ i R,lk Rs i=some R→(i,R)∈Rs:=fun i R h=>jC h
 have hvalid:∀ c,Valid kd k c→Kq c Rs:=fun c hc=>Ir Rs fun p hp=>by
  obtain⟨i,R⟩:=p;have h1:=(hsE i R hp).1;exact hc i (hlt' i (bJ2 _ (bI4 _ ((yx i).1 ⟨R,h1⟩)))) R ((sG i R).2 h1)
 have hex:∀ c,Valid kd k c→∃ Fq,Ops P n w0 mu ops.toArray (ops.drop k) (bV ds Fq++l) (JQ E c k++hp) Q∧Uq Fq∧qP (Fp c Rs++aX) Fq∧(∀ i,(∃ v,lk Fq i=some v)↔i∈D∨∃ v,lk (Fp c Rs++aX) i=some v)∧∀ i v,lk Fq i=some v→lk (Fp c Rs++aX) i=some v∨∃ o dw,ops.toArray[i]?=some o∧qP dw Fq∧Fj P n w0 mu (aT ds dw o.after.toList++l) hp o v:=fun c hc=>
  Iq D (Fp c Rs++aX) VX (fun i hi=>by
   rw[ji]
   have e1:lk Rs i=none:=by
    cases hR:lk Rs i with
    | none=>rfl
    | some R=>exact absurd rfl (hEx i ((yx i).1 ⟨R,hR⟩) i hi)
   rw[e1]
   cases hv:lk aX i with
   | none=>rfl
   | some v=>exact absurd rfl (hSx i ((yw i).1 ⟨v,hv⟩) i (bI4 _ hi))) (fun i v hv=>by
   rw[ji];rcases bK4.1 hv with hv | hv
   ·obtain⟨rfl,R,hR⟩:=CS Rs hv;rw[(hsE i R hR).1]
   ·have h1:=VY i v hv
    cases hR:lk Rs i with
    | none=>exact h1
    | some R=>rw[hES i R hR] at h1;cases h1) (fun _ _ h=>h) (h3 c (hvalid c hc)) (fun i v hv=>.inl hv)
 have hch:∃ F:Ch→Fm,∀ c,Valid kd k c→Ops P n w0 mu ops.toArray (ops.drop k) (bV ds (F c)++l) (JQ E c k++hp) Q∧Uq (F c)∧qP (Fp c Rs++aX) (F c)∧(∀ i,(∃ v,lk (F c) i=some v)↔i∈D∨∃ v,lk (Fp c Rs++aX) i=some v)∧∀ i v,lk (F c) i=some v→lk (Fp c Rs++aX) i=some v∨∃ o dw,ops.toArray[i]?=some o∧qP dw (F c)∧Fj P n w0 mu (aT ds dw o.after.toList++l) hp o v:=by
  classical
  refine⟨fun c=>if hc:Valid kd k c then Classical.choose (hex c hc) else [],fun c hc=>?_⟩;simp only[hc,dif_pos];exact bT7 (hex c hc)
 obtain⟨F,hF⟩:=hch
 let val:Ch→Nat→Value:=fun c i=>match kd i with | .s v=>v | .e _=>(c i).1 | .d=>(lk (F c) i).getD undef
 have DI:∀ c,Valid kd k c→∀ i v,lk (F c) i=some v→val c i=v:=fun c hc i v hv=>by
  obtain⟨_,_,hmo,_,_⟩:=hF c hc;show (match kd i with | .s v=>v | .e _=>(c i).1 | .d=>(lk (F c) i).getD undef)=v
  cases hkd:kd i with
  | s u=>
   obtain⟨e1,e2⟩:=VZ i u hkd;have:=hmo i u (by rw[ji,e1];exact e2)
   rw[hv] at this;cases this;rfl
  | e R=>
   have e1:=(sG i R).1 hkd;have:=hmo i (c i).1 (by rw[ji,e1])
   rw[hv] at this;cases this;rfl
  | d=>rw[hv];rfl
 have Kt:∀ c,Valid kd k c→∀ i,i<k→∃ v,lk (F c) i=some v:=fun c hc i hi=>by
  obtain⟨_,_,_,hkk,_⟩:=hF c hc;rw[hkk i];rcases wV i hi with h | h | h
  ·obtain⟨v,hv⟩:=(yw i).2 h;right;rw[ji]
   cases lk Rs i with
   | some R=>exact⟨_,rfl⟩
   | none=>exact⟨v,hv⟩
  ·obtain⟨R,hR⟩:=(yx i).2 h;right;rw[ji,hR];exact⟨_,rfl⟩
  ·exact .inl h
 have uF:∀ i v,lk aX i=some v→i<k∧∀ c,val c i=v:=fun i v hv=>by
  refine⟨hlt' i (bJ2 _ (bJ2 _ ((yw i).1 ⟨v,hv⟩))),fun c=>?_⟩;show (match kd i with | .s v=>v | .e _=>(c i).1 | .d=>(lk (F c) i).getD undef)=v
  have:kd i=.s v:=by
   show (match lk Rs i with | some R=>Kd.e R | none=>match lk aX i with | some v=>.s v | none=>.d)=_
   cases hR:lk Rs i with
   | some R=>rw[hES i R hR] at hv;cases hv
   | none=>rw[hv]
  rw[this]
 have hB':=hB;simp only[yg,bH6,decide_eq_true_eq] at hB';obtain⟨⟨⟨⟨⟨xy,hd⟩,hback⟩,hs⟩,hc⟩,hseq⟩:=hB';have hks:k≤ops.toArray.size:=by omega
 have ru:∀ i d,lk ds i=some d→bF ops.toArray i=some d:=fun i d h=>by rw[←hds] at h;have:=(lN ops 0 i d h).2;simpa [bF] using this
 have N8:∃ c0:Ch,Valid kd k c0:=by
  have h1:∀ i,∃ x:Value×Hp,∀ R,kd i=.e R→R x.1 x.2:=fun i=>by
   cases hR:lk Rs i with
   | none=>exact⟨(undef,[]),fun R h=>by rw[(sG i R).1 h] at hR;cases hR⟩
   | some R=>
    obtain⟨_,o,_,_,v,hn,hv⟩:=hsE i R (V3 i R hR);exact⟨(v,hn),fun R' h=>by rw[(sG i R').1 h] at hR;cases hR;exact hv⟩
  exact⟨fun i=>Classical.choose (h1 i),fun i hi R hR=>bT7 (h1 i) R hR⟩
 obtain⟨c0,hc0⟩:=N8
 have inv0:HeadInv .any ops.toArray k (Array.replicate ops.toArray.size false):=
  ⟨by simp,fun j oj _ hl=>bC0,fun t _ ht=>getD_in bG3 (getD_replicate_false _ _)⟩
 have hleft:leftOf k (Array.replicate ops.toArray.size false)=k:=by
  unfold leftOf;rw[bP'.2]
  ·simp
  ·intro i hi;have hi':i<k:=by simpa using hi
   have:(Array.replicate ops.toArray.size false).getD i true=false:=getD_in (by simp at xy ⊢;omega) (getD_replicate_false _ _);simp only[this,bL1]
 have au0:∀ m,mP kd c0 (Array.replicate ops.toArray.size false) m=[]:=by
  intro m
  induction m with
  | zero=>rfl
  | succ m ih=>simp only[mP,ih,nO,getD_replicate_false,bU8,cond_false,bI']
 have Su:∀ i,i<k→FC (kd i)=mem E i:=fun i hi=>by
  cases hkd:kd i with
  | e R=>rw[mem_of ((yx i).1 ⟨R,(sG i R).1 hkd⟩)];rfl
  | s v=>
   cases hmm:mem E i with
   | false=>rfl
   | true=>obtain⟨R,hR⟩:=(yx i).2 (gY hmm);rw[(sG i R).2 hR] at hkd;cases hkd
  | d=>
   cases hmm:mem E i with
   | false=>rfl
   | true=>obtain⟨R,hR⟩:=(yx i).2 (gY hmm);rw[(sG i R).2 hR] at hkd;cases hkd
 have key:=Sr ru (P:=P) (n:=n) (w0:=w0) (mu:=mu) (l:=l) (hp:=hp) (all:=ops.toArray) (kd:=kd) (val:=val) (k:=k) (g:=ops.toArray.size-k) (Q':=QQ n w0 mu Q) hks hd hf hback
  (fun i o v hi ho hkd=>by
   obtain⟨e1,e2⟩:=VZ i v hkd;obtain⟨o',dw,h1,h2,h3⟩:=hsS i v e2;rw[ho] at h1;cases h1
   exact⟨(uF i v e2).2,dw,fun j u hu=>uF j u (h2 j u bD4),h3⟩)
  (fun i o R hi ho hkd=>by
   have e1:=(sG i R).1 hkd;obtain⟨_,o',h1,h2,_⟩:=hsE i R (V3 i R e1);rw[ho] at h1;cases h1;refine⟨fun c=>?_,aX,fun j u hu=>uF j u bD4,h2⟩;show (match kd i with | .s v=>v | .e _=>(c i).1 | .d=>(lk (F c) i).getD undef)=_
   rw[hkd])
  (fun c hcv i o hi ho hkd=>by
   obtain⟨e1,e2⟩:=at7 i hkd;obtain⟨v,hv⟩:=Kt c hcv i hi;obtain⟨_,_,_,_,hsp⟩:=hF c hcv;rw[DI c hcv i v hv];rcases hsp i v hv with h0 | ⟨o',dw,h1,h2,h3⟩
   ·rw[ji,e1] at h0;rw[e2] at h0;cases h0
   ·rw[ho] at h1;cases h1;refine⟨dw,fun j u hu=>?_,h3⟩;have hj:=h2 j u bD4;refine⟨?_,DI c hcv j u hj⟩;obtain⟨_,_,_,hkk,_⟩:=hF c hcv;rcases (hkk j).1 ⟨u,hj⟩ with h | ⟨v',h⟩
    ·exact hlt' j (bI4 _ h)
    ·rw[ji] at h
     cases hR:lk Rs j with
     | some R=>exact hlt' j (bJ2 _ (bI4 _ ((yx j).1 ⟨R,hR⟩)))
     | none=>rw[hR] at h;exact (uF j v' h).1)
  (fun c listed inv hall a w hmid=>by
   have hl:listed=(Array.replicate k true)++(Array.replicate (ops.toArray.size-k) false):=by
    apply Array.ext
    ·simp[inv.size];simp at xy;omega
    ·intro i h1 h2;by_cases hi:i<k
     ·have:=hall i hi;simp[h1] at this;rw[bT8 bE6];simpa using this
     ·have h3:=inv.tail i bB3 bE2;simp[h1] at h3;rw[bT5 bB9];simpa using h3
   have hdl:(ops.drop k).length=ops.toArray.size-k:=by simp
   rw[←hdl];refine wpAny_of_seq (ops.drop k) k listed a w (fun j=>by simp) bF7 ?_
   have V4:∀ i,i<k→listed.getD i false=true:=fun i hi=>by
    cases hcc:listed.getD i false with
    | true=>rfl
    | false=>have:=hall i hi;rw[getD_in bC4 hcc] at this;cases this
   obtain⟨hops,huq,hmo,hkk,hsp⟩:=hF c hmid.valid;refine hops a w ⟨hmid.size,hmid.defers,fun t v ht=>?_⟩ ?_
   ·rcases fV ht with ht | ⟨_,ht⟩
    ·obtain⟨j,h1,h2⟩:=jX (iY ht);have hjd:=ru _ _ h2;have hj:=huq j v h1
     have hjk:j<k:=by
      rcases (hkk j).1 ⟨v,hj⟩ with h | ⟨v',h⟩
      ·exact hlt' j (bI4 _ h)
      ·rw[ji] at h
       cases hR:lk Rs j with
       | some R=>exact hlt' j (bJ2 _ (bI4 _ ((yx j).1 ⟨R,hR⟩)))
       | none=>rw[hR] at h;exact (uF j v' h).1
     rw[hmid.done j hjk (V4 j hjk) c hmid.valid (fun _ _ _ _=>rfl) t hjd];exact DI c hmid.valid j v hj
    ·exact hmid.has t v ht
   ·have e:∀ m,m≤k→mP kd c listed m=JQ E c m:=by
     intro m
     induction m with
     | zero=>intro _;rfl
     | succ m ih=>
      intro hm;simp only[mP,JQ,nO];rw[ih bB3,Su m bB3,V4 m bB3,bM']
    rw[←e k (bI9 _)]
    exact hmid.good)
  (fun listed inv i hi hun t ht=>tail_waits hs hc xy inv _ i rfl hi hun t ht)
  k c0 _ a { w with drawn:=w.drawn+1 } hleft inv0 ⟨hk.size,hk.defers,hk.has,hc0,by rw[au0];exact hG.drawn _,fun i _ hl=>bC0⟩
 have e:k+(ops.toArray.size-k)=ops.toArray.size:=by omega
 rw[e] at key;exact key
def Qx(c:Ch):List Nat→Hp
 | []=>[]
 | i::r=>(c i).2++Qx c r
theorem Qy(E:List Nat)(c:Ch):∀ k,JQ E c k=Qx c ((List.range k).reverse.filter (mem E)):=by
 intro k
 induction k with
 | zero=>rfl
 | succ k ih=>
  rw[bO5,List.reverse_append];simp only[List.reverse_cons,List.reverse_nil,bI3,bI0,bW2,JQ,ih];cases mem E k<;>simp[Qx]
def DN(X:Fm→Hp→Prop):List (Nat×RT)→Prop
 | []=>X [] []
 | p::r=>∀ v hn,p.2 v hn→DN (fun iv bl=>X ((p.1,v)::iv) (hn++bl)) r
theorem au1:∀ (Rs:List (Nat×RT)) (X:Fm→Hp→Prop) (c:Ch),DN X Rs→Kq c Rs→X (Fp c Rs) (Qx c (Rs.map (·.1))):=by
 intro Rs
 induction Rs with
 | nil=>intro X c h _;exact h
 | cons p r ih=>intro X c h ha;exact ih _ c (h _ _ ha.1) ha.2
theorem DJ{X Y:Fm→Prop}(V5:∀ iv,X iv→Y iv):∀ (S:List Nat) (iv:Fm),jg P n w0 mu all ds l hp X S iv→jg P n w0 mu all ds l hp Y S iv:=by
 intro S
 induction S with
 | nil=>intro iv h;exact V5 iv h
 | cons i S ih=>rintro iv ⟨o,v,ho,hy,h⟩;exact⟨o,v,ho,hy,ih _ h⟩
theorem Ku{iv:Fm}{X Y:List (Nat×RT)→Prop}:∀ (E:List Nat) (Rs:List (Nat×RT)) (V5:∀ NI,NI.map (·.1)=E.reverse++Rs.map (·.1)→X NI→Y NI),iP P n w0 mu all ds l hp iv X E Rs→iP P n w0 mu all ds l hp iv Y E Rs:=by
 intro E
 induction E with
 | nil=>intro Rs V5 h;exact V5 Rs bB5 h
 | cons i E ih=>
  rintro Rs V5 ⟨o,R,ho,hy,hi,h⟩;exact⟨o,R,ho,hy,hi,ih _ (fun NI e hX=>V5 NI (by rw[e];simp) hX) h⟩
theorem Gn(k:Nat)(S E D:List Nat)(hB:yg ops.toArray k n=true)(hf:bW l (dstsOf ops.toArray k)=true)(hsp:splitB k S E D=true)(hds:dB ops 0=ds)
  (h:jg P n w0 mu ops.toArray ds l hp (fun aX=>iP P n w0 mu ops.toArray ds l hp aX (fun Rs=>DN (fun iv bl=>gQ P n w0 mu ops.toArray ds l hp (fun rq=>Ops P n w0 mu ops.toArray (ops.drop k) (bV ds rq++l) (bl++hp) Q) D (iv++aX)) Rs) E []) S []):lT P n w0 mu ops.toArray l hp Q:=by
 refine VW k S E D hB hf hsp hds (DJ (fun aX h2=>Ku E [] (fun Rs e h3 c hc=>?_) h2) S [] h);have:=au1 Rs _ c h3 hc
 have he:JQ E c k=Qx c (Rs.map (·.1)):=by
  simp only[splitB,bH6,decide_eq_true_eq] at hsp;rw[Qy,←hsp.1.1.1,e];simp
 rw[he];exact this
theorem V6(k:Nat)(S E D:List Nat)(hm:P.follows .mixedOrders=true)(hB:yg ops.toArray k n=true)(hf:bW l (dstsOf ops.toArray k)=true)(hsp:splitB k S E D=true)(hds:dB ops 0=ds)
  (h:jg P n w0 mu ops.toArray ds l hp (fun aX=>iP P n w0 mu ops.toArray ds l hp aX (fun Rs=>DN (fun iv bl=>gQ P n w0 mu ops.toArray ds l hp (fun rq=>Ops P n w0 mu ops.toArray (ops.drop k) (bV ds rq++l) (bl++hp) Q) D (iv++aX)) Rs) E []) S []):St P n w0 mu (.region id ops.toArray true) l hp Q:=xx hm (Gn k S E D hB hf hsp hds h)
section
variable {X : Fm → Prop} {Y : Fm → Prop} {Z : List (Nat × RT) → Prop} {i d : Nat} {iv : Fm} {S E D : List Nat} {Rs : List (Nat × RT)} {op : Op} {ty : TypeId} {pos : String} {af : Array Edge} {v : Value}
theorem ZW(h:X iv):jg P n w0 mu all ds l hp X [] iv:=h
theorem jY(ho:all[i]?=some ⟨some d,op,ty,pos,af,none⟩)(hy:∀ hx,Hy P n w0 mu (aT ds iv af.toList++l) (hx++hp) ⟨some d,op,ty,pos,af,none⟩ v)(h:jg P n w0 mu all ds l hp X S ((i,v)::iv)):jg P n w0 mu all ds l hp X (i::S) iv:=⟨_,v,ho,fun hx=>hy hx,h⟩
theorem ZX(h:Z Rs):iP P n w0 mu all ds l hp iv Z [] Rs:=h
theorem Kv{R:RT}{gg:Option (Nat×Bool)}(ho:all[i]?=some ⟨some d,op,ty,pos,af,gg⟩)(he:BV P n w0 mu all (aT ds iv af.toList++l) hp ⟨some d,op,ty,pos,af,gg⟩ R)(hi:∃ v hn,R v hn)(h:iP P n w0 mu all ds l hp iv Z E ((i,R)::Rs)):iP P n w0 mu all ds l hp iv Z (i::E) Rs:=⟨_,R,ho,he,hi,h⟩
theorem ZY(h:Y iv):gQ P n w0 mu all ds l hp Y [] iv:=h
theorem DK(ho:all[i]?=some ⟨some d,op,ty,pos,af,none⟩)(hy:Fj P n w0 mu (aT ds iv af.toList++l) hp ⟨some d,op,ty,pos,af,none⟩ v)(h:gQ P n w0 mu all ds l hp Y D ((i,v)::iv)):gQ P n w0 mu all ds l hp Y (i::D) iv:=⟨_,v,ho,hy,h⟩
end
section
variable {T : Tab} {lf : Fm} {dd : Option Tmp} {ty : TypeId} {pos : String} {af : Array Edge}
theorem Iy(hg:o.guard=none)(F:Nat→Value)(cs:Array Value)(t:TypeId)(hrun:∀ a w,Knows n lf a→(execOp a.eval o).run P w=.ok (.value (F w.heap.size)) (w.alloc (.cells cs t))):BV P n w0 mu all lf hp o (fun v hn=>∃ b,v=F b∧hn=[⟨b,cs,t⟩]):=
 ⟨fun a _=>by simp[Region.wanted,hg],fun a w hx hk hG K Q hK=>by
  unfold Oper.wp;rw[hrun a w hk]
  exact hK _ _ _ ⟨_,rfl,rfl⟩ (hG.alloc cs t)⟩
theorem V7(ok:bC P T){cs:List Value}(hz:lk T.zs t=some z)(hc:z.cells=cs.toArray):BV P n w0 mu all lf hp ⟨dd,.alloc t,ty,pos,af,none⟩ (fun v hn=>∃ b,v=.pointer (some ⟨b,0,none⟩)∧hn=[⟨b,cs.toArray,t⟩]):=by
 rw[←hc];refine Iy (F:=fun b=>.pointer (some ⟨b,0,none⟩)) rfl _ _ fun a w _=>?_;simp only[execOp];have hz':=ok.NH hz
 cases hi:P.info? t with
 | none=>simp[zeroOf,hi] at hz'
 | some i=>
  have hz2:i.zero=some z:=by simpa [zeroOf,hi] using hz'
  simp[Instr.alloc,zeroValue,typeInfo,hi,hz2,go_sem]
theorem au2{cs:List Value}(hx:ev lf x=some v)(hc:v.cells=cs.toArray):BV P n w0 mu all lf hp ⟨dd,.box t x,ty,pos,af,none⟩ (fun u hn=>∃ b,u=.pointer (some ⟨b,0,none⟩)∧hn=[⟨b,cs.toArray,t⟩]):=by
 rw[←hc];refine Iy (F:=fun b=>.pointer (some ⟨b,0,none⟩)) rfl _ _ fun a w hk=>?_;simp only[execOp,hk.ev hx];simp[Instr.box,go_sem]
theorem ZZ(ok:bC P T){t e:Nat}{k k':IntKind}(hx:ev lf x=some (.int k (m:Int)))(hy:ev lf y=some (.int k' (m:Int)))(ht:lk T.sl t=some (e,sz))(hz:lk T.zs e=some z)(hb:lk T.eb e=some jr)
  (h24:m*sz≤16777216) (h48:jr*m≤281474976710656) (h63:m≤9223372036854775807):BV P n w0 mu all lf hp ⟨dd,.makeSlice t x y,ty,pos,af,none⟩ (fun v hn=>∃ b,v=.slice (some ⟨b,0,none⟩) m m∧hn=[⟨b,madeCells z.cells (m*sz),e⟩]):=by
 refine Iy (F:=fun b=>.slice (some ⟨b,0,none⟩) m m) rfl _ _ fun a w hk=>?_;obtain⟨hu,hsz⟩:=ok.zJ ht;have hbb:=bH'.1 ok.eb _ (jC hb);simp only[beq_iff_eq] at hbb;obtain⟨i,hi,hiz,his,hib⟩:=sD hsz hbb (ok.NH hz);subst his hib;have hr:=run_makeSlice (P:=P) w t e i z hu hi hiz k k' (m:Int) (m:Int) bB3 bB3 (by rw[bN1];exact h24) bD5 bB3;simp only[bN1] at hr;unfold execOp;simp only[Sem.run_bind,Sem.run_pure,Result.andThen_ok,hk.ev hx,hk.ev hy,hr]
theorem Qz{R:Value→Hp→Prop}(bM:Cal P f)(hv:evs lf xs=some vs)(hc:∀ w,Good w0 mu hp w→Fn P f vs.toArray w [] R):BV P n w0 mu all lf hp ⟨dd,.call { callee:=.value (.func f),args:=xs.toArray,argTypes:=tys },ty,pos,af,none⟩ R:=by
 obtain⟨fn,c,hf,hname,hb⟩:=bM;refine⟨fun a _=>by simp[Region.wanted],fun a w hx hk hG K Q hK=>?_⟩;unfold Oper.wp;rw[qZ rfl hf hname hb hk hv w];refine Calls.mono (hc w (hG.sub (bR' _ _))) ?_;rintro e w' ⟨u,hn,rfl,hg',hR⟩;exact hK u hn w' hR (hG.trans hg')
theorem au3(hx:ev lf x=some v):Fj P n w0 mu lf hp ⟨dd,.move x,ty,pos,af,none⟩ v:=⟨rfl,fun a w hk _=>by simp[execOp,hk.ev hx]⟩
theorem V8(hx:ev lf x=some v):Fj P n w0 mu lf hp ⟨dd,.assign x,ty,pos,af,none⟩ v:=⟨rfl,fun a w hk _=>by simp[execOp,hk.ev hx]⟩
theorem Sv{vs:Array Value}(hx:ev lf x=some (.tuple vs))(hi:nth vs.toList i=some v):Fj P n w0 mu lf hp ⟨dd,.extract x i,ty,pos,af,none⟩ v:=⟨rfl,fun a w hk _=>by
 rw[mZ] at hi;have hi':vs[i]?=some v:=by simpa using hi
 simp[execOp,hk.ev hx,Instr.extract,hi']⟩
theorem Z4(ok:bC P T){ps:List (Nat×Operand)}{vs:List (Nat×Value)}{pl:List (Nat×Nat)}{zc out':Array Value}(hz:lk T.zs t=some z)(hzc:z.cells=zc)(hpl:lk T.pl t=some pl)(hv:Fh lf ps=some vs)(hf:fl pl zc vs=some out)(hn:out=out'):Fj P n w0 mu lf hp ⟨dd,.build t ps.toArray,ty,pos,af,none⟩ (.agg out'):=by
 subst hn;subst hzc;refine⟨rfl,fun a w hk _=>?_⟩;simp only[execOp];have e:(ps.toArray.map fun x=>(x.1,a.eval x.2))=vs.toArray:=by rw[←hk.Fh hv];simp
 have hpl':=ok.gpl hpl;have aH8:=Qm _ _ _ _ hf;unfold places at hpl'
 cases hu:P.underlying t with
 | none=>rw[hu] at hpl';cases hpl'
 | some d=>
  rw[hu] at hpl'
  cases d with
  | struct fs=>
   have e2:=run_places hpl' w;simp only[Instr.build,Sem.run_bind,pK (ok.NH hz) w,Result.andThen_ok,run_underlying hu w,e,e2];have hf2:Instr.fill (fun x=>pl[x]?) z.cells vs=some out:=by simpa using aH8
   simp[hf2]
  | _=>cases hpl'
end
end
end
end
section
def V9(Q:Exit→Fm→Hp→Prop):Exit→Fm→Hp→Prop
 | .normal,l,hp=>Q .normal l hp
 | _,_,_=>False
theorem vU{Q:Exit→Fm→Hp→Prop}{l:Fm}{hp:Hp}(h:Q .normal l hp):V9 Q .normal l hp:=h
def addEdge(ops:Array Oper)(k i:Nat):Array Oper:=ops.modify k fun o=>{ o with after:=o.after.push ⟨i,.data⟩ }
theorem yz(ops:Array Oper)(k i:Nat):(addEdge ops k i).size=ops.size:=by simp[addEdge]
theorem sH{ops:Array Oper}{k:Nat}(h:j≠k):(addEdge ops k i)[j]?=ops[j]?:=by
 simp[addEdge,Array.getElem?_modify,bP0 h]
theorem oK{ops:Array Oper}{k:Nat}:(addEdge ops k i)[k]?=(ops[k]?).map fun o=>{ o with after:=o.after.push ⟨i,.data⟩ }:=by
 simp[addEdge,Array.getElem?_modify]
theorem Kw{ops:Array Oper}{k:Nat}(j:Nat):((addEdge ops k i)[j]?).bind (·.dst)=(ops[j]?).bind (·.dst):=by
 by_cases h:j=k
 ·subst h;rw[oK];cases ops[j]?<;>rfl
 ·rw[sH h]
theorem BX(ops:Array Oper)(k i:Nat)(tmps:Array Value):yielded (addEdge ops k i) tmps=yielded ops tmps:=by
 funext j
 unfold yielded;rw[Kw]
theorem yA(ρ:Operand→Value)(o:Oper)(af:Array Edge):execOp ρ { o with after:=af }=execOp ρ o:=by
 obtain⟨dst,op,type,pos,after,guard⟩:=o;cases op<;>rfl
def We:Op→Bool
 | .select _ _=>false
 | _=>true
def Wh:Op→Bool
 | .extract _ _=>true
 | .move _=>true
 | .binOp .or _ _ _ _=>true
 | _=>false
theorem aH9(P:Program)(t:TypeId)(x y:Value):(∃ v,∀ w,(binOp .or t x y).run P w=.ok v w)∨(∀ w v w',(binOp .or t x y).run P w≠.ok v w'):=by
 by_cases hxy:(∃ k p k' q,x=.int k p∧y=.int k' q)
 ·obtain⟨k,p,k',q,rfl,rfl⟩:=hxy;by_cases hk:k=k'
  ·subst hk;exact .inl ⟨.int k (bits .or k p q),fun w=>by rw[binOp_or,intBits_or];simp⟩
  ·right;intro w v w' h;simp[binOp,hk,stuck] at h
 ·right;intro w v w' h;unfold binOp at h;split at h
  all_goals first
   | contradiction
   | (exact hxy ⟨_,_,_,_,rfl,rfl⟩)
   | (simp[stuck,unsupported,Op.floatCmp,Op.complexOp,Op.stringOp] at h;done)
   | (split at h<;>simp[stuck,unsupported,Op.floatCmp,Op.complexOp,Op.stringOp] at h;done)
def deps(ops:Array Oper)(j:Nat):List Nat:=match ops[j]? with
 | some o=>(o.after.toList.filter (Region.binds .any)).map (·.on)
 | none=>[]
def DL(ops:Array Oper):Nat→List Nat→List Nat
 | 0,A=>A
 | j+1,A=>DL ops j (bif mem A j then deps ops j++A else A)
theorem Ky{o:Op}(h:We o=true):∀ cs b,o≠.select cs b:=fun cs b e=>by rw[e] at h;cases h
def Kz(ops:Array Oper)(k i:Nat):Bool:=
 match ops[k]?,ops[i]? with
 | some ok,some oi=>
  !Nat.beq i k&&oi.guard.isNone&&Wh oi.op&&We ok.op&&oi.apart ops ok&&(oi.after.all fun e=>!Region.binds .any e||mem (DL ops k (deps ops k)) e.on) &&
   (List.range ops.size).all fun t=>Nat.beq t i||Nat.beq t k||mem (DL ops k (deps ops k)) t||Region.waitsFor .any ops t i
 | _,_=>false
section
variable {P : Program} {ops : Array Oper} {Q' : Exit → Act → World → Prop} {k i : Nat} {listed : Array Bool}
theorem DR(h:j∈Region.ready .any (addEdge ops k i) listed):j∈Region.ready .any ops listed:=by
 obtain⟨h0,o,ho,ha⟩:=mem_ready.1 h;refine mem_ready.2 ⟨h0,?_⟩;by_cases hj:j=k
 ·subst hj;rw[oK] at ho
  cases hok:ops[j]? with
  | none=>rw[hok] at ho;cases ho
  | some o2=>
   rw[hok] at ho;simp only[bL5,bK0] at ho;subst ho;exact⟨o2,rfl,fun e he hb=>ha e bC9 hb⟩
 ·rw[sH hj] at ho;exact⟨o,ho,ha⟩
theorem jM(hj:j≠k)(h:j∈Region.ready .any ops listed):j∈Region.ready .any (addEdge ops k i) listed:=by
 obtain⟨h0,o,ho,ha⟩:=mem_ready.1 h;exact mem_ready.2 ⟨h0,o,by rw[sH hj];exact ho,ha⟩
theorem oL(h:k∈Region.ready .any ops listed)(hi:listed.getD i false=true):k∈Region.ready .any (addEdge ops k i) listed:=by
 obtain⟨h0,o,ho,ha⟩:=mem_ready.1 h;refine mem_ready.2 ⟨h0,{ o with after:=o.after.push ⟨i,.data⟩ },by rw[oK,ho];rfl,fun e he hb=>?_⟩;simp only[Array.mem_push] at he;rcases he with he | rfl
 ·exact ha e he hb
 ·exact hi
theorem ny{K:Act→World→Prop}(h:wpOp P (addEdge ops k i) Q' j K a w):wpOp P ops Q' j K a w:=by
 unfold wpOp at h ⊢;rw[BX] at h;by_cases hj:j=k
 ·subst hj;rw[oK] at h
  cases hok:ops[j]? with
  | none=>rw[hok] at h;exact h
  | some o=>
   rw[hok] at h;have e1:∀ y,Region.wanted { o with after:=o.after.push ⟨i,.data⟩ } y=Region.wanted o y:=fun _=>rfl
   have e2:Oper.wp P { o with after:=o.after.push ⟨i,.data⟩ } a w K Q'=Oper.wp P o a w K Q':=by
    unfold Oper.wp;rw[yA]
    cases (execOp a.eval o).run P w with
    | ok n w'=>cases n<;>rfl
    | halt x w'=>cases x<;>rfl
   have e3:Oper.asks P { o with after:=o.after.push ⟨i,.data⟩ } a w=Oper.asks P o a w:=by
    unfold Oper.asks;rw[yA]
   simp only[bL5,e1,e2,e3] at h ⊢;exact h
 ·rw[sH hj] at h;exact h
theorem Wi{t:Nat}(ho:ops[j]?=some o)(hr:j∈Region.ready .any ops listed)(h:Region.waitsFor .any ops j t=true):listed.getD t false=true:=by
 obtain⟨oj,h1,e,he,hb,rfl⟩:=Region.waitsFor_spec h;obtain⟨_,o2,h2,ha⟩:=mem_ready.1 hr;rw[h1] at h2;cases h2;exact ha e he hb
def Closed(ops:Array Oper)(listed:Array Bool):Prop:=∀ j oj,ops[j]?=some oj→listed.getD j false=true→∀ e∈oj.after,Region.binds .any e=true→listed.getD e.on false=true
theorem Closed.set(h:Closed ops listed)(hr:j∈Region.ready .any ops listed):Closed ops (listed.setIfInBounds j true):=by
 intro t ot hot hl e he hb;obtain⟨_,o,ho,ha⟩:=mem_ready.1 hr;by_cases htj:t=j
 ·subst htj;rw[ho] at hot;cases hot;exact getD_set_true (ha e he hb)
 ·rw[getD_set_ne false (bP0 htj)] at hl;exact getD_set_true (h t ot hot hl e he hb)
theorem Z5(h:Closed ops listed){j:Nat}(hl:listed.getD j false=true):∀ t∈deps ops j,listed.getD t false=true:=by
 intro t ht;unfold deps at ht
 cases ho:ops[j]? with
 | none=>rw[ho] at ht;cases ht
 | some o=>
  rw[ho] at ht;obtain⟨e,he,rfl⟩:=bI7.1 ht;rw[bN'] at he;exact h j o ho hl e (by simpa using he.1) he.2
theorem au4(h:Closed ops listed):∀ (n:Nat) (A:List Nat),(∀ t∈A,listed.getD t false=true)→∀ t,mem (DL ops n A) t=true→listed.getD t false=true:=by
 intro n
 induction n with
 | zero=>intro A hA t ht;exact hA t (gY ht)
 | succ n ih=>
  intro A hA;refine ih _ ?_
  cases hm:mem A n with
  | false=>simpa [hm] using hA
  | true=>
   intro t ht;simp only[cond_true,bK4] at ht;rcases ht with ht | ht
   ·exact Z5 h (hA n (gY hm)) t ht
   ·exact hA t ht
theorem vV(h:Closed ops listed)(hr:j∈Region.ready .any ops listed):∀ t,mem (DL ops j (deps ops j)) t=true→listed.getD t false=true:=by
 refine au4 h j _ fun t ht=>?_;obtain⟨_,o,ho,ha⟩:=mem_ready.1 hr;unfold deps at ht;rw[ho] at ht;obtain⟨e,he,rfl⟩:=bI7.1 ht;rw[bN'] at he;exact ha e (by simpa using he.1) he.2
theorem sJ{b:Bool}{t:Nat}(h:listed.getD t b=false)(ht:t<listed.size)(c:Bool):listed.getD t c=false:=by
 simp[ht] at h ⊢;exact h
theorem Wj(hB:Kz ops k i=true)(hP:∀ c a w,¬ Q' (.panic c) a w)(hO:¬ LetsOut Q'):
  ∀ (fuel:Nat) (listed:Array Bool) (a:Act) (w:World),listed.size=ops.size→Closed ops listed→wpAny P .any (addEdge ops k i) Q' fuel listed a w→wpAny P .any ops Q' fuel listed a w:=by
 unfold Kz at hB
 cases hok:ops[k]? with
 | none=>rw[hok] at hB;cases hB
 | some ok=>
  cases hoi:ops[i]? with
  | none=>rw[hok,hoi] at hB;cases hB
  | some oi=>
   rw[hok,hoi] at hB;simp only[bH6] at hB;obtain⟨⟨⟨⟨⟨⟨hne,hgu⟩,hex⟩,hsel⟩,hap⟩,au5⟩,hall⟩:=hB;have hik:i≠k:=fun e=>by rw[e] at hne;simp at hne
   have Sz:oi.guard=none:=by simpa using hgu
   have his:i<ops.size:=(bK5.1 hoi).1;have hks:k<ops.size:=(bK5.1 hok).1
   have Iz:∀ listed:Array Bool,listed.size=ops.size→Closed ops listed→k∈Region.ready .any ops listed→listed.getD i true=false→i∈Region.ready .any ops listed:=by
    intro listed hsz hcl hr hi;refine mem_ready.2 ⟨hi,oi,hoi,fun e he hb=>?_⟩;have h1:=(bN2.1 au5) e he;rw[hb] at h1;exact vV hcl hr _ (by simpa using h1)
   have hrest:∀ listed:Array Bool,listed.size=ops.size→Closed ops listed→k∈Region.ready .any ops listed→listed.getD i true=false→∀ t∈Region.ready .any ops (listed.setIfInBounds k true),t=i:=by
    intro listed hsz hcl hr hi t ht;obtain⟨h0,ot,hot,hat⟩:=mem_ready.1 ht;have hts:t<ops.size:=(bK5.1 hot).1;have h2:=bH'.1 hall t (bJ1.2 hts);simp only[bJ7,Nat.beq_eq] at h2;rcases h2 with ((h2 | h2) | h2) | h2
    ·exact h2
    ·subst h2;simp[hsz,hks] at h0
    ·have h3:=vV hcl hr t h2;by_cases htk:t=k
     ·subst htk;simp[hsz,hks] at h0
     ·rw[getD_set_ne true (bP0 htk)] at h0;rw[sJ h0 bB3 false] at h3;cases h3
    ·obtain⟨oj,h3,e,he,hb,heq⟩:=Region.waitsFor_spec h2;rw[hot] at h3;cases h3;have h4:=hat e he hb;rw[heq,getD_set_ne false (bP0 hik),sJ hi bB3 false] at h4;cases h4
   intro fuel
   induction fuel using Nat.strongRecOn with
   | ind fuel ih=>
   cases fuel with
   | zero=>
    intro listed a w hsz hcl h;refine⟨?_,h.2⟩;rw[bM9];intro j hj;by_cases hjk:j=k
    ·subst hjk
     cases hi:listed.getD i true with
     | true=>
      have:listed.getD i false=true:=by
       cases hc:listed.getD i false with
       | true=>rfl
       | false=>rw[getD_in bB3 hc] at hi;cases hi
      have:=oL (i:=i) hj this
      rw[h.1] at this;cases this
     | false=>
      have:=jM (i:=i) hik (Iz listed hsz hcl hj hi);rw[h.1] at this;cases this
    ·have:=jM (i:=i) hjk hj
     rw[h.1] at this;cases this
   | succ fuel=>
    intro listed a w hsz hcl h;have hsz':∀ t,(listed.setIfInBounds t true).size=ops.size:=fun t=>by simpa using hsz
    refine⟨fun hnil=>h.1 ?_,fun j hj=>?_⟩
    ·rw[bM9];intro t ht;have:=DR ht;rw[hnil] at this;cases this
    ·by_cases hin:j∈Region.ready .any (addEdge ops k i) listed
     ·exact wpOp_mono (fun a w h=>ih fuel bB3 _ a w (hsz' j) (hcl.set hj) h) (ny (h.2 j hin))
     ·have hjk:j=k:=bT9 fun hc=>hin (jM hc hj);subst hjk
      have hi:listed.getD i true=false:=by
       cases hc:listed.getD i true with
       | false=>rfl
       | true=>
        exfalso;refine hin (oL hj ?_)
        cases hc2:listed.getD i false with
        | true=>rfl
        | false=>rw[getD_in bB3 hc2] at hc;cases hc
      have hir:=Iz listed hsz hcl hj hi;have h1:=ny (h.2 i (jM hik hir))
      have hyl:∃ v,Yields P ops oi v a∧wpAny P .any (addEdge ops j i) Q' fuel (listed.setIfInBounds i true) (a.put oi.dst v) w:=by
       unfold wpOp at h1;simp only[hoi] at h1;have hw:Region.wanted oi (yielded ops a.tmps)=true:=by simp[Region.wanted,Sz]
       rw[if_pos hw] at h1;rcases h1 with h1 | ⟨_,h1⟩
       ·obtain⟨d,op,ty,pos,af,gu⟩:=oi;cases op<;>simp only[Wh,bO6] at hex
        ·rename_i x;unfold Oper.wp at h1;have hrun:∀ w,(execOp a.eval ⟨d,.move x,ty,pos,af,gu⟩).run P w=.ok (.value (a.eval x)) w:=fun w=>by simp[execOp]
         rw[hrun w] at h1;exact⟨a.eval x,.inl ⟨hw,hrun⟩,h1⟩
        ·rename_i bop t0 x y u0;cases bop<;>simp only[Wh,bO6] at hex;unfold Oper.wp at h1;have hrun:∀ w,(execOp a.eval ⟨d,.binOp .or t0 x y u0,ty,pos,af,gu⟩).run P w=((binOp .or t0 (a.eval x) (a.eval y)).run P w).andThen fun v w'=>.ok (.value v) w':=fun w=>by simp[execOp,eqGuard_or]
         rcases aH9 P t0 (a.eval x) (a.eval y) with⟨v,hv⟩ | hno
         ·rw[hrun w,hv w] at h1;exact⟨v,.inl ⟨hw,fun w=>by rw[hrun w,hv w];rfl⟩,h1⟩
         ·exfalso;rw[hrun w] at h1
          cases hr:(binOp .or t0 (a.eval x) (a.eval y)).run P w with
          | ok v w'=>exact hno w v w' hr
          | halt hh ww=>rw[hr] at h1;cases hh<;>first | exact hP _ _ _ h1 | exact h1
        rename_i x m;unfold Oper.wp at h1
        have hrun:∀ w,(execOp a.eval ⟨d,.extract x m,ty,pos,af,gu⟩).run P w=(match a.eval x with
          | .tuple vs=>match vs[m]? with
           | some v=>.ok (.value v) w
           | none=>(execOp a.eval ⟨d,.extract x m,ty,pos,af,gu⟩).run P w
          | _=>(execOp a.eval ⟨d,.extract x m,ty,pos,af,gu⟩).run P w):=by
         intro w;cases hx:a.eval x<;>try rfl
         rename_i vs
         cases hm:vs[m]? with
         | none=>simp only[hm]
         | some v=>simp[execOp,Instr.extract,hx,hm]
        cases hx:a.eval x with
        | tuple vs=>
         cases hm:vs[m]? with
         | some v=>
          refine⟨v,.inl ⟨hw,fun w=>by rw[hrun w,hx];simp only[hm]⟩,?_⟩;rw[hrun w,hx] at h1;simp only[hm] at h1
          exact h1
         | none=>simp[execOp,Instr.extract,hx,hm,stuck,Oper.upon] at h1
        | _=>simp[execOp,Instr.extract,hx,stuck,Oper.upon] at h1
       ·exact absurd h1 hO
      obtain⟨v,hy,h2⟩:=hyl;have hkr:j∈Region.ready .any ops (listed.setIfInBounds i true):=ready_mono hj (bP0 hik);have au6:j∈Region.ready .any (addEdge ops j i) (listed.setIfInBounds i true):=oL hkr (by simp[hsz,his])
      cases fuel with
      | zero=>rw[h2.1] at au6;cases au6
      | succ m=>
       have h3:=ny (h2.2 j au6);have h4:=wpOp_put hok hap (fun cs b e=>by rw[e] at hex;cases hex) (Ky hsel) (fun c a w h=>absurd h (hP c _ w)) hy h3;refine wpOp_mono (fun a' w' h5=>?_) h4;obtain⟨hy',h5⟩:=h5;have aH':i∈Region.ready .any ops (listed.setIfInBounds j true):=ready_mono hir hik;refine⟨fun hnil=>(by rw[hnil] at aH';cases aH'),fun t ht=>?_⟩;have hti:=hrest listed hsz hcl hj hi t ht;subst hti;refine hy'.wpOp hoi ?_;have h6:=ih m bB3 ((listed.setIfInBounds t true).setIfInBounds j true) _ _ bH1 ((hcl.set hir).set hkr) h5;rw[Array.setIfInBounds_comm _ _ hik] at h6;exact h6
theorem QA{P:Program}{n:Nat}{l:Fm}{hp:Hp}{Q:Exit→Fm→Hp→Prop}{ops ops':Array Oper}(k i:Nat)(hB:Kz ops k i=true)(he:addEdge ops k i=ops')(h:lT P n w0 mu ops' l hp (V9 Q)):lT P n w0 mu ops l hp (V9 Q):=by
 subst he;intro a w hk hG;have:=h a w hk hG;rw[yz] at this;refine Wj hB ?_ ?_ _ _ _ _ bB5 (fun j oj _ hl=>by rw[getD_replicate_false] at hl;cases hl) this
 ·rintro c a w ⟨l,hp,_,_,h⟩;exact h
 ·rintro⟨a,w,l,hp,_,_,h⟩;exact h
theorem au7{P:Program}{n:Nat}{l:Fm}{hp:Hp}{Q:Exit→Fm→Hp→Prop}{ops:Array Oper}(hm:P.follows .mixedOrders=true)(h:lT P n w0 mu ops l hp (V9 Q)):St P n w0 mu (.region id ops true) l hp Q:=
 Qi (xx hm h) fun e l hp h=>by
  cases e with
  | normal=>exact h
  | _=>exact h.elim
end
section
variable {P : Program} {n : Nat} {w0 : World} {mu : List Nat} {l : Fm} {hp : Hp} {Q : Exit → Fm → Hp → Prop}
theorem Wl{c:Operand}{x y:Code}{b:Bool}(hc:ev l c=some (.bool b))(hb:b=true)(h:St P n w0 mu x l hp Q):St P n w0 mu (.cond c x y) l hp Q:=ah b hc (fun _=>h) (fun e=>by rw[hb] at e;cases e)
theorem Wn{c:Operand}{x y:Code}{b:Bool}(hc:ev l c=some (.bool b))(hb:b=false)(h:St P n w0 mu y l hp Q):St P n w0 mu (.cond c x y) l hp Q:=ah b hc (fun e=>by rw[hb] at e;cases e) (fun _=>h)
theorem Wp{rest:List Oper}{fs us:List Value}{R:Value→Hp→Prop}(bM:Cal P f)(hi hp':Hp)(hd:Nat.blt d n=true)(hx:ev l x=some (.func (.func f) fs.toArray us.toArray))(hv:evs l xs=some vs)(hperm:(hi++hp').Perm hp)
  (hc:∀ w,Good w0 mu (hi++hp') w→Fn P f (fs++vs++us).toArray w (hi.map (·.b)) R) (h:∀ v hn,R v hn→Ops P n w0 mu all rest ((d,v)::l) (hn++hp') Q):Ops P n w0 mu all (⟨some d,.call { callee:=.value x,args:=xs.toArray,argTypes:=tys },ty,pos,af,none⟩::rest) l hp Q:=by
 obtain⟨fn,c,hf,hname,hb⟩:=bM;intro a w hk hG;refine wpList_plain rfl fun K hK=>?_;unfold Oper.wp;rw[Gj rfl hx hf hname hb hk hv w];refine Calls.mono (hc w (hG.perm hperm)) ?_;rintro e w' ⟨u,hn,rfl,hg',hR⟩;exact hK _ _ (h u hn hR _ _ (Knows.put (d:=some d) hk (fun t ht=>by cases ht;simpa using hd) u) ((hG.perm hperm).lH hg'))
end
end
section
def HyS(P:Program)(n:Nat)(w0:World)(mu:List Nat)(lf:Fm)(hp:Hp)(o:Oper)(hp':Hp):Prop:=
 o.guard=none∧o.dst=none∧∀ a w,Knows n lf a→Good w0 mu hp w→∀ (K:Act→World→Prop) (Q:Exit→Act→World→Prop),(∀ w',Good w0 mu hp' w'→K a w')→o.wp P a w K Q
def DW(P:Program)(n:Nat)(w0:World)(mu:List Nat)(all:Array Oper)(ds:List (Nat×Nat))(l:Fm)(h0 hp:Hp)(t0:Nat)(Q:Exit→Fm→Hp→Prop):Nat→List Oper→Fm→Hp→Prop
 | _,[],iv,hc=>Q .normal (bV ds iv++l) hc
 | i,o::r,iv,hc=>match o.dst with
  | none=>∃ hp',HyS P n w0 mu (aT ds iv o.after.toList++l) hc o hp'∧aI h0 hp'∧DW P n w0 mu all ds l h0 hp t0 Q (i+1) r iv hp'
  | some _=>∃ v,(∀ hx,wU P n w0 mu all (aT ds iv o.after.toList++l) (bif Region.waitsFor .any all t0 i then hp else hx++h0) o v)∧DW P n w0 mu all ds l h0 hp t0 Q (i+1) r ((i,v)::iv) hc
def iU(listed:Array Bool):List (Nat×Hp)→Hp→Hp
 | [],h=>h
 | (t,h')::r,h=>bif listed.getD t false then iU listed r h' else h
def Wq(ops:Array Oper)(n:Nat):Bool:=
 (List.range ops.size).all fun i=>(match bF ops i with | some d=>Nat.blt d n | none=>true)&&(List.range ops.size).all fun j=>Nat.beq i j||(match bF ops i,bF ops j with | some a,some b=>!Nat.beq a b | _,_=>true)
def yB(ops:Array Oper)(t0:Nat):Bool:=
 (bF ops t0).isNone&&(List.range ops.size).all fun i=>(bF ops i).isSome||(Nat.ble t0 i&&(List.range i).all fun j=>(bF ops j).isSome||Region.waitsFor .any ops i j)
def N9(ops:Array Oper)(n t0:Nat):Bool:=Wq ops n&&pM ops&&yB ops t0
section
variable {P : Program} {n : Nat} {w0 : World} {mu : List Nat} {l : Fm} {h0 hp : Hp} {Q : Exit → Fm → Hp → Prop} {all : Array Oper} {ds : List (Nat × Nat)} {t0 : Nat}
theorem Z7:∀ (r:List Oper) (i:Nat) (iv:Fm) (hc:Hp),(∀ k v,(k,v)∈iv→k<i∧look iv k=some v)→(∀ j o,r[j]?=some o→bF all (i+j)=o.dst)→DW P n w0 mu all ds l h0 hp t0 Q i r iv hc →
  ∃ (bz:Fm) (SL:List (Nat×Hp)) (he:Hp),(∀ k,k<i→look bz k=look iv k)∧(∀ k v,(k,v)∈bz→k<i+r.length∧look bz k=some v) ∧
   (∀ j o,r[j]?=some o→o.dst.isSome=true→∃ dw v,(∀ k u,look dw k=some u→k<i+j∧look bz k=some u)∧look bz (i+j)=some v∧∀ hx,wU P n w0 mu all (aT ds dw o.after.toList++l) (bif Region.waitsFor .any all t0 (i+j) then hp else hx++h0) o v) ∧
   (∀ j o,r[j]?=some o→o.dst=none→∃ dw L1 h' L2,(∀ k u,look dw k=some u→k<i+j∧look bz k=some u)∧SL=L1++(i+j,h')::L2∧aI h0 h'∧HyS P n w0 mu (aT ds dw o.after.toList++l) (L1.foldl (fun _ x=>x.2) hc) o h') ∧
   (∀ x∈SL,i≤x.1∧x.1<i+r.length∧bF all x.1=none)∧SL.Pairwise (fun x y=>x.1<y.1)∧SL.foldl (fun _ x=>x.2) hc=he∧Q .normal (bV ds bz++l) he:=by
 intro r
 induction r with
 | nil=>
  intro i iv hc hu _ h
  exact⟨iv,[],hc,fun _ _=>rfl,fun k v hm=>by simpa using hu k v hm,fun j o ho=>by simp at ho,fun j o ho=>by simp at ho,fun x hx=>by simp at hx,.nil,rfl,h⟩
 | cons o r ih=>
  intro i iv hc hu hdst h
  have am8:∀ j o',r[j]?=some o'→bF all (i+1+j)=o'.dst:=fun j o' ho'=>by
   have:=hdst (j+1) o' (by simpa using ho');rw[show i+1+j=i+(j+1) by omega];exact this
  have hd0:bF all i=o.dst:=by simpa using hdst 0 o rfl
  unfold DW at h
  cases hd:o.dst with
  | none=>
   rw[hd] at h;obtain⟨hp',hS,hle,h⟩:=h;obtain⟨bz,SL,he,e1,e2,e3,e4,e5,e6,e7,e8⟩:=ih (i+1) iv hp' (fun k v hm=>⟨by have:=(hu k v hm).1;omega,(hu k v hm).2⟩) am8 h;refine⟨bz,(i,hp')::SL,he,fun k hk=>e1 k bB3,fun k v hm=>⟨by have:=(e2 k v hm).1;simp only[bL6];omega,(e2 k v hm).2⟩,fun j o' ho' hs=>?_,fun j o' ho' hs=>?_,fun x hx=>?_,?_,by simpa using e7,e8⟩
   ·cases j with
    | zero=>
     simp only[bS7,bK0] at ho';subst ho'
     rw[hd] at hs;cases hs
    | succ j=>
     simp only[bU4] at ho';obtain⟨dw,v,h1,h2,h3⟩:=e3 j o' ho' hs;rw[show i+(j+1)=i+1+j by omega];exact⟨dw,v,h1,h2,h3⟩
   ·cases j with
    | zero=>
     simp only[bS7,bK0] at ho';subst ho';refine⟨iv,[],hp',SL,fun k u hk=>?_,rfl,hle,hS⟩;have h1:=hu k u (iY hk)
     exact⟨by omega,by rw[e1 k bB3];exact hk⟩
    | succ j=>
     simp only[bU4] at ho';obtain⟨dw,L1,h',L2,h1,h2,h3,h4⟩:=e4 j o' ho' hs;refine⟨dw,(i,hp')::L1,h',L2,fun k u hk=>?_,by rw[h2,show i+1+j=i+(j+1) by omega];rfl,h3,by simpa using h4⟩;have:=h1 k u hk;exact⟨by omega,this.2⟩
   ·rcases bJ3.1 hx with rfl | hx
    ·exact⟨bI9 _,by simp,by rw[hd0,hd]⟩
    ·have:=e5 x hx;exact⟨by omega,by simp only[bL6];omega,this.2.2⟩
   ·refine List.pairwise_cons.2 ⟨fun x hx=>?_,e6⟩;have:=(e5 x hx).1
    dsimp only;omega
  | some d=>
   rw[hd] at h;obtain⟨v,hy,h⟩:=h
   have hu':∀ k u,(k,u)∈((i,v)::iv:Fm)→k<i+1∧look ((i,v)::iv) k=some u:=by
    intro k u hm;rcases bJ3.1 hm with hm | hm
    ·cases hm;refine⟨by omega,?_⟩;simp only[look];rw[beq_iff.2 rfl];rfl
    ·obtain⟨h1,h2⟩:=hu k u hm;refine⟨by omega,?_⟩;simp only[look]
     have:Nat.beq i k=false:=by
      cases hb:Nat.beq i k
      ·rfl
      ·have:=beq_iff.1 hb;omega
     rw[this];exact h2
   obtain⟨bz,SL,he,e1,e2,e3,e4,e5,e6,e7,e8⟩:=ih (i+1) ((i,v)::iv) hc hu' am8 h
   have VF:∀ k,k<i→look bz k=look iv k:=by
    intro k hk;rw[e1 k bB3];simp only[look]
    have:Nat.beq i k=false:=by
     cases hb:Nat.beq i k
     ·rfl
     ·have:=beq_iff.1 hb;omega
    rw[this];rfl
   have VG:look bz i=some v:=by
    rw[e1 i bB3];simp only[look];rw[beq_iff.2 rfl];rfl
   refine⟨bz,SL,he,VF,fun k u hm=>⟨by have:=(e2 k u hm).1;simp only[bL6];omega,(e2 k u hm).2⟩,fun j o' ho' hs=>?_,fun j o' ho' hs=>?_,fun x hx=>⟨by have:=(e5 x hx).1;omega,by have:=(e5 x hx).2.1;simp only[bL6];omega,(e5 x hx).2.2⟩,e6,e7,e8⟩
   ·cases j with
    | zero=>
     simp only[bS7,bK0] at ho';subst ho';refine⟨iv,v,fun k u hk=>?_,by simpa using VG,hy⟩;have h1:=hu k u (iY hk)
     exact⟨by omega,by rw[VF k h1.1];exact hk⟩
    | succ j=>
     simp only[bU4] at ho';obtain⟨dw,v',h1,h2,h3⟩:=e3 j o' ho' hs;rw[show i+(j+1)=i+1+j by omega];exact⟨dw,v',h1,h2,h3⟩
   ·cases j with
    | zero=>
     simp only[bS7,bK0] at ho';subst ho'
     rw[hd] at hs;cases hs
    | succ j=>
     simp only[bU4] at ho';obtain⟨dw,L1,h',L2,h1,h2,h3,h4⟩:=e4 j o' ho' hs;exact⟨dw,L1,h',L2,fun k u hk=>⟨by have:=(h1 k u hk).1;omega,(h1 k u hk).2⟩,by rw[h2,show i+1+j=i+(j+1) by omega],h3,h4⟩
end
section
variable {P : Program} {n : Nat} {w0 : World} {mu : List Nat} {l : Fm} {h0 hp : Hp} {Q : Exit → Fm → Hp → Prop} {all : Array Oper} {ds : List (Nat × Nat)} {t0 : Nat}
theorem DT(h:yB all t0=true)(hi:i<all.size)(hd:bF all i=none):t0≤i∧∀ j,j<i→bF all j=none→Region.waitsFor .any all i j=true:=by
 unfold yB at h;rw[bH6] at h;have h1:=bH'.1 h.2 i (bJ1.2 hi);rw[hd] at h1;simp only[bW7,bL3,bH6] at h1;refine⟨bM2 h1.1,fun j hj hdj=>?_⟩;have h2:=bH'.1 h1.2 j (bJ1.2 hj);rw[hdj] at h2;simpa using h2
theorem sK{k:Nat}(inv:HeadInv .any all k listed){t:Nat}(h:Region.waitsFor .any all t i=true)(ht:listed.getD t false=true):listed.getD i false=true:=by
 obtain⟨oj,h1,e,he,hb,rfl⟩:=Region.waitsFor_spec h;exact inv.closed t oj h1 ht e he hb
theorem sN{SL:List (Nat×Hp)}{h:Hp}(hs:∀ x∈SL,listed.getD x.1 false=false):iU listed SL h=h:=by
 cases SL with
 | nil=>rfl
 | cons x r=>
  obtain⟨t,h'⟩:=x;simp only[iU];rw[hs (t,h') (bI8 ..)];rfl
theorem Oa:∀ {SL:List (Nat×Hp)} {h:Hp},(∀ x∈SL,listed.getD x.1 false=true)→iU listed SL h=SL.foldl (fun _ x=>x.2) h:=by
 intro SL
 induction SL with
 | nil=>intro h _;rfl
 | cons x r ih=>
  intro h hs;obtain⟨t,h'⟩:=x;simp only[iU,bY0];rw[hs (t,h') (bI8 ..)];exact ih fun y hy=>hs y (bI5 _ hy)
theorem DU:∀ {L1 L2:List (Nat×Hp)} {h:Hp},(∀ x∈L1,listed.getD x.1 false=true)→iU listed (L1++L2) h=iU listed L2 (L1.foldl (fun _ x=>x.2) h):=by
 intro L1
 induction L1 with
 | nil=>intro L2 h _;rfl
 | cons x r ih=>
  intro L2 h hs;obtain⟨t,h'⟩:=x;simp only[bI0,iU,bY0];rw[hs (t,h') (bI8 ..)];exact ih fun y hy=>hs y (bI5 _ hy)
theorem IA{la lb:Array Bool}:∀ {SL:List (Nat×Hp)} {h:Hp},(∀ x∈SL,la.getD x.1 false=lb.getD x.1 false)→iU la SL h=iU lb SL h:=by
 intro SL
 induction SL with
 | nil=>intro h _;rfl
 | cons x r ih=>
  intro h hs;obtain⟨t,h'⟩:=x;simp only[iU];rw[hs (t,h') (bI8 ..),ih fun y hy=>hs y (bI5 _ hy)]
theorem SA:∀ {SL:List (Nat×Hp)} {h:Hp},(∀ x∈SL,aI h0 x.2)→aI h0 h→aI h0 (iU listed SL h):=by
 intro SL
 induction SL with
 | nil=>intro h _ hh;exact hh
 | cons x r ih=>
  intro h hs hh;obtain⟨t,h'⟩:=x;simp only[iU]
  cases listed.getD t false with
  | false=>exact hh
  | true=>exact ih (fun y hy=>hs y (bI5 _ hy)) (hs (t,h') (bI8 ..))
theorem SB{hq hq':Hp}{bz:Fm}{w':World}(hm:Mid n w0 mu all l hq bz all.size listed a w)(ho:all[i]?=some o)(hi:i<all.size)(hod:o.dst=some d)
  (hd:Wq all n=true) (hf:bW l (dstsOf all all.size)=true) (hv:look bz i=some v) (hG:Good w0 mu hq' w'):Mid n w0 mu all l hq' bz all.size (listed.setIfInBounds i true) (a.put o.dst v) w':=by
 have hdo:bF all i=some d:=by simp[bF,ho,hod]
 have h1:=bH'.1 hd i (bJ1.2 hi);rw[hdo,bH6] at h1;have hdn:d<n:=by simpa using h1.1
 have hfr:∀ (L:List (Option Nat)),bW l L=true→some d∈L→look l d=none:=by
  intro L
  induction L with
  | nil=>intro _ h;cases h
  | cons x r ih=>
   intro hL hmem
   cases x with
   | none=>
    rcases bJ3.1 hmem with h | h
    ·cases h
    ·exact ih hL h
   | some y=>
    simp only[bW,bH6,bX'] at hL;rcases bJ3.1 hmem with h | h
    ·cases h;exact hL.1
    ·exact ih hL.2 h
 have hnew:look l d=none:=hfr _ hf (bI7.2 ⟨i,bJ1.2 hi,hdo⟩)
 have hput:∀ t,t≠d→(a.put o.dst v).tmps.getD t undef=a.tmps.getD t undef:=by
  intro t ht;rw[hod];simp[Act.put,bQ0 (bP0 ht)]
 refine⟨by rw[hod];simpa [Act.put] using hm.size,by rw[hod];exact hm.defers,?_,?_,hG⟩
 ·intro t u hu;rw[hput t (fun e=>by subst e;rw[hnew] at hu;cases hu)];exact hm.has t u hu
 ·intro j hj hl d' u hd' hu;by_cases hji:j=i
  ·subst hji;rw[hdo] at hd';cases hd';rw[hv] at hu;cases hu;rw[hod];simp[Act.put,hm.size,hdn]
  ·have hne:d'≠d:=by
    intro e;subst e;have h2:=bH'.1 h1.2 j (bJ1.2 hj);rw[hd'] at h2
    have h3:Nat.beq i j=false:=by
     cases hb:Nat.beq i j
     ·rfl
     ·exact absurd (beq_iff.1 hb).symm hji
    rw[h3] at h2;simp at h2
   rw[hput d' hne];refine hm.done j hj ?_ d' u hd' hu;rwa [getD_set_ne false (bP0 hji)] at hl
theorem aI1(hds:∀ k d,lk ds k=some d→bF all k=some d){bz:Fm}{SL:List (Nat×Hp)}{he:Hp}{Q':Exit→Act→World→Prop}(hd:Wq all n=true)(hf:bW l (dstsOf all all.size)=true)(hback:pM all=true)(hw:yB all t0=true)
  (hle:aI h0 hp)
  (hops:∀ i o,all[i]?=some o→o.dst.isSome=true→∃ dw v,(∀ j u,look dw j=some u→j<i∧look bz j=some u)∧look bz i=some v∧∀ hx,wU P n w0 mu all (aT ds dw o.after.toList++l) (bif Region.waitsFor .any all t0 i then hp else hx++h0) o v)
  (hst:∀ i o,all[i]?=some o→o.dst=none→∃ dw L1 h' L2,(∀ j u,look dw j=some u→j<i∧look bz j=some u)∧SL=L1++(i,h')::L2∧aI h0 h'∧HyS P n w0 mu (aT ds dw o.after.toList++l) (L1.foldl (fun _ x=>x.2) hp) o h')
  (Z8:∀ x∈SL,x.1<all.size∧bF all x.1=none) (hpw:SL.Pairwise (fun x y=>x.1<y.1)) (hend:SL.foldl (fun _ x=>x.2) hp=he)
  (hfin:∀ listed,HeadInv .any all all.size listed→(∀ i,i<all.size→listed.getD i true=true)→∀ a w,Mid n w0 mu all l he bz all.size listed a w→Q' .normal a w):
  ∀ f listed a w,leftOf all.size listed=f→HeadInv .any all all.size listed→Mid n w0 mu all l (iU listed SL hp) bz all.size listed a w→wpAny P .any all Q' f listed a w:=by
 have aI2:∀ x∈SL,aI h0 x.2:=by
  intro x hx;obtain⟨hxs,hxd⟩:=Z8 x hx;obtain⟨dw,L1,h',L2,_,h2,h3,_⟩:=hst x.1 all[x.1] (by simp[hxs]) (by simpa [bF,hxs] using hxd)
  have:x=(x.1,h'):=by
   have hm1:(x.1,h')∈SL:=by rw[h2];simp
   rw[bV7] at hpw;obtain⟨a,ha,hae⟩:=bM4.1 hx;obtain⟨b,hb,hbe⟩:=bM4.1 hm1;rcases Nat.lt_trichotomy a b with h | h | h
   ·have:=hpw a b ha hb h;rw[hae,hbe] at this;dsimp only at this;omega
   ·subst h;rw[←hae,hbe]
   ·have:=hpw b a hb ha h;rw[hae,hbe] at this;dsimp only at this;omega
  rw[this];exact h3
 intro f
 induction f with
 | zero=>
  intro listed a w hlf inv hm
  have hall:∀ i,i<all.size→listed.getD i true=true:=by
   intro i hi
   cases hc:listed.getD i true with
   | true=>rfl
   | false=>
    exfalso;have:i∈(List.range all.size).filter fun i=>!listed.getD i true:=bN'.2 ⟨bJ1.2 hi,by simp only[hc,bL1]⟩;have h2:=bQ6 this;unfold leftOf at hlf;omega
  have aT7:∀ i,i<all.size→listed.getD i false=true:=fun i hi=>by
   cases hcc:listed.getD i false with
   | true=>rfl
   | false=>have:=hall i hi;rw[getD_in bC4 hcc] at this;cases this
  refine⟨?_,?_⟩
  ·rw[bM9];intro i hi;obtain⟨hun,o,ho,_⟩:=mem_ready.1 hi;have hi':i<all.size:=(bK5.1 ho).1;rw[hall i hi'] at hun;cases hun
  ·rw[Oa (fun x hx=>aT7 x.1 (Z8 x hx).1),hend] at hm
   exact hfin listed inv hall a w hm
 | succ f ih=>
  intro listed a w hlf inv hm
  have hex:∃ i,i<all.size∧listed.getD i true=false:=by
   have h2:0<leftOf all.size listed:=by omega
   obtain⟨i,hi⟩:=bS5 h2;rw[bN'] at hi;exact⟨i,bJ1.1 hi.1,by simpa using hi.2⟩
  obtain⟨i0,su,hi0⟩:=hex;refine⟨fun hnil=>?_,fun i hi=>?_⟩
  ·exfalso;obtain⟨i,⟨hik,hil⟩,hmin⟩:=exists_least (p:=fun i=>i<all.size∧listed.getD i true=false) ⟨i0,su,hi0⟩
   have hr:i∈Region.ready .any all listed:=by
    rw[mem_ready];refine⟨hil,all[i],by simp[hik],fun e he hb=>?_⟩;have hb2:=bH'.1 hback i (bJ1.2 hik);simp only[bO3 hik] at hb2;have hb3:=(bN2.1 hb2) e he;simp only[hb,bK1,bL3,bX4] at hb3
    cases hc:listed.getD e.on false with
    | true=>rfl
    | false=>
     have h5:=hmin e.on ⟨by omega,getD_in bC4 hc⟩;omega
   rw[hnil] at hr;cases hr
  ·obtain⟨hun,o,ho,hall⟩:=mem_ready.1 hi;have hik:i<all.size:=(bK5.1 ho).1;have uG:listed.getD i false=false:=getD_both hun;have hdo:bF all i=o.dst:=by simp[bF,ho]
   have hleft:leftOf all.size (listed.setIfInBounds i true)=f:=by have:=pO hik bC4 hun;omega
   have inv':=inv.set hi hik
   cases hd1:o.dst with
   | some d=>
    obtain⟨dw,v,h1,h2,h3⟩:=hops i o ho (by rw[hd1];rfl);have hkn:=xu hds hm hik h1 hall
    have hsame:iU (listed.setIfInBounds i true) SL hp=iU listed SL hp:=by
     refine IA fun x hx=>?_;rw[getD_set_ne false];intro e;have:=(Z8 x hx).2;rw[←e,hdo,hd1] at this;cases this
    have hnext:∀ w',Good w0 mu (iU listed SL hp) w'→wpAny P .any all Q' f (listed.setIfInBounds i true) (a.put o.dst v) w':=fun w' hG'=>
     ih _ _ _ hleft inv' (by rw[hsame];exact SB hm ho hik hd1 hd hf h2 hG')
    obtain⟨hx,hhx⟩:∃ hx,wU P n w0 mu all (aT ds dw o.after.toList++l) hx o v∧hx.Perm (iU listed SL hp):=by
     cases hwt:Region.waitsFor .any all t0 i with
     | true=>
      have ht0:listed.getD t0 false=false:=by
       cases hc:listed.getD t0 false with
       | false=>rfl
       | true=>rw[sK inv hwt hc] at uG;cases uG
      have hdt:bF all t0=none:=by
       unfold yB at hw;rw[bH6] at hw;simpa using hw.1
      have hno:∀ x∈SL,listed.getD x.1 false=false:=by
       intro x hx;obtain⟨hxs,hxd⟩:=Z8 x hx;have h5:=DT hw hxs hxd
       cases hc:listed.getD x.1 false with
       | false=>rfl
       | true=>
        rcases Nat.lt_or_eq_of_le h5.1 with h6 | h6
        ·have:=sK inv (h5.2 t0 h6 hdt) hc;rw[ht0] at this;cases this
        ·rw[h6] at ht0;rw[ht0] at hc;cases hc
      rw[hwt] at h3;rw[sN hno]
      exact⟨hp,h3 [],.refl _⟩
     | false=>
      obtain⟨r,hr⟩:=(SA (listed:=listed) aI2 hle).perm;replace hr:=bJ5.trans hr;rw[hwt] at h3;exact⟨r++h0,h3 r,hr⟩
    obtain⟨h3,kK⟩:=hhx;have hgd:Good w0 mu hx w:=hm.good.perm kK;replace hnext:∀ w',Good w0 mu hx w'→wpAny P .any all Q' f (listed.setIfInBounds i true) (a.put o.dst v) w':=fun w' hG'=>hnext w' (hG'.perm kK.symm);unfold wpOp;simp only[ho];unfold wU at h3
    cases hg:o.guard with
    | none=>
     rw[hg] at h3;rw[if_pos bD2]
     exact .inl (h3 a w hkn hgd _ _ hnext)
    | some jw=>
     obtain⟨j,want⟩:=jw;rw[hg] at h3;obtain⟨dj,c0,b,u,hj,hb,hdj,hy,hvv⟩:=h3;have hw:=jL hkn hg hj hb hdj
     cases hc:(c0&&jd b want) with
     | true=>
      rw[hc] at hw hvv;rw[if_pos hw];rw[bH6] at hc;rw[show v=u from hvv] at hnext
      exact .inl (hy hc.1 hc.2 a w hkn hgd _ _ hnext)
     | false=>
      rw[hc] at hw hvv;rw[if_neg bF'];rw[show v=undef from hvv] at hnext
      exact hnext w hgd
   | none=>
    obtain⟨dw,L1,h',L2,h1,h2,h3,h4⟩:=hst i o ho hd1;have hkn:=xu hds hm hik h1 hall;obtain⟨hg,hdn,hrun⟩:=h4
    have hL1:∀ x∈L1,listed.getD x.1 false=true:=by
     intro x hx
     have hlt:x.1<i:=by
      rw[h2,bZ4] at hpw;exact hpw.2.2 x hx (i,h') (bI8 ..)
     have hxs:=Z8 x (by rw[h2];exact bJ2 _ hx);have h5:=(DT hw hik (by rw[hdo,hd1])).2 x.1 hlt hxs.2;obtain⟨oj,h6,e,he,hb,heq⟩:=Region.waitsFor_spec h5;rw[ho] at h6;cases h6;rw[←heq];exact hall e he hb
    have hL2:∀ x∈L2,listed.getD x.1 false=false:=by
     intro x hx
     have hlt:i<x.1:=by
      rw[h2,bZ4] at hpw;exact (List.pairwise_cons.1 hpw.2.1).1 x hx
     have hxs:=Z8 x (by rw[h2];exact bI4 _ (bI5 _ hx));have h5:=(DT hw hxs.1 hxs.2).2 i hlt (by rw[hdo,hd1])
     cases hc:listed.getD x.1 false with
     | false=>rfl
     | true=>rw[sK inv h5 hc] at uG;cases uG
    have FD:iU listed SL hp=L1.foldl (fun _ x=>x.2) hp:=by
     rw[h2,DU hL1];simp only[iU,uG];rfl
    have aI3:iU (listed.setIfInBounds i true) SL hp=h':=by
     rw[h2,DU (fun x hx=>getD_set_true (hL1 x hx))];have e1:(listed.setIfInBounds i true).getD i false=true:=by simp[inv.size,hik]
     simp only[iU,e1,cond_true];refine sN fun x hx=>?_;rw[getD_set_ne false]
     ·exact hL2 x hx
     ·intro e;rw[h2,bZ4] at hpw;have:=(List.pairwise_cons.1 hpw.2.1).1 x hx;dsimp only at this;omega
    rw[FD] at hm;unfold wpOp;simp only[ho];rw[if_pos bD2];refine .inl (hrun a w hkn hm.good _ _ fun w' hG'=>?_);refine ih _ _ _ hleft inv' ?_;rw[aI3];refine⟨hm.size,hm.defers,hm.has,fun j hj hl d' u hd' hu=>?_,hG'⟩;refine hm.done j hj ?_ d' u hd' hu;by_cases hji:j=i
    ·subst hji;rw[hdo,hd1] at hd';cases hd'
    ·rwa [getD_set_ne false (bP0 hji)] at hl
end
section
variable {P : Program} {T : Tab} {n : Nat} {w0 : World} {mu : List Nat} {l : Fm} {h0 hp hc : Hp} {Q : Exit → Fm → Hp → Prop} {all : Array Oper} {ds : List (Nat × Nat)} {t0 i d : Nat} {r rest : List Oper} {iv fr : Fm} {op : Op} {ty : TypeId} {pos : String} {af : Array Edge}
theorem Ws(t0:Nat)(h0:Hp)(hm:P.follows .mixedOrders=true)(hB:N9 ops.toArray n t0=true)(hf:bW l (dstsOf ops.toArray ops.length)=true)(hle:aI h0 hp)
  (h:DW P n w0 mu ops.toArray (dB ops 0) l h0 hp t0 Q 0 ops [] hp):St P n w0 mu (.region id ops.toArray true) l hp Q:=by
 intro a w hk hG;simp only[N9,bH6] at hB;obtain⟨⟨hd,hback⟩,hw⟩:=hB;have hsz:ops.toArray.size=ops.length:=by simp
 obtain⟨bz,SL,he,_,hE,hops,hst,Z8,hpw,hend,hq⟩:=Z7 ops 0 [] hp bB5 (fun j o ho=>by simp[bF,ho]) h
 have inv0:HeadInv .any ops.toArray ops.toArray.size (Array.replicate ops.toArray.size false):=
  ⟨by simp,fun j oj _ hl=>bC0,fun t h1 ht=>bB3⟩
 have hleft:leftOf ops.toArray.size (Array.replicate ops.toArray.size false)=ops.toArray.size:=by
  unfold leftOf;rw[bP'.2]
  ·simp
  ·intro i hi;have hi':i<ops.toArray.size:=by simpa using hi
   have:(Array.replicate ops.toArray.size false).getD i true=false:=getD_in (by simpa using hi') (getD_replicate_false _ _);simp only[this,bL1]
 have hds:∀ k d,lk (dB ops 0) k=some d→bF ops.toArray k=some d:=fun k d h=>by have:=(lN ops 0 k d h).2;simpa [bF] using this
 have aI4:∀ x∈SL,x.1<ops.toArray.size:=by
  intro x hx;have:=(Z8 x hx).2.1;rw[hsz];omega
 refine wp_region_any hm ?_
 have key:=aI1 hds (P:=P) (n:=n) (w0:=w0) (mu:=mu) (l:=l) (hp:=hp) (h0:=h0) (bz:=bz) (all:=ops.toArray) (t0:=t0) (SL:=SL) (he:=he) (Q':=QQ n w0 mu Q) hd (by rw[hsz];exact hf) hback hw hle
  (fun i o ho hs=>by
   obtain⟨dw,v,h1,h2,h3⟩:=hops i o (by simpa using ho) hs
   exact⟨dw,v,fun j u hu=>by simpa using h1 j u hu,by simpa using h2,fun hx=>by simpa using h3 hx⟩)
  (fun i o ho hs=>by
   obtain⟨dw,L1,h',L2,h1,h2,h3,h4⟩:=hst i o (by simpa using ho) hs
   exact⟨dw,L1,h',L2,fun j u hu=>by simpa using h1 j u hu,by simpa using h2,h3,h4⟩)
  (fun x hx=>⟨aI4 x hx,(Z8 x hx).2.2⟩) hpw hend
  (fun listed inv hall a w hmid=>by
   refine⟨_,_,⟨hmid.size,hmid.defers,fun t v ht=>?_⟩,hmid.good,hq⟩;rcases fV ht with ht | ⟨_,ht⟩
   ·obtain⟨j,h1,h2⟩:=jX (iY ht);obtain⟨h3,h4⟩:=hE j v h1;have hjk:j<ops.toArray.size:=by rw[hsz];omega
    have h5:=hall j hjk
    exact hmid.done j hjk (by
     cases hcc:listed.getD j false with
     | true=>rfl
     | false=>rw[getD_in (by rw[inv.size];exact hjk) hcc] at h5;cases h5) t v (hds _ _ h2) h4
   ·exact hmid.has t v ht)
  ops.toArray.size _ a { w with drawn:=w.drawn+1 } hleft inv0 ⟨hk.size,hk.defers,hk.has,fun i _ hl=>bC0,?_⟩
 ·exact key
 ·rw[sN (fun x _=>getD_replicate_false _ _)];exact hG.drawn _
def lJ(P:Program)(n:Nat)(w0:World)(mu:List Nat)(all:Array Oper)(ds:List (Nat×Nat))(l:Fm)(h0 hp:Hp)(t0:Nat)(Q:Exit→Fm→Hp→Prop)(i:Nat)(ops:List Oper)(iv fr:Fm)(hc:Hp):Prop:=bV ds iv=fr→DW P n w0 mu all ds l h0 hp t0 Q i ops iv hc
theorem SC(h:lJ P n w0 mu all ds l h0 hp t0 Q 0 ops [] [] hp):DW P n w0 mu all ds l h0 hp t0 Q 0 ops [] hp:=h rfl
theorem Z9(h:Q .normal (fr++l) hc):lJ P n w0 mu all ds l h0 hp t0 Q i [] iv fr hc:=fun e=>by subst e;exact h
theorem Wu(hlk:lk ds i=some d)(hwt:Region.waitsFor .any all t0 i=true)(hy:Hy P n w0 mu (aT ds iv af.toList++l) hp ⟨some d,op,ty,pos,af,none⟩ v)
  (h:lJ P n w0 mu all ds l h0 hp t0 Q (i+1) rest ((i,v)::iv) ((d,v)::fr) hc):lJ P n w0 mu all ds l h0 hp t0 Q i (⟨some d,op,ty,pos,af,none⟩::rest) iv fr hc:=
 fun e=>⟨v,fun hx=>by rw[hwt];exact hy,h (lQ hlk e)⟩
theorem am9(hlk:lk ds i=some d)(hwt:Region.waitsFor .any all t0 i=false)(hy:∀ hx,Hy P n w0 mu (aT ds iv af.toList++l) (hx++h0) ⟨some d,op,ty,pos,af,none⟩ v)
  (h:lJ P n w0 mu all ds l h0 hp t0 Q (i+1) rest ((i,v)::iv) ((d,v)::fr) hc):lJ P n w0 mu all ds l h0 hp t0 Q i (⟨some d,op,ty,pos,af,none⟩::rest) iv fr hc:=
 fun e=>⟨v,fun hx=>by rw[hwt];exact hy hx,h (lQ hlk e)⟩
theorem aI5(ok:bC P T){cs':Array Value}{hp':Hp}
  (hx:ev (aT ds iv af.toList++l) x=some (.pointer (some ⟨b,off,none⟩))) (hy:ev (aT ds iv af.toList++l) y=some v) (lC:v.cells=vs.toArray) (hs:lk T.sz t=some sz) (hl:vs.length=sz) (hperm:(⟨b,cs,tb⟩::hp').Perm hc) (hv1:vs.all (·.oneCell')=true) (hlt:off+vs.length≤cs.size) (hput:putAt cs off vs=cs')
  (hle:aI h0 (⟨b,cs',tb⟩::hp')) (h:lJ P n w0 mu all ds l h0 hp t0 Q (i+1) rest iv fr (⟨b,cs',tb⟩::hp')):lJ P n w0 mu all ds l h0 hp t0 Q i (⟨none,.store t x y,ty,pos,af,none⟩::rest) iv fr hc:=by
 refine fun e=>⟨⟨b,cs',tb⟩::hp',⟨rfl,rfl,fun a w hk hG K Q' hK=>?_⟩,hle,h e⟩
 subst hput;have hG':=hG.perm hperm;have hb:=hG'.here _ (bI8 ..)
 have hst:=run_storeCells_cells (P:=P) b off vs 0 w
  (fun j hj=>by rw[cell_of_block hb];simp[show off+j<cs.size by omega])
  (fun j _=>fQ hb) (fun u hu=>(bH'.1 hv1) u hu)
 unfold Oper.wp
 have hrun:(execOp a.eval ⟨none,.store t x y,ty,pos,af,none⟩).run P w=.ok .skip (w.setCells b off vs):=by
  simp only[execOp,hk.ev hx,hk.ev hy];simp only[bL4] at hst;simp[Instr.storeAt,Instr.sureAddr,storeVar,lC,run_sizeOf (show fK P t=some vs.length by rw[hl];exact ok.zO hs) w,hst]
 rw[hrun];exact hK _ (Good.sets (w:=w) vs cs off w hG')
end
end
section
set_option maxRecDepth 100000
def Tb:Tab where
 sz:=[(2,1),(3,1),(4,1),(5,1),(6,1),(7,4),(8,4),(12,1),(15,1),(16,1),(17,1),(18,1),(19,1),(21,1),(22,1),(23,1),(24,1),(25,1),(26,1),(27,1),(28,4),(29,4),(30,1),(31,5),(32,5),(36,6),(37,6),(38,8),(39,8),(40,1),(44,1),(45,1),(46,1),(47,3),(48,3),(50,2),(51,2),(53,1),(59,1),(60,1),(61,6),(62,6),(64,8),(65,6),(66,6),(67,15),(68,15),(69,1),(70,1),(71,2),(72,2),(73,19),(74,19),(77,6),(78,6),(79,14),(80,14),(81,1),(86,1),(89,7),(90,7),(91,1),(92,1),(94,9),(95,9),(99,5),(100,5),(101,16),(102,16),(103,2),(104,2),(122,1),(126,4),(127,4),(128,9),(129,9),(130,5),(131,5),(134,1),(139,1),(140,4),(141,8),(142,8),(145,1),(148,3),(149,3),(155,1),(172,2),(173,2),(200,3),(201,3),(204,4),(226,1),(236,1),(249,1),(250,1),(253,1),(269,1),(270,1),(271,2),(272,2),(274,10),(275,10),(283,1),(284,2),(285,2),(286,11),(287,11),(298,14),(299,14),(311,1),(331,4),(332,4),(337,1),(340,3),(341,3),(354,3),(355,3),(372,1),(376,1),(393,1),(394,3),(395,3),(409,0),(410,0),(411,0),(412,1),(413,1),(414,1),(416,1),(417,1),(418,1)]
 sc:=[2,3,4,5,6,12,15,16,17,21,22,25,26,27,30,40,44,45,46,53,59,60,69,70,81,86,91,92,122,134,139,145,155,226,236,249,250,253,283,311,337,372,376,393,412,413,414,416,417,418]
 ag:=[7,8,18,19,23,24,28,29,31,32,36,37,38,39,47,48,50,51,61,62,64,65,66,67,68,71,72,73,74,77,78,79,80,89,90,94,95,99,100,101,102,103,104,126,127,128,129,130,131,140,141,142,148,149,172,173,200,201,204,269,270,271,272,274,275,284,285,286,287,298,299,331,332,340,341,354,355,394,395,409,410,411]
 sl:=[(22,53,1),(25,74,19),(26,62,6),(27,68,15),(30,39,8),(44,51,2),(45,100,5),(46,104,2),(59,3,1),(60,102,16),(69,80,14),(70,127,4),(91,92,1),(92,173,2),(139,201,3),(236,72,2),(283,355,3),(372,40,1),(376,95,9),(393,4,1)]
 ar:=[(64,8,53,1),(140,4,139,1),(204,4,3,1),(409,0,16,1)]
 fo:=[(7,[0,1,2,3]),(8,[0,1,2,3]),(18,[0]),(19,[0]),(23,[0]),(24,[0]),(28,[0,1,2,3]),(29,[0,1,2,3]),(31,[0,4]),(32,[0,4]),(36,[0,1,2,3,4,5]),(37,[0,1,2,3,4,5]),(38,[0,1,7]),(39,[0,1,7]),(47,[0,1,2]),(48,[0,1,2]),(50,[0,1]),(51,[0,1]),(61,[0,1,2,3,4,5]),(62,[0,1,2,3,4,5]),(65,[0,1,2,3,4,5]),(66,[0,1,2,3,4,5]),(67,[0,8,9]),(68,[0,8,9]),(71,[0,1]),(72,[0,1]),(73,[0,15,16,17]),(74,[0,15,16,17]),(77,[0,1,2,3,4,5]),(78,[0,1,2,3,4,5]),(79,[0,1,2,3,4,5,6,7,8]),(80,[0,1,2,3,4,5,6,7,8]),(89,[0,4]),(90,[0,4]),(94,[0,1,2,8]),(95,[0,1,2,8]),(99,[0,1,2,3,4]),(100,[0,1,2,3,4]),(101,[0,15]),(102,[0,15]),(103,[0,1]),(104,[0,1]),(126,[0,1,2,3]),(127,[0,1,2,3]),(128,[0,1,2,8]),(129,[0,1,2,8]),(130,[0,1,2,3,4]),(131,[0,1,2,3,4]),(141,[0,4]),(142,[0,4]),(148,[0]),(149,[0]),(172,[0,1]),(173,[0,1]),(200,[0,2]),(201,[0,2]),(269,[0]),(270,[0]),(271,[0,1]),(272,[0,1]),(274,[0,9]),(275,[0,9]),(284,[0,1]),(285,[0,1]),(286,[0,2]),(287,[0,2]),(298,[0]),(299,[0]),(331,[0]),(332,[0]),(340,[0,1,2]),(341,[0,1,2]),(354,[0,1,2]),(355,[0,1,2]),(394,[0]),(395,[0])]
 pl:=[(7,[(0,1),(1,1),(2,1),(3,1)]),(8,[(0,1),(1,1),(2,1),(3,1)]),(18,[(0,1)]),(19,[(0,1)]),(23,[(0,1)]),(24,[(0,1)]),(28,[(0,1),(1,1),(2,1),(3,1)]),(29,[(0,1),(1,1),(2,1),(3,1)]),(31,[(0,4),(4,1)]),(32,[(0,4),(4,1)]),(36,[(0,1),(1,1),(2,1),(3,1),(4,1),(5,1)]),(37,[(0,1),(1,1),(2,1),(3,1),(4,1),(5,1)]),(38,[(0,1),(1,6),(7,1)]),(39,[(0,1),(1,6),(7,1)]),(47,[(0,1),(1,1),(2,1)]),(48,[(0,1),(1,1),(2,1)]),(50,[(0,1),(1,1)]),(51,[(0,1),(1,1)]),(61,[(0,1),(1,1),(2,1),(3,1),(4,1),(5,1)]),(62,[(0,1),(1,1),(2,1),(3,1),(4,1),(5,1)]),(65,[(0,1),(1,1),(2,1),(3,1),(4,1),(5,1)]),(66,[(0,1),(1,1),(2,1),(3,1),(4,1),(5,1)]),(67,[(0,8),(8,1),(9,6)]),(68,[(0,8),(8,1),(9,6)]),(71,[(0,1),(1,1)]),(72,[(0,1),(1,1)]),(73,[(0,15),(15,1),(16,1),(17,2)]),(74,[(0,15),(15,1),(16,1),(17,2)]),(77,[(0,1),(1,1),(2,1),(3,1),(4,1),(5,1)]),(78,[(0,1),(1,1),(2,1),(3,1),(4,1),(5,1)]),(79,[(0,1),(1,1),(2,1),(3,1),(4,1),(5,1),(6,1),(7,1),(8,6)]),(80,[(0,1),(1,1),(2,1),(3,1),(4,1),(5,1),(6,1),(7,1),(8,6)]),(89,[(0,4),(4,3)]),(90,[(0,4),(4,3)]),(94,[(0,1),(1,1),(2,6),(8,1)]),(95,[(0,1),(1,1),(2,6),(8,1)]),(99,[(0,1),(1,1),(2,1),(3,1),(4,1)]),(100,[(0,1),(1,1),(2,1),(3,1),(4,1)]),(101,[(0,15),(15,1)]),(102,[(0,15),(15,1)]),(103,[(0,1),(1,1)]),(104,[(0,1),(1,1)]),(126,[(0,1),(1,1),(2,1),(3,1)]),(127,[(0,1),(1,1),(2,1),(3,1)]),(128,[(0,1),(1,1),(2,6),(8,1)]),(129,[(0,1),(1,1),(2,6),(8,1)]),(130,[(0,1),(1,1),(2,1),(3,1),(4,1)]),(131,[(0,1),(1,1),(2,1),(3,1),(4,1)]),(141,[(0,4),(4,4)]),(142,[(0,4),(4,4)]),(148,[(0,3)]),(149,[(0,3)]),(172,[(0,1),(1,1)]),(173,[(0,1),(1,1)]),(200,[(0,2),(2,1)]),(201,[(0,2),(2,1)]),(269,[(0,1)]),(270,[(0,1)]),(271,[(0,1),(1,1)]),(272,[(0,1),(1,1)]),(274,[(0,9),(9,1)]),(275,[(0,9),(9,1)]),(284,[(0,1),(1,1)]),(285,[(0,1),(1,1)]),(286,[(0,2),(2,9)]),(287,[(0,2),(2,9)]),(298,[(0,14)]),(299,[(0,14)]),(331,[(0,4)]),(332,[(0,4)]),(340,[(0,1),(1,1),(2,1)]),(341,[(0,1),(1,1),(2,1)]),(354,[(0,1),(1,1),(2,1)]),(355,[(0,1),(1,1),(2,1)]),(394,[(0,3)]),(395,[(0,3)])]
 ik:=[(2,.i64),(3,.i64),(5,.u8),(6,.u8),(12,.u64),(21,.i32),(40,.i64),(53,.u64),(81,.u64),(412,.u32),(413,.u8),(414,.u8),(417,.i32),(418,.i32)]
 bo:=[4]
 eb:=[(2,8),(3,8),(4,1),(5,1),(6,1),(7,24),(8,24),(12,8),(15,8),(16,8),(17,8),(18,8),(19,8),(21,4),(22,24),(23,24),(24,24),(25,24),(26,24),(27,24),(28,96),(29,96),(30,24),(31,120),(32,120),(36,48),(37,48),(38,64),(39,64),(40,8),(44,24),(45,24),(46,24),(47,72),(48,72),(50,16),(51,16),(53,8),(59,24),(60,24),(61,88),(62,88),(64,64),(65,48),(66,48),(67,120),(68,120),(69,24),(70,24),(71,48),(72,48),(73,184),(74,184),(77,16),(78,16),(79,80),(80,80),(81,8),(86,8),(89,168),(90,168),(91,24),(92,24),(94,40),(95,40),(99,64),(100,64),(101,128),(102,128),(103,16),(104,16),(122,8),(126,32),(127,32),(128,40),(129,40),(130,40),(131,40),(134,8),(139,24),(140,96),(141,192),(142,192),(145,8),(148,72),(149,72),(155,8),(172,16),(173,16),(200,24),(201,24),(204,32),(226,8),(236,24),(249,8),(250,8),(253,8),(269,24),(270,24),(271,32),(272,32),(274,64),(275,64),(283,24),(284,16),(285,16),(286,56),(287,56),(298,80),(299,80),(311,8),(331,32),(332,32),(337,8),(340,24),(341,24),(354,24),(355,24),(372,24),(376,24),(393,24),(394,24),(395,24),(409,0),(410,0),(411,0),(412,4),(413,1),(414,1),(416,8),(417,4),(418,4)]
 zs:=[(2,.int .i64 0),(3,.int .i64 0),(4,.bool false),(5,.int .u8 0),(6,.int .u8 0),(7,.agg #[.int .i64 0,.int .i64 0,.bool false,.int .u8 0]),(8,.agg #[.int .i64 0,.int .i64 0,.bool false,.int .u8 0]),(12,.int .u64 0),(15,.pointer none),(16,.pointer none),(17,.pointer none),(18,.agg #[.pointer none]),(19,.agg #[.pointer none]),(21,.int .i32 0),(22,.slice none 0 0),(23,.agg #[.slice none 0 0]),(24,.agg #[.slice none 0 0]),(25,.slice none 0 0),(26,.slice none 0 0),(27,.slice none 0 0),(28,.agg #[.slice none 0 0,.slice none 0 0,.slice none 0 0,.slice none 0 0]),(29,.agg #[.slice none 0 0,.slice none 0 0,.slice none 0 0,.slice none 0 0]),(30,.slice none 0 0),(31,.agg #[.slice none 0 0,.slice none 0 0,.slice none 0 0,.slice none 0 0,.slice none 0 0]),(32,.agg #[.slice none 0 0,.slice none 0 0,.slice none 0 0,.slice none 0 0,.slice none 0 0]),(36,.agg #[.int .i64 0,.int .i64 0,.int .i64 0,.int .i64 0,.int .i64 0,.int .i64 0]),(37,.agg #[.int .i64 0,.int .i64 0,.int .i64 0,.int .i64 0,.int .i64 0,.int .i64 0]),(38,.agg #[.int .i64 0,.int .i64 0,.int .i64 0,.int .i64 0,.int .i64 0,.int .i64 0,.int .i64 0,.bool false]),(39,.agg #[.int .i64 0,.int .i64 0,.int .i64 0,.int .i64 0,.int .i64 0,.int .i64 0,.int .i64 0,.bool false]),(40,.int .i64 0),(44,.slice none 0 0),(45,.slice none 0 0),(46,.slice none 0 0),(47,.agg #[.slice none 0 0,.slice none 0 0,.slice none 0 0]),(48,.agg #[.slice none 0 0,.slice none 0 0,.slice none 0 0]),(50,.agg #[.int .i64 0,.int .i64 0]),(51,.agg #[.int .i64 0,.int .i64 0]),(53,.int .u64 0),(59,.slice none 0 0),(60,.slice none 0 0),(61,.agg #[.bool false,.bool false,.int .i64 0,.slice none 0 0,.slice none 0 0,.slice none 0 0]),(62,.agg #[.bool false,.bool false,.int .i64 0,.slice none 0 0,.slice none 0 0,.slice none 0 0]),(64,.agg #[.int .u64 0,.int .u64 0,.int .u64 0,.int .u64 0,.int .u64 0,.int .u64 0,.int .u64 0,.int .u64 0]),(65,.agg #[.int .u64 0,.int .u64 0,.int .u64 0,.int .u64 0,.int .u64 0,.int .u64 0]),(66,.agg #[.int .u64 0,.int .u64 0,.int .u64 0,.int .u64 0,.int .u64 0,.int .u64 0]),(67,.agg #[.int .u64 0,.int .u64 0,.int .u64 0,.int .u64 0,.int .u64 0,.int .u64 0,.int .u64 0,.int .u64 0,.int .u64 0,.int .u64 0,.int .u64 0,.int .u64 0,.int .u64 0,.int .u64 0,.int .u64 0]),(68,.agg #[.int .u64 0,.int .u64 0,.int .u64 0,.int .u64 0,.int .u64 0,.int .u64 0,.int .u64 0,.int .u64 0,.int .u64 0,.int .u64 0,.int .u64 0,.int .u64 0,.int .u64 0,.int .u64 0,.int .u64 0]),(69,.slice none 0 0),(70,.slice none 0 0),(71,.agg #[.slice none 0 0,.slice none 0 0]),(72,.agg #[.slice none 0 0,.slice none 0 0]),(73,.agg #[.int .u64 0,.int .u64 0,.int .u64 0,.int .u64 0,.int .u64 0,.int .u64 0,.int .u64 0,.int .u64 0,.int .u64 0,.int .u64 0,.int .u64 0,.int .u64 0,.int .u64 0,.int .u64 0,.int .u64 0,.int .i64 0,.int .i64 0,.slice none 0 0,.slice none 0 0]),(74,.agg #[.int .u64 0,.int .u64 0,.int .u64 0,.int .u64 0,.int .u64 0,.int .u64 0,.int .u64 0,.int .u64 0,.int .u64 0,.int .u64 0,.int .u64 0,.int .u64 0,.int .u64 0,.int .u64 0,.int .u64 0,.int .i64 0,.int .i64 0,.slice none 0 0,.slice none 0 0]),(77,.agg #[.bool false,.bool false,.bool false,.bool false,.bool false,.int .i64 0]),(78,.agg #[.bool false,.bool false,.bool false,.bool false,.bool false,.int .i64 0]),(79,.agg #[.int .i64 0,.int .i64 0,.int .i64 0,.bool false,.int .i64 0,.int .i64 0,.int .i64 0,.int .i64 0,.bool false,.bool false,.bool false,.bool false,.bool false,.int .i64 0]),(80,.agg #[.int .i64 0,.int .i64 0,.int .i64 0,.bool false,.int .i64 0,.int .i64 0,.int .i64 0,.int .i64 0,.bool false,.bool false,.bool false,.bool false,.bool false,.int .i64 0]),(81,.int .u64 0),(86,.pointer none),(89,.agg #[.slice none 0 0,.slice none 0 0,.slice none 0 0,.slice none 0 0,.slice none 0 0,.slice none 0 0,.slice none 0 0]),(90,.agg #[.slice none 0 0,.slice none 0 0,.slice none 0 0,.slice none 0 0,.slice none 0 0,.slice none 0 0,.slice none 0 0]),(91,.slice none 0 0),(92,.slice none 0 0),(94,.agg #[.int .i64 0,.int .i64 0,.bool false,.bool false,.bool false,.bool false,.bool false,.int .i64 0,.int .i64 0]),(95,.agg #[.int .i64 0,.int .i64 0,.bool false,.bool false,.bool false,.bool false,.bool false,.int .i64 0,.int .i64 0]),(99,.agg #[.bool false,.bool false,.int .i64 0,.slice none 0 0,.slice none 0 0]),(100,.agg #[.bool false,.bool false,.int .i64 0,.slice none 0 0,.slice none 0 0]),(101,.agg #[.int .u64 0,.int .u64 0,.int .u64 0,.int .u64 0,.int .u64 0,.int .u64 0,.int .u64 0,.int .u64 0,.int .u64 0,.int .u64 0,.int .u64 0,.int .u64 0,.int .u64 0,.int .u64 0,.int .u64 0,.int .i64 0]),(102,.agg #[.int .u64 0,.int .u64 0,.int .u64 0,.int .u64 0,.int .u64 0,.int .u64 0,.int .u64 0,.int .u64 0,.int .u64 0,.int .u64 0,.int .u64 0,.int .u64 0,.int .u64 0,.int .u64 0,.int .u64 0,.int .i64 0]),(103,.agg #[.int .i64 0,.int .i64 0]),(104,.agg #[.int .i64 0,.int .i64 0]),(122,.pointer none),(126,.agg #[.int .i64 0,.int .i64 0,.int .i64 0,.int .i64 0]),(127,.agg #[.int .i64 0,.int .i64 0,.int .i64 0,.int .i64 0]),(128,.agg #[.int .i64 0,.int .i64 0,.bool false,.bool false,.bool false,.bool false,.bool false,.int .i64 0,.int .i64 0]),(129,.agg #[.int .i64 0,.int .i64 0,.bool false,.bool false,.bool false,.bool false,.bool false,.int .i64 0,.int .i64 0]),(130,.agg #[.int .i64 0,.int .i64 0,.int .i64 0,.bool false,.int .i64 0]),(131,.agg #[.int .i64 0,.int .i64 0,.int .i64 0,.bool false,.int .i64 0]),(134,.pointer none),(139,.slice none 0 0),(140,.agg #[.slice none 0 0,.slice none 0 0,.slice none 0 0,.slice none 0 0]),(141,.agg #[.slice none 0 0,.slice none 0 0,.slice none 0 0,.slice none 0 0,.slice none 0 0,.slice none 0 0,.slice none 0 0,.slice none 0 0]),(142,.agg #[.slice none 0 0,.slice none 0 0,.slice none 0 0,.slice none 0 0,.slice none 0 0,.slice none 0 0,.slice none 0 0,.slice none 0 0]),(145,.pointer none),(148,.agg #[.slice none 0 0,.slice none 0 0,.slice none 0 0]),(149,.agg #[.slice none 0 0,.slice none 0 0,.slice none 0 0]),(155,.pointer none),(172,.agg #[.int .i64 0,.int .i64 0]),(173,.agg #[.int .i64 0,.int .i64 0]),(200,.agg #[.int .i64 0,.int .i64 0,.int .i64 0]),(201,.agg #[.int .i64 0,.int .i64 0,.int .i64 0]),(204,.agg #[.int .i64 0,.int .i64 0,.int .i64 0,.int .i64 0]),(226,.pointer none),(236,.slice none 0 0),(249,.pointer none),(250,.pointer none),(253,.pointer none),(269,.agg #[.slice none 0 0]),(270,.agg #[.slice none 0 0]),(271,.agg #[.slice none 0 0,.int .i64 0]),(272,.agg #[.slice none 0 0,.int .i64 0]),(274,.agg #[.int .i64 0,.int .i64 0,.bool false,.bool false,.bool false,.bool false,.bool false,.int .i64 0,.int .i64 0,.slice none 0 0]),(275,.agg #[.int .i64 0,.int .i64 0,.bool false,.bool false,.bool false,.bool false,.bool false,.int .i64 0,.int .i64 0,.slice none 0 0]),(283,.slice none 0 0),(284,.agg #[.int .i64 0,.int .i64 0]),(285,.agg #[.int .i64 0,.int .i64 0]),(286,.agg #[.int .i64 0,.int .i64 0,.int .i64 0,.int .i64 0,.bool false,.bool false,.bool false,.bool false,.bool false,.int .i64 0,.int .i64 0]),(287,.agg #[.int .i64 0,.int .i64 0,.int .i64 0,.int .i64 0,.bool false,.bool false,.bool false,.bool false,.bool false,.int .i64 0,.int .i64 0]),(298,.agg #[.int .i64 0,.int .i64 0,.int .i64 0,.bool false,.int .i64 0,.int .i64 0,.int .i64 0,.int .i64 0,.bool false,.bool false,.bool false,.bool false,.bool false,.int .i64 0]),(299,.agg #[.int .i64 0,.int .i64 0,.int .i64 0,.bool false,.int .i64 0,.int .i64 0,.int .i64 0,.int .i64 0,.bool false,.bool false,.bool false,.bool false,.bool false,.int .i64 0]),(311,.pointer none),(331,.agg #[.int .i64 0,.int .i64 0,.int .i64 0,.int .i64 0]),(332,.agg #[.int .i64 0,.int .i64 0,.int .i64 0,.int .i64 0]),(337,.pointer none),(340,.agg #[.bool false,.int .i64 0,.int .i64 0]),(341,.agg #[.bool false,.int .i64 0,.int .i64 0]),(354,.agg #[.int .i64 0,.int .i64 0,.int .u64 0]),(355,.agg #[.int .i64 0,.int .i64 0,.int .u64 0]),(372,.slice none 0 0),(376,.slice none 0 0),(393,.slice none 0 0),(394,.agg #[.int .i64 0,.int .i64 0,.int .u64 0]),(395,.agg #[.int .i64 0,.int .i64 0,.int .u64 0]),(409,.agg #[]),(410,.agg #[]),(411,.agg #[]),(412,.int .u32 0),(413,.int .u8 0),(414,.int .u8 0),(416,.pointer none),(417,.int .i32 0),(418,.int .i32 0)]
set_option maxRecDepth 100000 in
theorem aB : bC Tryz.prog Tb where
  sz := by kernel_rfl
  sc := by kernel_rfl
  ag := by kernel_rfl
  sl := by kernel_rfl
  ar := by kernel_rfl
  fo := by kernel_rfl
  pl := by kernel_rfl
  ik := by kernel_rfl
  bo := by kernel_rfl
  eb := by kernel_rfl
  zs := by (repeat' (first | exact trivial | kernel_rfl | refine And.intro ?_ ?_))
def Lt:List (Nat×List jU):=[(7,[.i .i64,.i .i64,.b,.i .u8]),(8,[.i .i64,.i .i64,.b,.i .u8]),(36,[.i .i64,.i .i64,.i .i64,.i .i64,.i .i64,.i .i64]),(37,[.i .i64,.i .i64,.i .i64,.i .i64,.i .i64,.i .i64]),(38,[.i .i64,.i .i64,.i .i64,.i .i64,.i .i64,.i .i64,.i .i64,.b]),(39,[.i .i64,.i .i64,.i .i64,.i .i64,.i .i64,.i .i64,.i .i64,.b]),(50,[.i .i64,.i .i64]),(51,[.i .i64,.i .i64]),(64,[.i .u64,.i .u64,.i .u64,.i .u64,.i .u64,.i .u64,.i .u64,.i .u64]),(65,[.i .u64,.i .u64,.i .u64,.i .u64,.i .u64,.i .u64]),(66,[.i .u64,.i .u64,.i .u64,.i .u64,.i .u64,.i .u64]),(67,[.i .u64,.i .u64,.i .u64,.i .u64,.i .u64,.i .u64,.i .u64,.i .u64,.i .u64,.i .u64,.i .u64,.i .u64,.i .u64,.i .u64,.i .u64]),(68,[.i .u64,.i .u64,.i .u64,.i .u64,.i .u64,.i .u64,.i .u64,.i .u64,.i .u64,.i .u64,.i .u64,.i .u64,.i .u64,.i .u64,.i .u64]),(77,[.b,.b,.b,.b,.b,.i .i64]),(78,[.b,.b,.b,.b,.b,.i .i64]),(79,[.i .i64,.i .i64,.i .i64,.b,.i .i64,.i .i64,.i .i64,.i .i64,.b,.b,.b,.b,.b,.i .i64]),(80,[.i .i64,.i .i64,.i .i64,.b,.i .i64,.i .i64,.i .i64,.i .i64,.b,.b,.b,.b,.b,.i .i64]),(94,[.i .i64,.i .i64,.b,.b,.b,.b,.b,.i .i64,.i .i64]),(95,[.i .i64,.i .i64,.b,.b,.b,.b,.b,.i .i64,.i .i64]),(101,[.i .u64,.i .u64,.i .u64,.i .u64,.i .u64,.i .u64,.i .u64,.i .u64,.i .u64,.i .u64,.i .u64,.i .u64,.i .u64,.i .u64,.i .u64,.i .i64]),(102,[.i .u64,.i .u64,.i .u64,.i .u64,.i .u64,.i .u64,.i .u64,.i .u64,.i .u64,.i .u64,.i .u64,.i .u64,.i .u64,.i .u64,.i .u64,.i .i64]),(103,[.i .i64,.i .i64]),(104,[.i .i64,.i .i64]),(126,[.i .i64,.i .i64,.i .i64,.i .i64]),(127,[.i .i64,.i .i64,.i .i64,.i .i64]),(128,[.i .i64,.i .i64,.b,.b,.b,.b,.b,.i .i64,.i .i64]),(129,[.i .i64,.i .i64,.b,.b,.b,.b,.b,.i .i64,.i .i64]),(130,[.i .i64,.i .i64,.i .i64,.b,.i .i64]),(131,[.i .i64,.i .i64,.i .i64,.b,.i .i64]),(172,[.i .i64,.i .i64]),(173,[.i .i64,.i .i64]),(200,[.i .i64,.i .i64,.i .i64]),(201,[.i .i64,.i .i64,.i .i64]),(204,[.i .i64,.i .i64,.i .i64,.i .i64]),(284,[.i .i64,.i .i64]),(285,[.i .i64,.i .i64]),(286,[.i .i64,.i .i64,.i .i64,.i .i64,.b,.b,.b,.b,.b,.i .i64,.i .i64]),(287,[.i .i64,.i .i64,.i .i64,.i .i64,.b,.b,.b,.b,.b,.i .i64,.i .i64]),(298,[.i .i64,.i .i64,.i .i64,.b,.i .i64,.i .i64,.i .i64,.i .i64,.b,.b,.b,.b,.b,.i .i64]),(299,[.i .i64,.i .i64,.i .i64,.b,.i .i64,.i .i64,.i .i64,.i .i64,.b,.b,.b,.b,.b,.i .i64]),(331,[.i .i64,.i .i64,.i .i64,.i .i64]),(332,[.i .i64,.i .i64,.i .i64,.i .i64]),(340,[.b,.i .i64,.i .i64]),(341,[.b,.i .i64,.i .i64]),(354,[.i .i64,.i .i64,.i .u64]),(355,[.i .i64,.i .i64,.i .u64]),(394,[.i .i64,.i .i64,.i .u64]),(395,[.i .i64,.i .i64,.i .u64])]
theorem QB:J7 Tryz.prog Lt:=by (repeat' (first | exact trivial | kernel_rfl | refine And.intro ?_ ?_))
def iV:List Nat:=[3,4,5,6,7,8,9,10,11,12,13,14,15,16,17,18,19,20,21,22,23,24,25,26,27,28,29,30,31,32,33,34,35,36,37,38,39,40,41,42,43,44,45,46,47,48,49,50,51,52,53,54,55,56,57,58,59,60,61,62,63,64,65,66,67,68,69,70,71,72,73,74,75,76,77,78,79,80,81,82,83,84,85,86,87,88,89,90,91,92,93,94,95,96,97,98,99,100,101,102,103,104,105,106,107,108,109,110,111,112,113,114,115,116,117,118,119,120,121,122,123,124,125,126,127,128,129,130,131,132,133,134,135,136,137,138,139,140,141,142,143,144,145,146,147,148,149,150,151,152,153,154,155,156,157,158,159,160,161,162,163,164,165,166,167,168,169,170,171,172,173,174,175,176,177,178,179,180,181,182,183,184,185,186,187,188,189,190,191,192,193,194,195,196,197,198,199,200,201,202,203,204,205,206,207,208,209,210,211,212,213,214,215,216,217,218,219,220,221,222,223,224,225,226,227,228,229,230,231,232,233,234,235,236,237,238,239,240,241,242,243,244,245,246,247,248,249,250,251,252,253,254,255,256,257,258,259,260,261,262,263,264,265,266,267,268,269,270,271,272,273,274,275,276,277,278,279,280,281,282,283,284,285,286,287,288,289,290,291,292,293,294,295,296,297,298,299,300,301,302,303,304,305,306,307,308,309,310,311,312,313,314,315,316,317,318,319,320,321,322,323,324,325,326,327,328,329,330,331,332,333,334,335,336,337,339,340,341,342,343,344,345,346,347,348,349,350,351,352]
def aI6 (fs : Array Func) (f : Nat) : Bool := match fs[f]? with | some fn => (fn.name == "runtime.NumGoroutine") == false && fn.body.isSome | none => false
theorem au8:iV.all (aI6 Tryz.prog.funcs)=true:=by kernel_rfl
theorem fA(f:Nat)(h:mem iV f=true):Cal Tryz.prog f:=by
 have h1:=bH'.1 au8 f (gY h);unfold aI6 at h1;split at h1
 ·next fn hf=>
  simp only[bH6,beq_iff_eq] at h1;obtain⟨c,hc⟩:=Option.isSome_iff_exists.1 h1.2;exact⟨fn,c,hf,h1.1,hc⟩
 ·cases h1
end
section
attribute [local irreducible] Hy St Ops DH dH jg iP gQ
structure yC(p:Prop):Prop where
 get:p
theorem QC(h:p:=by (first | ((simp only[putAt,Value.cells,bP4,bO7,bR3,bR4,bL2,bL',bL7,bN0,bI0,bI3,bI'])<;>rfl) | rfl)):p:=h
theorem QD(h:p:=by (first | ((simp only[putAt,rep,Value.cells,Nat.reduceMul,bR6,Nat.one_mul,bK3,bP4,bO7,bR3,bR4,bL2,bL',bL7,bN0,bI0,bI3,bI'])<;>rfl) | rfl)):p:=h
theorem xA(h:p:=by (first | ((simp only[putAt,bP4,bO7,bR3,bR4,bL2,bL',bL7,bN0,bI0,bI3,bI'])<;>rfl) | rfl)):p:=h
theorem IB(h:p:=by (first | (with_reducible apply mh) | (focus ((repeat (first | (with_reducible apply mh) | (with_reducible apply mt) | (with_reducible apply bI4)));done)))):p:=h
theorem wW(h:p:=by (first | ((simp only[Nat.reduceAdd,Nat.reduceMul,bK2,bL4,bK3,bR6,Int.toNat_zero,Int.toNat_one,Int.reduceToNat])<;>rfl) | rfl)):p:=h
theorem lZ(h:p:=by (first | ((simp only[Value.cells])<;>rfl) | rfl)):p:=h
theorem DV(h:p:=by (first | (with_reducible apply p0) | (with_reducible apply p1) | (with_reducible apply p2) | (with_reducible apply p3) | (with_reducible apply p4) | (with_reducible apply p5))):p:=h
theorem nP(h:p:=by (first | omega | ((try simp only[jd,cond_true,cond_false,decide_eq_true_eq,bJ6,decide_eq_false_iff_not,bH6,bJ7] at *);omega))):p:=h
theorem Wv(h:p:=by (first | rfl | (focus (simp;done)))):p:=h
theorem Wx(h:p:=by (first | omega | (focus (simp;done)) | (focus (simp;omega)))):p:=h
theorem aa0(h:p:=by (first | exact bR5 | assumption)):p:=h
theorem Wy(h:G:=by (first | ((with_reducible apply Ic);rfl) | ((with_reducible apply JY);rfl) | ((with_reducible apply Qo aB);rfl;rfl;rfl;(exact wW)) | ((with_reducible apply VN aB);rfl;rfl;(exact IB);(first | rfl | assumption)) | ((with_reducible apply Ih aB);rfl;rfl;assumption;(exact aa0)) | ((with_reducible apply Qp aB);rfl;rfl;rfl;(exact IB);(first | assumption | (exact xA));rfl) | ((with_reducible apply J4 aB);rfl;rfl;rfl;assumption;rfl;(exact aa0)) | ((with_reducible apply JZ aB);rfl;rfl;rfl;omega;(exact wW)) | ((with_reducible apply Gh aB);rfl;rfl;rfl;omega;(exact wW)) | ((with_reducible apply Ig aB);rfl;rfl;rfl;omega;omega;(exact wW)) | ((with_reducible apply J3 aB);rfl;rfl;rfl;omega;omega;(exact wW)) | ((with_reducible apply x_len aB);rfl;rfl) | ((with_reducible apply am7);rfl;rfl) | ((with_reducible apply VS);rfl;rfl) | ((with_reducible apply aH4);rfl;rfl) | ((with_reducible apply al5);rfl;rfl) | ((with_reducible apply VH);rfl;rfl;rfl) | ((with_reducible apply al6);rfl) | ((with_reducible apply Gg);rfl;rfl) | ((with_reducible apply DC);rfl) | ((with_reducible apply al7);rfl;rfl) | ((with_reducible apply al8);rfl;rfl) | ((with_reducible apply al9);rfl;rfl) | ((with_reducible apply am0);rfl;rfl) | ((with_reducible apply VI);rfl;rfl) | ((with_reducible apply am1);rfl;rfl) | ((with_reducible apply VJ aB);rfl;rfl;rfl) | ((with_reducible apply VK aB);rfl;rfl;rfl) | ((with_reducible apply VP QB);rfl;rfl;rfl;rfl;rfl) | ((with_reducible apply VQ QB);rfl;rfl;rfl;rfl;rfl) | ((with_reducible apply am2);rfl;rfl;omega) | ((with_reducible apply am3);rfl;rfl;omega;omega) | ((with_reducible apply am4);rfl;rfl;omega;omega) | ((with_reducible apply am5);rfl;rfl;omega;omega) | ((with_reducible apply Ie aB);rfl;rfl;rfl;omega;omega) | ((with_reducible apply Qn aB);rfl;rfl;rfl;omega;omega) | ((with_reducible apply Ii aB);rfl;(exact lZ);rfl;rfl;rfl;(exact QC)) | ((with_reducible apply DD);rfl;rfl) | ((with_reducible apply VL);rfl;rfl) | ((with_reducible apply VM);rfl;rfl))):G:=h
theorem hyG(h:G:=by (first | ((with_reducible apply Ic);rfl) | ((with_reducible apply JY);rfl) | ((with_reducible apply Qo aB);rfl;rfl;rfl;(exact wW)) | ((with_reducible apply VN aB);rfl;rfl;(exact IB);(first | rfl | assumption)) | ((with_reducible apply Ih aB);rfl;rfl;assumption;(exact aa0)) | ((with_reducible apply Qp aB);rfl;rfl;rfl;(exact IB);(first | assumption | (exact xA));rfl) | ((with_reducible apply J4 aB);rfl;rfl;rfl;assumption;rfl;(exact aa0)) | ((with_reducible apply JZ aB);rfl;rfl;rfl;(exact nP);(exact wW)) | ((with_reducible apply Gh aB);rfl;rfl;rfl;(exact nP);(exact wW)) | ((with_reducible apply Ig aB);rfl;rfl;rfl;(exact nP);(exact nP);(exact wW)) | ((with_reducible apply J3 aB);rfl;rfl;rfl;(exact nP);(exact nP);(exact wW)) | ((with_reducible apply x_len aB);rfl;rfl) | ((with_reducible apply am7);rfl;rfl) | ((with_reducible apply VS);rfl;rfl) | ((with_reducible apply aH4);rfl;rfl) | ((with_reducible apply al5);rfl;rfl) | ((with_reducible apply VH);rfl;rfl;rfl) | ((with_reducible apply al6);rfl) | ((with_reducible apply Gg);rfl;rfl) | ((with_reducible apply DC);rfl) | ((with_reducible apply al7);rfl;rfl) | ((with_reducible apply al8);rfl;rfl) | ((with_reducible apply al9);rfl;rfl) | ((with_reducible apply am0);rfl;rfl) | ((with_reducible apply VI);rfl;rfl) | ((with_reducible apply am1);rfl;rfl) | ((with_reducible apply VJ aB);rfl;rfl;rfl) | ((with_reducible apply VK aB);rfl;rfl;rfl) | ((with_reducible apply VP QB);rfl;rfl;rfl;rfl;rfl) | ((with_reducible apply VQ QB);rfl;rfl;rfl;rfl;rfl) | ((with_reducible apply am2);rfl;rfl;(exact nP)) | ((with_reducible apply am3);rfl;rfl;(exact nP);(exact nP)) | ((with_reducible apply am4);rfl;rfl;(exact nP);(exact nP)) | ((with_reducible apply am5);rfl;rfl;(exact nP);(exact nP)) | ((with_reducible apply Ie aB);rfl;rfl;rfl;(exact nP);(exact nP)) | ((with_reducible apply Qn aB);rfl;rfl;rfl;(exact nP);(exact nP)) | ((with_reducible apply Ii aB);rfl;(exact lZ);rfl;rfl;rfl;(exact QC)) | ((with_reducible apply DD);rfl;rfl) | ((with_reducible apply VL);rfl;rfl) | ((with_reducible apply VM);rfl;rfl))):G:=h
theorem run(k:R)(h:yC R→G:=by (intro nR;(repeat (first | (with_reducible apply H6) | (with_reducible apply Dv) | (with_reducible apply vO) | (with_reducible apply vP) | (with_reducible apply Ia) | (with_reducible apply CJ) | (with_reducible apply vU) | (with_reducible apply rZ) | (with_reducible apply CO) | (with_reducible apply yc) | (with_reducible apply CE) | (with_reducible apply H7) | (with_reducible apply Cm) | (with_reducible apply CB) | ((with_reducible apply yf);rfl) | ((with_reducible apply jI);rfl;(first | exact Wy)) | ((with_reducible apply Qq);rfl;rfl;(exact lZ);intro blk) | ((with_reducible apply CP aB);rfl;rfl;(exact lZ);intro blk) | ((with_reducible apply yh aB);rfl;rfl;(exact lZ);rfl;rfl;(exact DV);(exact Wv);(exact Wx);(exact xA)) | ((with_reducible apply yj aB);rfl;rfl;rfl;(exact lZ);rfl;rfl;rfl;rfl;(exact QD);intro blk)));(repeat revert blk);exact nR.get)):G:=h ⟨k⟩
theorem aC(k:R)(h:yC R→G:=by (intro nR;(repeat (first | (with_reducible apply H6) | (with_reducible apply Dv) | (with_reducible apply vO) | (with_reducible apply vP) | (with_reducible apply Ia) | (with_reducible apply CJ) | (with_reducible apply vU) | (with_reducible apply rZ) | (with_reducible apply CO) | (with_reducible apply yc) | (with_reducible apply CE) | (with_reducible apply H7) | (with_reducible apply Cm) | (with_reducible apply CB) | ((with_reducible apply yf);rfl) | ((with_reducible apply jI);rfl;(first | exact Wy)) | ((with_reducible apply Qq);rfl;rfl;(exact lZ);intro blk) | ((with_reducible apply CP aB);rfl;rfl;(exact lZ);intro blk) | ((with_reducible apply yh aB);rfl;rfl;(exact lZ);rfl;rfl;(exact DV);(exact Wv);(exact Wx);(exact xA)) | ((with_reducible apply yj aB);rfl;rfl;rfl;(exact lZ);rfl;rfl;rfl;rfl;(exact QD);intro blk) | ((with_reducible apply Sj);rfl;rfl;rfl;rfl;(intro hg1;(try simp only[hg1,bI,bI6]);(first | exact hyG | exact Bq hg1 rfl))) | ((with_reducible apply Dy);rfl;rfl;rfl;rfl;(intro hg0 hg1;have hgC:=hg0;(try simp only[bH6] at hg0);(try simp only[hg0,hg1,bI,bI6,bM',bQ9]);(first | exact hyG | exact Bq hg1 rfl | exact Il hgC rfl))) | ((with_reducible apply VT);rfl;rfl;rfl;rfl)));(repeat revert blk);exact nR.get)):G:=h ⟨k⟩
theorem aP(k:R)(h:yC R→G:=by (intro nR;(repeat (first | (with_reducible apply H6) | (with_reducible apply Dv) | (with_reducible apply vO) | (with_reducible apply vP) | (with_reducible apply Ia) | (with_reducible apply CJ) | (with_reducible apply vU) | (with_reducible apply rZ) | (with_reducible apply CO) | (with_reducible apply yc) | (with_reducible apply CE) | (with_reducible apply H7) | (with_reducible apply Cm) | (with_reducible apply CB) | ((with_reducible apply yf);rfl) | ((with_reducible apply Wl);rfl;(focus decide)) | ((with_reducible apply Wn);rfl;(focus decide)) | ((with_reducible apply jI);rfl;(first | exact Wy)) | ((with_reducible apply Qq);rfl;rfl;(exact lZ);intro blk) | ((with_reducible apply CP aB);rfl;rfl;(exact lZ);intro blk) | ((with_reducible apply yh aB);rfl;rfl;(exact lZ);rfl;rfl;(exact DV);(exact Wv);(exact Wx);(exact xA)) | ((with_reducible apply yj aB);rfl;rfl;rfl;(exact lZ);rfl;rfl;rfl;rfl;(exact QD);intro blk) | ((with_reducible apply Sj);rfl;rfl;rfl;rfl;(intro hg1;(try simp only[hg1,bI,bI6]);(first | exact hyG | exact Bq hg1 rfl))) | ((with_reducible apply Dy);rfl;rfl;rfl;rfl;(intro hg0 hg1;have hgC:=hg0;(try simp only[bH6] at hg0);(try simp only[hg0,hg1,bI,bI6,bM',bQ9]);(first | exact hyG | exact Bq hg1 rfl | exact Il hgC rfl))) | ((with_reducible apply VT);rfl;rfl;rfl;rfl)));(repeat revert blk);exact nR.get)):G:=h ⟨k⟩
theorem dI(k:R)(h:yC R→G:=by (intro nR;(repeat (first | (with_reducible apply Qu) | ((with_reducible apply ZT);rfl;(first | exact Wy))));exact nR.get)):G:=h ⟨k⟩
theorem gI(k:R)(h:yC R→G:=by (intro nR;(repeat (first | (with_reducible apply ZW) | ((with_reducible apply jY);rfl;(intro hxS;(first | exact Wy)))));exact nR.get)):G:=h ⟨k⟩
theorem WA(k:R)(h:yC R→G:=by (intro nR;(repeat (first | (with_reducible apply Z9) | ((with_reducible apply Wu);rfl;decide +kernel;(first | exact Wy)) | ((with_reducible apply am9);rfl;decide +kernel;(intro hxS;(first | exact Wy))) | ((with_reducible apply aI5 aB);rfl;rfl;(exact lZ);rfl;rfl;(exact DV);(exact Wv);(exact Wx);(exact xA);(refine dh fun a=>?_;simp only[eH,bJ,jk];omega))));exact nR.get)):G:=h ⟨k⟩
theorem bg(k:R)(h:yC R→G:=by (intro nR;(repeat (first | (with_reducible apply Qu) | ((with_reducible apply ZT);rfl;(first | exact Wy)) | ((with_reducible apply VU);rfl;rfl;rfl;rfl;(intro hg1;(try simp only[hg1,bI,bI6]);(first | exact hyG | exact Bq hg1 rfl))) | ((with_reducible apply VV);rfl;rfl;rfl;rfl;(intro hg0 hg1;have hgC:=hg0;(try simp only[bH6] at hg0);(try simp only[hg0,hg1,bI,bI6,bM',bQ9]);(first | exact hyG | exact Bq hg1 rfl | exact Il hgC rfl))) | ((with_reducible apply at6);rfl;rfl;rfl;rfl)));exact nR.get)):G:=h ⟨k⟩
theorem fin1{R:Value→Hp→Prop}{l:Fm}{hp:Hp}{t:Nat}(h:R v hp)(hr:fn.results=#[.tmp t]:=by rfl)(hv:look l t=some v:=by rfl):Fin P fn R .ret l hp:=
 ⟨.inl rfl,[v],by rw[hr];exact⟨hv,trivial⟩,h⟩
theorem fin2{R:Value→Hp→Prop}{l:Fm}{hp:Hp}{t:Nat}{u:Value}(h:R (.tuple #[v,u]) hp)(hr:fn.results=#[.tmp t,.tmp s]:=by rfl)(hv:look l t=some v:=by rfl)(hu:look l s=some u:=by rfl):Fin P fn R .ret l hp:=
 ⟨.inl rfl,[v,u],by rw[hr];exact⟨hv,hu,trivial⟩,h⟩
theorem aa1{R:Value→Hp→Prop}{l:Fm}{hp:Hp}{t r:Nat}{u x:Value}(h:R (.tuple #[v,u,x]) hp)(hr:fn.results=#[.tmp t,.tmp s,.tmp r]:=by rfl)(hv:look l t=some v:=by rfl)(hu:look l s=some u:=by rfl)(hx:look l r=some x:=by rfl):Fin P fn R .ret l hp:=
 ⟨.inl rfl,[v,u,x],by rw[hr];exact⟨hv,hu,hx,trivial⟩,h⟩
theorem fin0{R:Value→Hp→Prop}{l:Fm}{hp:Hp}{e:Exit}(h:R (.tuple #[]) hp)(hr:fn.results=#[]:=by rfl)(he:e=.ret∨e=.normal:=by first | exact .inl rfl | exact .inr rfl):Fin P fn R e l hp:=
 ⟨he,[],by rw[hr];trivial,h⟩
theorem dR{R:Value→Hp→Prop}{l:Fm}{hp:Hp}{a t:Nat}(h:R (.agg cs) hp)(hr:fn.results=#[.cell a t]:=by rfl)(hv:look l a=some (.pointer (some ⟨b,0,none⟩)):=by rfl)(hag:mem Tb.ag t=true:=by rfl)(hm:(⟨b,cs,tb⟩:mO)∈hp:=by (first | (with_reducible apply mh) | (focus ((repeat (first | (with_reducible apply mh) | (with_reducible apply mt) | (with_reducible apply bI4)));done))))(hz:lk Tb.sz t=some cs.size:=by rfl):Fin Tryz.prog fn R .ret l hp:=
 ⟨.inl rfl,[.agg cs],by rw[hr];exact⟨⟨⟨b,cs,tb⟩,hm,hv,.inr ⟨aB.gag hag,aB.zO hz,rfl⟩⟩,trivial⟩,h⟩
theorem fZ{R:Value→Hp→Prop}{l:Fm}{hp:Hp}{a t:Nat}(h:R (.tuple #[.agg cs,v]) hp)(hr:fn.results=#[.cell a t,.tmp s]:=by rfl)(hv:look l a=some (.pointer (some ⟨b,0,none⟩)):=by rfl)(hw:look l s=some v:=by rfl)(hag:mem Tb.ag t=true:=by rfl)(hm:(⟨b,cs,tb⟩:mO)∈hp:=by (first | (with_reducible apply mh) | (focus ((repeat (first | (with_reducible apply mh) | (with_reducible apply mt) | (with_reducible apply bI4)));done))))(hz:lk Tb.sz t=some cs.size:=by rfl):Fin Tryz.prog fn R .ret l hp:=
 ⟨.inl rfl,[.agg cs,v],by rw[hr];exact⟨⟨⟨b,cs,tb⟩,hm,hv,.inr ⟨aB.gag hag,aB.zO hz,rfl⟩⟩,hw,trivial⟩,h⟩
section
variable {n : Nat} {w0 : World} {mu : List Nat} {l : Fm} {hp : Hp} {Q : Exit → Fm → Hp → Prop} {all : Array Oper} {rest : List Oper} {ty : TypeId} {pos : String} {af : Array Edge}
theorem aF{σ:Type}{A B C D:σ→Prop}(s':σ)(hI:B s')(hm:A s':=by omega)(h1:C s':=by (repeat (first | exact True.intro | (refine And.intro bC1 ?_))))(h2:D s':=by (repeat (first | exact True.intro | exact aI.refl _ | (with_reducible exact aI.left _ _) | (with_reducible exact aI.right _ _) | (refine Exists.intro _ (And.intro bC5 ?_)) | (with_reducible apply aI.app) | (with_reducible apply aI.skip)))):∃ s',A s'∧B s'∧C s'∧D s':=⟨s',hm,hI,h1,h2⟩
theorem kZ{σ:Type}{B C D:σ→Prop}(s':σ)(hI:B s')(h1:C s':=by (repeat (first | exact True.intro | (refine And.intro bC1 ?_))))(h2:D s':=by (repeat (first | exact True.intro | exact aI.refl _ | (with_reducible exact aI.left _ _) | (with_reducible exact aI.right _ _) | (refine Exists.intro _ (And.intro bC5 ?_)) | (with_reducible apply aI.app) | (with_reducible apply aI.skip)))):∃ s',B s'∧C s'∧D s':=⟨s',hI,h1,h2⟩
theorem aK{σ:Type}(V:σ→Fm)(H:σ→Hp)(I:σ→Prop)(μ:σ→Nat)(s0:σ)(hI:I s0)
  (round:∀ s m,μ s=m→I s→St Tryz.prog n w0 mu c (V s++l) (H s) (nx (fun l' hp'=>∃ s',μ s'<m∧I s'∧Ik [] (V s'++l) l'∧aI (H s') hp') Q)) (hl:Ik [] (V s0++l) l:=by (repeat (first | exact True.intro | (refine And.intro bC1 ?_)))) (hh:aI (H s0) hp:=by (repeat (first | exact True.intro | exact aI.refl _ | (with_reducible exact aI.left _ _) | (with_reducible exact aI.right _ _) | (refine Exists.intro _ (And.intro bC5 ?_)) | (with_reducible apply aI.app) | (with_reducible apply aI.skip)))):St Tryz.prog n w0 mu (.loop c) l hp Q:=VR V H I μ s0 hI hl hh round
theorem az{f:Nat}(hc:∀ w,Good w0 mu hp w→Fn Tryz.prog f vs.toArray w [] (fun u _=>u=v))(h:Ops Tryz.prog n w0 mu all rest ((d,v)::l) hp Q)
  (bM:mem iV f=true:=by rfl) (hd:Nat.blt d n=true:=by rfl) (hv:evs l xs=some vs:=by rfl):Ops Tryz.prog n w0 mu all (⟨some d,.call { callee:=.value (.func f),args:=xs.toArray,argTypes:=tys },ty,pos,af,none⟩::rest) l hp Q:=
 jI hd (fM (fA f bM) hv hc) h
theorem QE{f:Nat}{R:Value→Prop}(hc:∀ w,Good w0 mu hp w→Fn Tryz.prog f vs.toArray w [] (fun u _=>R u))(h:∀ v,R v→Ops Tryz.prog n w0 mu all rest ((d,v)::l) hp Q)
  (bM:mem iV f=true:=by rfl) (hd:Nat.blt d n=true:=by rfl) (hv:evs l xs=some vs:=by rfl):Ops Tryz.prog n w0 mu all (⟨some d,.call { callee:=.value (.func f),args:=xs.toArray,argTypes:=tys },ty,pos,af,none⟩::rest) l hp Q:=
 ZR (fA f bM) hd hv hc h
theorem bH{f:Nat}{R:Value→Hp→Prop}(hc:∀ w,Good w0 mu hp w→Fn Tryz.prog f vs.toArray w [] R)(h:∀ v hn,R v hn→Ops Tryz.prog n w0 mu all rest ((d,v)::l) (hn++hp) Q)
  (bM:mem iV f=true:=by rfl) (hd:Nat.blt d n=true:=by rfl) (hv:evs l xs=some vs:=by rfl):Ops Tryz.prog n w0 mu all (⟨some d,.call { callee:=.value (.func f),args:=xs.toArray,argTypes:=tys },ty,pos,af,none⟩::rest) l hp Q:=
 VO (fA f bM) hd hv hc h
theorem iR{f:Nat}{R:Value→Hp→Prop}(hi hp':Hp)(hc:∀ w,Good w0 mu (hi++hp') w→Fn Tryz.prog f vs.toArray w (hi.map (·.b)) R)(h:∀ v hn,R v hn→Ops Tryz.prog n w0 mu all rest ((d,v)::l) (hn++hp') Q)
  (hperm:(hi++hp').Perm hp) (bM:mem iV f=true:=by rfl) (hd:Nat.blt d n=true:=by rfl) (hv:evs l xs=some vs:=by rfl):Ops Tryz.prog n w0 mu all (⟨some d,.call { callee:=.value (.func f),args:=xs.toArray,argTypes:=tys },ty,pos,af,none⟩::rest) l hp Q:=
 ZO (fA f bM) hi hp' hd hv hperm hc h
theorem l7{f:Nat}{fs us:List Value}(hc:∀ w,Good w0 mu hp w→Fn Tryz.prog f (fs++vs++us).toArray w [] (fun u _=>u=v))(h:Ops Tryz.prog n w0 mu all rest ((d,v)::l) hp Q)
  (hx:ev l x=some (.func (.func f) fs.toArray us.toArray):=by rfl) (bM:mem iV f=true:=by rfl) (hd:Nat.blt d n=true:=by rfl) (hv:evs l xs=some vs:=by rfl):Ops Tryz.prog n w0 mu all (⟨some d,.call { callee:=.value x,args:=xs.toArray,argTypes:=tys },ty,pos,af,none⟩::rest) l hp Q:=
 jI hd (yu (fA f bM) hx hv hc) h
theorem WB{f:Nat}{fs us:List Value}{R:Value→Hp→Prop}(hi hp':Hp)(hc:∀ w,Good w0 mu (hi++hp') w→Fn Tryz.prog f (fs++vs++us).toArray w (hi.map (·.b)) R)(h:∀ v hn,R v hn→Ops Tryz.prog n w0 mu all rest ((d,v)::l) (hn++hp') Q)
  (hperm:(hi++hp').Perm hp) (hx:ev l x=some (.func (.func f) fs.toArray us.toArray):=by rfl) (bM:mem iV f=true:=by rfl) (hd:Nat.blt d n=true:=by rfl) (hv:evs l xs=some vs:=by rfl):Ops Tryz.prog n w0 mu all (⟨some d,.call { callee:=.value x,args:=xs.toArray,argTypes:=tys },ty,pos,af,none⟩::rest) l hp Q:=
 Wp (fA f bM) hi hp' hd hx hv hperm hc h
theorem bG{f:Nat}{b:Bool}(hc:jd b want=true→∀ w,Good w0 mu hp w→Fn Tryz.prog f vs.toArray w [] (fun u _=>u=v))(h:Ops Tryz.prog n w0 mu all rest ((d,gv (jd b want) v)::l) hp Q)
  (hj:(all[j]?).bind (·.dst)=some dj:=by rfl) (hb:look l dj=some (.bool b):=by rfl) (hdj:Nat.blt dj n=true:=by rfl) (bM:mem iV f=true:=by rfl) (hd:Nat.blt d n=true:=by rfl) (hv:jd b want=true→evs l xs=some vs:=by (intro hg1;(try simp only[hg1,bI,bI6]);rfl)):Ops Tryz.prog n w0 mu all (⟨some d,.call { callee:=.value (.func f),args:=xs.toArray,argTypes:=tys },ty,pos,af,some (j,want)⟩::rest) l hp Q:=
 Sj hd hj hb hdj (fun hg=>fM (fA f bM) (hv hg) (hc hg)) h
theorem IC{f:Nat}{b:Bool}(hc:c0=true→jd b want=true→∀ w,Good w0 mu hp w→Fn Tryz.prog f vs.toArray w [] (fun u _=>u=v))(h:Ops Tryz.prog n w0 mu all rest ((d,gv (c0&&jd b want) v)::l) hp Q)
  (hj:(all[j]?).bind (·.dst)=some dj:=by rfl) (hb:look l dj=some (gv c0 (.bool b)):=by rfl) (hdj:Nat.blt dj n=true:=by rfl) (bM:mem iV f=true:=by rfl) (hd:Nat.blt d n=true:=by rfl) (hv:c0=true→jd b want=true→evs l xs=some vs:=by (intro hg0 hg1;(try simp only[bH6] at hg0);(try simp only[hg0,hg1,bI,bI6,bM',bQ9]);rfl)):Ops Tryz.prog n w0 mu all (⟨some d,.call { callee:=.value (.func f),args:=xs.toArray,argTypes:=tys },ty,pos,af,some (j,want)⟩::rest) l hp Q:=
 Dy hd hj hb hdj (fun hg0 hg=>fM (fA f bM) (hv hg0 hg) (hc hg0 hg)) h
theorem dA(h:dH Tryz.prog n w0 mu ops.toArray ds [] l hp Q 0 ops [] [])(hds:dB ops 0=ds:=by (simp only[dB,Nat.reduceAdd,bK2];rfl))(hm:Tryz.prog.follows .mixedOrders=true:=by kernel_rfl)(hB:Dz ops.toArray n=true:=by kernel_rfl)(hf:bW l (dstsOf ops.toArray ops.length)=true:=by rfl):St Tryz.prog n w0 mu (.region id ops.toArray true) l hp Q:=
 NW hm hB hf (by rw[hds];exact Gl h)
theorem gU{hd tl:List Oper}(k:Nat)(h:dH Tryz.prog n w0 mu ops.toArray ds tl l hp Q 0 hd [] [])(hds:dB ops 0=ds:=by (simp only[dB,Nat.reduceAdd,bK2];rfl))(htl:ops.drop k=tl:=by (simp only[bL2,bL'];rfl))(hhd:ops.take k=hd:=by (simp only[bL7,bN0];rfl))(hm:Tryz.prog.follows .mixedOrders=true:=by kernel_rfl)(hB:yg ops.toArray k n=true:=by kernel_rfl)(hf:bW l (dstsOf ops.toArray k)=true:=by rfl):St Tryz.prog n w0 mu (.region id ops.toArray true) l hp Q:=
 ZN k hm hB hf (by rw[hds,htl,hhd];exact Gl h)
theorem an1(t0:Nat)(h0:Hp)(h:lJ Tryz.prog n w0 mu ops.toArray ds l h0 hp t0 Q 0 ops [] [] hp)(hle:aI h0 hp:=by (exact ak))(hds:dB ops 0=ds:=by (simp only[dB,Nat.reduceAdd,bK2];rfl))(hm:Tryz.prog.follows .mixedOrders=true:=by kernel_rfl)(hB:N9 ops.toArray n t0=true:=by kernel_rfl)(hf:bW l (dstsOf ops.toArray ops.length)=true:=by rfl):St Tryz.prog n w0 mu (.region id ops.toArray true) l hp Q:=
 Ws t0 h0 hm hB hf hle (by rw[hds];exact SC h)
section
variable {ds : List (Nat × Nat)} {tail : List Oper} {i : Nat} {iv fr : Fm}
theorem au'{f t0:Nat}{h0 hc:Hp}(hc':∀ w,Good w0 mu hp w→Fn Tryz.prog f vs.toArray w [] (fun u _=>u=v))(h:lJ Tryz.prog n w0 mu all ds l h0 hp t0 Q (i+1) rest ((i,v)::iv) ((d,v)::fr) hc)
  (hlk:lk ds i=some d:=by rfl) (hwt:Region.waitsFor .any all t0 i=true:=by decide +kernel) (bM:mem iV f=true:=by rfl) (hv:evs (aT ds iv af.toList++l) xs=some vs:=by rfl):lJ Tryz.prog n w0 mu all ds l h0 hp t0 Q i (⟨some d,.call { callee:=.value (.func f),args:=xs.toArray,argTypes:=tys },ty,pos,af,none⟩::rest) iv fr hc:=
 Wu hlk hwt (fM (fA f bM) hv hc') h
theorem fB{f:Nat}(hc:∀ w,Good w0 mu hp w→Fn Tryz.prog f vs.toArray w [] (fun u _=>u=v))(h:dH Tryz.prog n w0 mu all ds tail l hp Q (i+1) rest ((i,v)::iv) ((d,v)::fr))
  (hlk:lk ds i=some d:=by rfl) (bM:mem iV f=true:=by rfl) (hv:evs (aT ds iv af.toList++l) xs=some vs:=by rfl):dH Tryz.prog n w0 mu all ds tail l hp Q i (⟨some d,.call { callee:=.value (.func f),args:=xs.toArray,argTypes:=tys },ty,pos,af,none⟩::rest) iv fr:=
 ZT hlk (fM (fA f bM) hv hc) h
theorem eX{f:Nat}{b:Bool}(hc:jd b want=true→∀ w,Good w0 mu hp w→Fn Tryz.prog f vs.toArray w [] (fun u _=>u=v))(h:dH Tryz.prog n w0 mu all ds tail l hp Q (i+1) rest ((i,gv (jd b want) v)::iv) ((d,gv (jd b want) v)::fr))
  (hj:(all[j]?).bind (·.dst)=some dj:=by rfl) (hb:look (aT ds iv af.toList++l) dj=some (.bool b):=by rfl) (hdj:Nat.blt dj n=true:=by rfl) (hlk:lk ds i=some d:=by rfl) (bM:mem iV f=true:=by rfl) (hv:jd b want=true→evs (aT ds iv af.toList++l) xs=some vs:=by (intro hg1;(try simp only[hg1,bI,bI6]);rfl)):dH Tryz.prog n w0 mu all ds tail l hp Q i (⟨some d,.call { callee:=.value (.func f),args:=xs.toArray,argTypes:=tys },ty,pos,af,some (j,want)⟩::rest) iv fr:=
 VU hlk hj hb hdj (fun hg=>fM (fA f bM) (hv hg) (hc hg)) h
theorem IE{f:Nat}{b:Bool}(hc:c0=true→jd b want=true→∀ w,Good w0 mu hp w→Fn Tryz.prog f vs.toArray w [] (fun u _=>u=v))(h:dH Tryz.prog n w0 mu all ds tail l hp Q (i+1) rest ((i,gv (c0&&jd b want) v)::iv) ((d,gv (c0&&jd b want) v)::fr))
  (hj:(all[j]?).bind (·.dst)=some dj:=by rfl) (hb:look (aT ds iv af.toList++l) dj=some (gv c0 (.bool b)):=by rfl) (hdj:Nat.blt dj n=true:=by rfl) (hlk:lk ds i=some d:=by rfl) (bM:mem iV f=true:=by rfl) (hv:c0=true→jd b want=true→evs (aT ds iv af.toList++l) xs=some vs:=by (intro hg0 hg1;(try simp only[bH6] at hg0);(try simp only[hg0,hg1,bI,bI6,bM',bQ9]);rfl)):dH Tryz.prog n w0 mu all ds tail l hp Q i (⟨some d,.call { callee:=.value (.func f),args:=xs.toArray,argTypes:=tys },ty,pos,af,some (j,want)⟩::rest) iv fr:=
 VV hlk hj hb hdj (fun hg0 hg=>fM (fA f bM) (hv hg0 hg) (hc hg0 hg)) h
end
theorem drawM{tl:List Oper}(k:Nat)(S E D:List Nat)(h:jg Tryz.prog n w0 mu ops.toArray ds l hp (fun aX=>iP Tryz.prog n w0 mu ops.toArray ds l hp aX (fun Rs=>DN (fun iv bl=>gQ Tryz.prog n w0 mu ops.toArray ds l hp (fun rq=>Ops Tryz.prog n w0 mu ops.toArray tl (bV ds rq++l) (bl++hp) Q) D (iv++aX)) Rs) E []) S [])
  (hds:dB ops 0=ds:=by (simp only[dB,Nat.reduceAdd,bK2];rfl)) (htl:ops.drop k=tl:=by (simp only[bL2,bL'];rfl)) (hm:Tryz.prog.follows .mixedOrders=true:=by kernel_rfl) (hB:yg ops.toArray k n=true:=by kernel_rfl) (hf:bW l (dstsOf ops.toArray k)=true:=by rfl) (hsp:splitB k S E D=true:=by decide):St Tryz.prog n w0 mu (.region id ops.toArray true) l hp Q:=
 V6 k S E D hm hB hf hsp hds bH2
theorem xB{tl:List Oper}(k:Nat)(S E D:List Nat)(h:jg Tryz.prog n w0 mu ops.toArray ds l hp (fun aX=>iP Tryz.prog n w0 mu ops.toArray ds l hp aX (fun Rs=>DN (fun iv bl=>gQ Tryz.prog n w0 mu ops.toArray ds l hp (fun rq=>Ops Tryz.prog n w0 mu ops.toArray tl (bV ds rq++l) (bl++hp) Q) D (iv++aX)) Rs) E []) S [])
  (hds:dB ops 0=ds:=by (simp only[dB,Nat.reduceAdd,bK2];rfl)) (htl:ops.drop k=tl:=by (simp only[bL2,bL'];rfl)) (hB:yg ops.toArray k n=true:=by kernel_rfl) (hf:bW l (dstsOf ops.toArray k)=true:=by rfl) (hsp:splitB k S E D=true:=by decide):lT Tryz.prog n w0 mu ops.toArray l hp Q:=
 Gn k S E D hB hf hsp hds bH2
theorem late{ops':List Oper}(k i:Nat)(h:lT Tryz.prog n w0 mu ops'.toArray l hp (V9 Q))(he:addEdge ops.toArray k i=ops'.toArray:=by (simp only[addEdge,List.modify_toArray,bY9,bY',List.push_toArray,bI0,bI3];rfl))(hB:Kz ops.toArray k i=true:=by kernel_rfl)(hm:Tryz.prog.follows .mixedOrders=true:=by kernel_rfl):St Tryz.prog n w0 mu (.region id ops.toArray true) l hp Q:=au7 hm (QA k i hB he h)
theorem WC{ops':List Oper}(k i:Nat)(h:lT Tryz.prog n w0 mu ops'.toArray l hp (V9 Q))(he:addEdge ops.toArray k i=ops'.toArray:=by (simp only[addEdge,List.modify_toArray,bY9,bY',List.push_toArray,bI0,bI3];rfl))(hB:Kz ops.toArray k i=true:=by kernel_rfl):lT Tryz.prog n w0 mu ops.toArray l hp (V9 Q):=QA k i hB he h
section
variable {ds : List (Nat × Nat)} {iv : Fm} {S E D : List Nat} {Rs : List (Nat × RT)} {Z : List (Nat × RT) → Prop} {Y : Fm → Prop} {i d : Nat}
theorem KA{t e:Nat}{k':IntKind}(h:iP Tryz.prog n w0 mu all ds l hp iv Z E ((i,fun v hn=>∃ b,v=.slice (some ⟨b,0,none⟩) m m∧hn=[⟨b,cs,e⟩])::Rs))(hm:m≤65536)(ho:all[i]?=some ⟨some d,.makeSlice t x y,ty,pos,af,none⟩:=by rfl)(hx:ev (aT ds iv af.toList++l) x=some (.int k (m:Int)):=by rfl)(hy:ev (aT ds iv af.toList++l) y=some (.int k' (m:Int)):=by rfl)(ht:lk Tb.sl t=some (e,sz):=by rfl)(hz:lk Tb.zs e=some z:=by rfl)(hb:lk Tb.eb e=some jr:=by rfl)
  (hs:Nat.ble sz 64=true:=by rfl) (hby:Nat.ble jr 4096=true:=by rfl) (hcs:madeCells z.cells (m*sz)=cs:=by rfl):iP Tryz.prog n w0 mu all ds l hp iv Z (i::E) Rs:=by
 subst hcs;have hs':sz≤64:=bM2 hs;have wO:jr≤4096:=bM2 hby;refine Kv ho (ZZ aB hx hy ht hz hb ?_ ?_ bB3) ⟨_,_,0,rfl,rfl⟩ h
 ·calc m*sz≤65536*64:=bY3 hm hs'
   _≤_:=by decide
 ·calc jr*m≤4096*65536:=bY3 wO hm
   _≤_:=by decide
theorem sO{cs:List Value}(h:iP Tryz.prog n w0 mu all ds l hp iv Z E ((i,fun v hn=>∃ b,v=.pointer (some ⟨b,0,none⟩)∧hn=[⟨b,cs.toArray,t⟩])::Rs))(ho:all[i]?=some ⟨some d,.alloc t,ty,pos,af,none⟩:=by rfl)(hz:lk Tb.zs t=some z:=by rfl)(hc:z.cells=cs.toArray:=by (first | ((simp only[Value.cells])<;>rfl) | rfl)):iP Tryz.prog n w0 mu all ds l hp iv Z (i::E) Rs:=
 Kv ho (V7 aB hz hc) ⟨_,_,0,rfl,rfl⟩ h
theorem jZ{R:RT}(hc:∀ w,Good w0 mu hp w→Fn Tryz.prog f vs.toArray w [] R)(hi:∃ v hn,R v hn)(h:iP Tryz.prog n w0 mu all ds l hp iv Z E ((i,R)::Rs))(ho:all[i]?=some ⟨some d,.call { callee:=.value (.func f),args:=xs.toArray,argTypes:=tys },ty,pos,af,none⟩:=by rfl)(bM:mem iV f=true:=by rfl)(hv:evs (aT ds iv af.toList++l) xs=some vs:=by rfl):iP Tryz.prog n w0 mu all ds l hp iv Z (i::E) Rs:=
 Kv ho (Qz (fA f bM) hv hc) hi h
theorem uH{ps:List (Nat×Operand)}{vs:List (Nat×Value)}{pl:List (Nat×Nat)}{zc out':Array Value}(h:gQ Tryz.prog n w0 mu all ds l hp Y D ((i,.agg out')::iv))(ho:all[i]?=some ⟨some d,.build t ps.toArray,ty,pos,af,none⟩:=by rfl)(hz:lk Tb.zs t=some z:=by rfl)(hzc:z.cells=zc:=by (first | ((simp only[Value.cells])<;>rfl) | rfl))(hpl:lk Tb.pl t=some pl:=by rfl)(hv:Fh (aT ds iv af.toList++l) ps=some vs:=by rfl)(hf:fl pl zc vs=some out:=by rfl)(hn:out=out':=by (first | ((simp only[putAt,Value.cells,bP4,bO7,bR3,bR4,bL2,bL',bL7,bN0,bI0,bI3,bI'])<;>rfl) | rfl)):gQ Tryz.prog n w0 mu all ds l hp Y (i::D) iv:=
 DK ho (Z4 aB hz hzc hpl hv hf hn) h
theorem yD(h:gQ Tryz.prog n w0 mu all ds l hp Y D ((i,v)::iv))(ho:all[i]?=some ⟨some d,.move x,ty,pos,af,none⟩:=by rfl)(hx:ev (aT ds iv af.toList++l) x=some v:=by rfl):gQ Tryz.prog n w0 mu all ds l hp Y (i::D) iv:=DK ho (au3 hx) h
theorem dX{vs:Array Value}(h:gQ Tryz.prog n w0 mu all ds l hp Y D ((i,v)::iv))(ho:all[i]?=some ⟨some d,.extract x j,ty,pos,af,none⟩:=by rfl)(hx:ev (aT ds iv af.toList++l) x=some (.tuple vs):=by rfl)(hj:nth vs.toList j=some v:=by rfl):gQ Tryz.prog n w0 mu all ds l hp Y (i::D) iv:=DK ho (Sv hx hj) h
theorem jJ(h:Y iv):gQ Tryz.prog n w0 mu all ds l hp Y [] iv:=ZY h
theorem kL(h:Z Rs):iP Tryz.prog n w0 mu all ds l hp iv Z [] Rs:=ZX h
end
theorem ry{iv fr:Fm}{bl:Hp}(h:Ops Tryz.prog n w0 mu all ops (fr++l) (bl++hp) Q)(hfr:bV ds iv=fr:=by (simp only[bV,bZ,bI0,bI3,reduceIte,Nat.reduceEqDiff];rfl)):Ops Tryz.prog n w0 mu all ops (bV ds iv++l) (bl++hp) Q:=by rw[hfr];exact h
theorem NJ{iv fr:Fm}(hy:Hy Tryz.prog n w0 mu (aT ds iv af.toList++l) hp ⟨some d,op,ty,pos,af,none⟩ v)(h:dH Tryz.prog n w0 mu all ds tail l hp Q (i+1) rest ((i,v)::iv) ((d,v)::fr))(hlk:lk ds i=some d:=by rfl):dH Tryz.prog n w0 mu all ds tail l hp Q i (⟨some d,op,ty,pos,af,none⟩::rest) iv fr:=ZT hlk hy h
theorem dK{t e cc a:Nat}{c:List Value}{ha hp':Hp}{xs:List (List Value)}(hA:Acc e sz v ha xs)(h:∀ v' ha',Acc e sz v' ha' (xs++[c])→Ops Tryz.prog n w0 mu all rest ((d,v')::l) (ha'++hp') Q)(h63:xs.length<1000000)(hnews:lI w0 mu hp a 0 c)
  (hperm:(ha++hp').Perm hp:=by first | exact bS6 | exact List.perm_append_singleton _ _ | exact .refl _) (hd:Nat.blt d n=true:=by rfl) (hx:ev l x=some v:=by rfl) (hy:ev l y=some (.slice (some ⟨a,0,none⟩) 1 cc):=by rfl) (ht:lk Tb.sl t=some (e,sz):=by rfl)
  (hz:lk Tb.zs e=some z:=by rfl) (hzs:z.cells.size=sz:=by rfl) (hb:lk Tb.eb e=some jr:=by rfl) (hby:Nat.ble jr 4096=true:=by rfl) (hl:c.length=sz:=by rfl) (h1:c.all (·.oneCell')=true:=by rfl):Ops Tryz.prog n w0 mu all (⟨some d,.call { callee:=.builtin .append,args:=#[x,y],argTypes:=#[t,t] },ty,pos,af,none⟩::rest) l hp Q:=
 Gm aB hA hd hx hy ht hz hzs hb hby hperm hl hnews h1 h63 h
theorem QF{t e cc a:Nat}{c:List Value}{ha:Hp}{xs:List (List Value)}(pre:Hp)(hA:Acc e sz v ha xs)(h:∀ v' ha',Acc e sz v' ha' (xs++[c])→Ops Tryz.prog n w0 mu all rest ((d,v')::l) (pre++ha') Q)(h63:xs.length<1000000)(hnews:lI w0 mu hp a 0 c)(hpre:pre++ha=hp:=by rfl)
  (hd:Nat.blt d n=true:=by rfl) (hx:ev l x=some v:=by rfl) (hy:ev l y=some (.slice (some ⟨a,0,none⟩) 1 cc):=by rfl) (ht:lk Tb.sl t=some (e,sz):=by rfl)
  (hz:lk Tb.zs e=some z:=by rfl) (hzs:z.cells.size=sz:=by rfl) (hb:lk Tb.eb e=some jr:=by rfl) (hby:Nat.ble jr 4096=true:=by rfl) (hl:c.length=sz:=by rfl) (h1:c.all (·.oneCell')=true:=by rfl):Ops Tryz.prog n w0 mu all (⟨some d,.call { callee:=.builtin .append,args:=#[x,y],argTypes:=#[t,t] },ty,pos,af,none⟩::rest) l hp Q:=
 Gm aB hA hd hx hy ht hz hzs hb hby (by rw[←hpre];exact bJ5) hl hnews h1 h63 fun v' ha' hA'=>cZ _ bJ5 (h v' ha' hA')
theorem make{t e:Nat}{k':IntKind}(h:∀ b,Ops Tryz.prog n w0 mu all rest ((d,.slice (some ⟨b,0,none⟩) m m)::l) (⟨b,madeCells z.cells (m*sz),e⟩::hp) Q)(hm:m≤65536)(hd:Nat.blt d n=true:=by rfl)(hx:ev l x=some (.int k (m:Int)):=by rfl)(hy:ev l y=some (.int k' (m:Int)):=by rfl)(ht:lk Tb.sl t=some (e,sz):=by rfl)(hz:lk Tb.zs e=some z:=by rfl)(hb:lk Tb.eb e=some jr:=by rfl)
  (hs:Nat.ble sz 64=true:=by rfl) (hby:Nat.ble jr 4096=true:=by rfl):Ops Tryz.prog n w0 mu all (⟨some d,.makeSlice t x y,ty,pos,af,none⟩::rest) l hp Q:=by
 have hs':sz≤64:=bM2 hs;have wO:jr≤4096:=bM2 hby;refine as9 aB hd hx hy ht hz hb ?_ ?_ bB3 h
 ·calc m*sz≤65536*64:=bY3 hm hs'
   _≤_:=by decide
 ·calc jr*m≤4096*65536:=bY3 wO hm
   _≤_:=by decide
theorem enter{args:List Value}{R:Value→Hp→Prop}(hf:Tryz.prog.funcs[f]?=some fn)(h:St Tryz.prog fn.ntmps w [] c (xZ 0 args) [] (Fin Tryz.prog fn R))(hb:fn.body=some c:=by rfl)(ha:Nat.ble args.length fn.ntmps=true:=by rfl):Fn Tryz.prog f args.toArray w [] R:=Vz hf hb fn.ntmps rfl (bM2 ha) h
structure dY(hi:Hp)(w:World):Prop where
 here:∀ e∈hi,w.heap[e.b]?=some (.cells e.cs e.t (0,0))
 nd:(hi.map (·.b)).Nodup
theorem Good.iG{w0:World}{mu:List Nat}{hi hp:Hp}(h:Good w0 mu (hi++hp) w):dY hi w:=
 ⟨fun e he=>h.here e (bJ2 _ he),by have:=h.nodup;rw[bJ4,bM3] at this;exact this.1⟩
theorem dS{args:List Value}{R:Value→Hp→Prop}(hi:Hp)(hN:dY hi w)(hf:Tryz.prog.funcs[f]?=some fn)(h:St Tryz.prog fn.ntmps w (hi.map (·.b)) c (xZ 0 args) hi (Fin Tryz.prog fn R))(hb:fn.body=some c:=by rfl)(ha:Nat.ble args.length fn.ntmps=true:=by rfl):Fn Tryz.prog f args.toArray w (hi.map (·.b)) R:=Si hi hN.here hN.nd hf hb fn.ntmps rfl (bM2 ha) h
end
end
end Go.Proofs.YtellmabgmnbhcaaGreat
