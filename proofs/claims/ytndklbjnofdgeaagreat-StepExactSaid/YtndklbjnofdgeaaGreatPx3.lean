/- Texts of one's own, merged: the engine, what the functions do, plain laws. -/
import Derived.Test.YtndklbjnofdgeaaGreatPx2
namespace Go.Proofs.YtndklbjnofdgeaaGreat
open Go.RowKit
set_option linter.unusedVariables false
set_option linter.unusedSimpArgs false
set_option maxRecDepth 20000
section
attribute [local irreducible] Hy St Ops DH gq
theorem rE (p:Int) (w:World):Fn Tryz.prog 124 [.int .i64 p].toArray w [] (fun u _=>u=.bool (PtD.bV p 0 4095)):=by
 refine enter Tryz.func124 ?_
 refine run ?_
 refine ax (fun wc hG=>uw p 4095 wc) ?_
 refine run ?_
 exact fin1 rfl
theorem zK (stage:Int) (hs:stage=1∨stage=2) (level:Nat) (hl:level<4) (d:DsD) (w:World):Fn Tryz.prog 221 [.int .i64 stage,.int .i64 (level:Int),PM d].toArray w [] (fun u _=>u=.bool (d.may stage level)):=by
 have hlv:decide ((level:Int)<3)=decide (level<3):=by rw [Bool.eq_iff_iff,decide_eq_true_eq,decide_eq_true_eq];omega
 have hlp:decide ((0:Int)<(level:Int))=decide (0<level):=by rw [Bool.eq_iff_iff,decide_eq_true_eq,decide_eq_true_eq];omega
 have h9:=ja hl
 refine enter Tryz.func221 ?_
 refine run ?_
 intro B
 refine run ?_
 refine aj _ rfl (fun hk=>?_) (fun hk=>?_)
 ·have hk0:d.kind=0:=by simpa using hk
  refine az ?_
  refine aZ (fun hg wc hG=>uw d.note 15 wc) ?_
  refine az ?_
  refine fin1 ?_
  rw [Aw d 0 0 d.note hk0]
  rcases hs with rfl | rfl<;>simp only [DsD.may,hk0,decide_true,cond_true,PtD.bV,Bool.and_true]
  ·cases d.bare<;>cases hz:decide (d.note=0)<;>simp_all
  ·cases d.bare<;>cases hz:decide (d.note=0)<;>simp_all
 ·have hk0:decide (d.kind=0)=false:=by simpa using hk
  refine run ?_
  refine aj _ rfl (fun hk1=>?_) (fun hk1=>?_)
  ·have nY:d.kind=1:=by simpa using hk1
   refine az ?_
   refine aZ (fun hg wc hG=>rE d.frame wc) ?_
   refine az ?_
   refine fin1 ?_
   rw [Aw d 1 d.frame 0 nY,hlv]
   simp only [DsD.may,nY,decide_true,cond_true,show decide ((1:Int)=0)=false from rfl,cond_false,Bool.true_and]
   cases decide (level<3)<;>cases d.bare<;>cases decide (d.note=0)<;>rfl
  ·have nY:decide (d.kind=1)=false:=by simpa using hk1
   refine run ?_
   refine aj _ rfl (fun hk2=>?_) (fun hk2=>?_)
   ·have Gq:d.kind=2:=by simpa using hk2
    refine run ?_
    intro A
    refine iT 47 ?_
    refine iR ?_
    refine kQ (fun hg wc hG=>rE d.frame wc) ?_
    refine iR ?_
    refine kQ (fun hg wc hG=>qA level hl wc) ?_
    refine LQ (hy:=fun hg=>iG av3 av3 d.frame.toNat (aO level) (by simp [jd,PtD.bV] at hg;omega) au2 at7) (h:=?_)
    refine iR ?_
    refine Tn (fun hg0 hg1 wc hG=>uw d.soft 15 wc) ?_
    refine iR ?_
    refine run ?_
    refine run ?_
    refine fin1 ?_
    rw [hlp]
    have hz:decide (((d.frame.toNat % aO level:Nat):Int)=0)=decide (d.frame.toNat % aO level=0):=by rw [Bool.eq_iff_iff,decide_eq_true_eq,decide_eq_true_eq];omega
    rw [hz]
    simp only [DsD.may,Gq,decide_true,cond_true,show decide ((2:Int)=0)=false from rfl,show decide ((2:Int)=1)=false from rfl,cond_false]
    rcases hs with rfl | rfl
    ·cases decide (0<level)<;>cases PtD.bV d.frame 0 4095<;>cases decide (d.frame.toNat % aO level=0)<;>cases decide (d.note=0)<;>cases d.r<;>cases decide (d.soft=0)<;>rfl
    ·simp only [PtD.bV]
     cases decide (0<level)<;>cases decide (d.frame.toNat % aO level=0)<;>cases decide (d.note=0)<;>cases d.ng<;>cases decide (0≤d.soft)<;>cases decide (d.soft≤15)<;>cases decide (0≤d.frame)<;>cases decide (d.frame≤4095)<;>rfl
   ·refine run ?_
    refine fin1 ?_
    have Gq:decide (d.kind=2)=false:=by simpa using hk2
    simp [DsD.may,hk0,nY,Gq]
theorem zL (stage:Int) (hs:stage=1∨stage=2) (level:Nat) (hl:level<4) (d:DsD) (hm:d.may stage level=true) (w:World):Fn Tryz.prog 222 [.int .i64 stage,.int .i64 (level:Int),PM d].toArray w [] (fun u _=>u=.int .u64 (d.word stage level:Int)):=by
 have hlv:decide ((level:Int)=3)=decide (level=3):=by rw [Bool.eq_iff_iff,decide_eq_true_eq,decide_eq_true_eq];omega
 obtain ⟨k1,k2,k3,k4⟩:=jQ hm
 have hf:0≤d.frame∧d.frame≤4095:=by
  rcases k1 with e | e | e
  ·have:=k2 e;omega
  ·have:=k3 e;omega
  ·have:=k4 e;omega
 have hf0:=hf.1
 have hf1:=hf.2
 have hfz:((d.frame.toNat:Nat):Int)=d.frame:=by omega
 refine enter Tryz.func222 ?_
 refine run ?_
 intro B
 refine run ?_
 refine aj _ rfl (fun hk=>?_) (fun hk=>?_)
 ·have hk0:d.kind=0:=by simpa using hk
  have hn0:=(k2 hk0).2.1
  have hn1:=(k2 hk0).2.2
  have hnz:((d.note.toNat:Nat):Int)=d.note:=by omega
  refine run ?_
  refine fA au2 (ni rfl rfl d.note.toNat 4 hnz.symm au2 au0) ?_
  refine run ?_
  refine fin1 ?_
  rw [DsD.LZ stage level d hk0]
 ·have hk0:decide (d.kind=0)=false:=by simpa using hk
  refine run ?_
  refine drawM 14 [0,1,2,3,4,5,6,7,8,9,10,11,12] [13] [] ?_
  refine jy rfl (fun hx2=>fH (fP 179 rfl) rfl (fun wc hG=>pX 0 true wc)) ?_
  refine eX ?_
  refine WH (hy:=fun hx2 hg=>zX rfl) (h:=?_)
  refine WH (v:=.bool (decide ((level:Int)=3))) (hy:=fun hx2 hg=>?_) (h:=?_)
  ·exact JM av3 rfl
  refine eX ?_
  refine jy rfl (fun hx2=>fH (fP 179 rfl) rfl (fun wc hG=>pX 1 _ wc)) ?_
  refine eX ?_
  refine Tv (zJ [⟨0,1,1⟩,⟨1,1,b1 (decide (d.kind=1) || decide (level=3))⟩,⟨12,12,d.frame.toNat⟩]) (h:=?_) (hn:=?_)
  ·refine gW ?_
   simp only [DN]
   rintro _ hn ⟨T,rfl,rfl⟩
   refine eY ?_
   refine zk ?_
   simp only [List.cons_append,List.nil_append,List.append_nil]
   refine run ?_
   refine aj _ rfl (fun hk1=>?_) (fun hk1=>?_)
   ·have hk2:d.kind=2:=by simpa using hk1
    have nY:decide (d.kind=1)=false:=by rw [hk2];rfl
    simp only [nY,Bool.false_or]
    refine run ?_
    refine drawM 11 [0,1,2,3,4,5,6,7,8,9] [10] [] ?_
    refine eX ?_
    refine jy rfl (fun hx2=>fH (fP 179 rfl) rfl (fun wc hG=>pX 10 _ wc)) ?_
    refine eX ?_
    refine jy rfl (fun hx2=>fH (fP 179 rfl) rfl (fun wc hG=>pX 54 _ wc)) ?_
    refine eX ?_
    refine Tv (zJ [⟨10,1,b1 d.af⟩,⟨54,1,b1 (!d.x)⟩]) (h:=?_) (hn:=by cases d.af<;>cases d.x<;>rfl)
    refine gW ?_
    simp only [DN]
    rintro _ hn ⟨T2,rfl,rfl⟩
    refine eY ?_
    refine zk ?_
    simp only [List.cons_append,List.nil_append,List.append_nil]
    refine uJ (m:=2) ([⟨10,1,b1 d.af⟩,⟨54,1,b1 (!d.x)⟩].map Eg) [⟨T2,(zJ [⟨10,1,b1 d.af⟩,⟨54,1,b1 (!d.x)⟩]).toArray,149⟩,⟨B,#[.int .i64 d.kind,.int .i64 d.frame,.bool d.r,.bool d.w,.bool d.x,.bool d.af,.bool d.ng,.int .i64 d.soft,.int .i64 d.note],258⟩] (pF T 3 [⟨0,1,1⟩,⟨1,1,b1 (decide (level=3))⟩,⟨12,12,d.frame.toNat⟩]) au3 (fun v' ha' hA'=>?_) au3 rfl (pz _) (bP (m:=6) mh rfl) (hperm:=by (exact au))
    refine aI (⟨B,#[.int .i64 d.kind,.int .i64 d.frame,.bool d.r,.bool d.w,.bool d.x,.bool d.af,.bool d.ng,.int .i64 d.soft,.int .i64 d.note],258⟩::ha') ak ?_
    obtain ⟨q,cap,rfl⟩:=hA'.opened
    refine run ?_
    refine aj _ rfl (fun h1=>?_) (fun h1=>?_)
    ·have h1':decide (stage=1)=true:=h1
     refine run ?_
     refine drawM 11 [0,1,2,3,4,5,6,7,8,9] [10] [] ?_
     refine eX ?_
     refine jy rfl (fun hx2=>fH (fP 179 rfl) rfl (fun wc hG=>pX 7 _ wc)) ?_
     refine eX ?_
     refine jy rfl (fun hx2=>fH (fP 179 rfl) rfl (fun wc hG=>pX 11 _ wc)) ?_
     refine eX ?_
     refine Tv (zJ [⟨7,1,b1 (!d.w)⟩,⟨11,1,b1 d.ng⟩]) (h:=?_) (hn:=by cases d.w<;>cases d.ng<;>rfl)
     refine gW ?_
     simp only [DN]
     rintro _ hn ⟨T3,rfl,rfl⟩
     refine eY ?_
     refine zk ?_
     simp only [List.cons_append,List.nil_append,List.append_nil]
     refine uJ (m:=2) ([⟨7,1,b1 (!d.w)⟩,⟨11,1,b1 d.ng⟩].map Eg) [⟨T3,(zJ [⟨7,1,b1 (!d.w)⟩,⟨11,1,b1 d.ng⟩]).toArray,149⟩,⟨B,#[.int .i64 d.kind,.int .i64 d.frame,.bool d.r,.bool d.w,.bool d.x,.bool d.af,.bool d.ng,.int .i64 d.soft,.int .i64 d.note],258⟩] hA' au3 (fun v2 ha2 hA2=>?_) au3 rfl (pz _) (bP (m:=6) mh rfl) (hperm:=by (exact au))
     refine run ?_
     have e:d.fields stage level=[⟨0,1,1⟩,⟨1,1,b1 (decide (level=3))⟩,⟨12,12,d.frame.toNat⟩,⟨10,1,b1 d.af⟩,⟨54,1,b1 (!d.x)⟩,⟨7,1,b1 (!d.w)⟩,⟨11,1,b1 d.ng⟩]:=by simp only [DsD.fields,hk0,nY,h1',cond_false,cond_true]
     obtain ⟨q2,cap2,rfl⟩:=hA2.opened
     have hfo:=DsD.uN hm
     rw [e] at hfo
     refine ax (fun wc hG=>xH _ hfo (hA2.lie (fun b hb=>hG.here _ (List.mem_append_left _ hb)) au3)) ?_
     refine run ?_
     refine fin1 ?_
     rw [DsD.word,e]
    ·have h1':decide (stage=1)=false:=by simpa using h1
     have hso:=Gt hm hk2 h1'
     have hs0:=hso.1
     have hs1:=hso.2
     have hsz:((d.soft.toNat:Nat):Int)=d.soft:=by omega
     refine run ?_
     refine drawM 15 [0,1,2,3,4,5,6,7,8,9,10,11,12,13] [14] [] ?_
     refine eX ?_
     refine jy rfl (fun hx2=>fH (fP 179 rfl) rfl (fun wc hG=>pX 6 _ wc)) ?_
     refine eX ?_
     refine jy rfl (fun hx2=>fH (fP 179 rfl) rfl (fun wc hG=>pX 7 _ wc)) ?_
     refine eX ?_
     refine Tv (zJ [⟨6,1,b1 d.r⟩,⟨7,1,b1 d.w⟩,⟨55,4,d.soft.toNat⟩]) (h:=?_) (hn:=by rw [← hsz];cases d.r<;>cases d.w<;>rfl)
     refine gW ?_
     simp only [DN]
     rintro _ hn ⟨T3,rfl,rfl⟩
     refine eY ?_
     refine zk ?_
     simp only [List.cons_append,List.nil_append,List.append_nil]
     refine uJ (m:=3) ([⟨6,1,b1 d.r⟩,⟨7,1,b1 d.w⟩,⟨55,4,d.soft.toNat⟩].map Eg) [⟨T3,(zJ [⟨6,1,b1 d.r⟩,⟨7,1,b1 d.w⟩,⟨55,4,d.soft.toNat⟩]).toArray,149⟩,⟨B,#[.int .i64 d.kind,.int .i64 d.frame,.bool d.r,.bool d.w,.bool d.x,.bool d.af,.bool d.ng,.int .i64 d.soft,.int .i64 d.note],258⟩] hA' au3 (fun v2 ha2 hA2=>?_) au3 rfl (pz _) (bP (m:=9) mh rfl) (hperm:=by (exact au))
     refine run ?_
     have e:d.fields stage level=[⟨0,1,1⟩,⟨1,1,b1 (decide (level=3))⟩,⟨12,12,d.frame.toNat⟩,⟨10,1,b1 d.af⟩,⟨54,1,b1 (!d.x)⟩,⟨6,1,b1 d.r⟩,⟨7,1,b1 d.w⟩,⟨55,4,d.soft.toNat⟩]:=by simp only [DsD.fields,hk0,nY,h1',cond_false,cond_true]
     obtain ⟨q2,cap2,rfl⟩:=hA2.opened
     have hfo:=DsD.uN hm
     rw [e] at hfo
     refine ax (fun wc hG=>xH _ hfo (hA2.lie (fun b hb=>hG.here _ (List.mem_append_left _ hb)) au3)) ?_
     refine run ?_
     refine fin1 ?_
     rw [DsD.word,e]
   ·have hk2:d.kind=1:=by
     simp at hk0 hk1
     rcases k1 with e | e | e
     ·exact absurd e hk0
     ·exact e
     ·exact absurd e hk1
    have nY:decide (d.kind=1)=true:=by rw [hk2];rfl
    simp only [nY,Bool.true_or,show b1 true=1 from rfl]
    refine run ?_
    have e:d.fields stage level=[⟨0,1,1⟩,⟨1,1,1⟩,⟨12,12,d.frame.toNat⟩]:=by simp only [DsD.fields,hk0,nY,cond_false,cond_true]
    have hfo:=DsD.uN hm
    rw [e] at hfo
    refine ax (fun wc hG=>xH _ hfo ((pF T 3 _).lie (fun b hb=>hG.here _ (List.mem_append_left _ hb)) au3)) ?_
    refine run ?_
    refine fin1 ?_
    rw [DsD.word,e]
  ·rw [hlv,← hfz]
   cases decide (d.kind=1)<;>cases decide (level=3)<;>rfl
theorem mV {stage:Int} {level v:Nat} {D:DsD} (hD:gQ stage level v=D):I7 stage level v=bif (!D.may stage level || !decide ((D.word stage level:Int)=(v:Int))) then Ei else D:=by
 unfold I7
 rw [hD]
 have:decide ((D.word stage level:Int)=(v:Int))=decide (D.word stage level=v):=by rw [Bool.eq_iff_iff,decide_eq_true_eq,decide_eq_true_eq];omega
 rw [this]
 cases D.may stage level<;>cases decide (D.word stage level=v)<;>rfl
theorem YY (stage:Int) (hs:stage=1∨stage=2) (level:Nat) (hl:level<4) (v:Nat) (hv:v<18446744073709551616) (w:World):Fn Tryz.prog 207 [.int .i64 stage,.int .i64 (level:Int),.int .u64 (v:Int)].toArray w [] (fun u _=>u=PM (I7 stage level v)):=by
 have hlv:decide ((level:Int)<3)=!decide (level=3):=by rw [Bool.eq_iff_iff,decide_eq_true_eq];simp;omega
 refine enter Tryz.func207 ?_
 refine run ?_
 intro B C
 refine run ?_
 refine ax (fun wc hG=>ry v 0 au0 hv wc) ?_
 refine run ?_
 refine aj _ rfl (fun h0=>?_) (fun h0=>?_)
 ·have h0':(!decide (aS v 0 1=1))=true:=h0
  have hD:gQ stage level v=⟨0,0,false,false,false,false,false,0,(aS v 4 4:Int)⟩:=by rw [gQ,h0',cond_true];rfl
  have hb:=zI v 4 4 au0
  refine run ?_
  refine ax (fun wc hG=>oO v 4 4 au0 au0 hv wc) ?_
  refine run ?_
  refine ax (fun wc hG=>zK stage hs level hl (⟨0,0,false,false,false,false,false,0,(aS v 4 4:Int)⟩) wc) ?_
  refine az ?_
  refine aZ (b:=!DsD.may stage level (⟨0,0,false,false,false,false,false,0,(aS v 4 4:Int)⟩)) (fun hg wc hG=>zL stage hs level hl (⟨0,0,false,false,false,false,false,0,(aS v 4 4:Int)⟩) ay' wc) ?_
  refine az ?_
  refine aj _ rfl (fun hc=>?_) (fun hc=>?_)
  ·refine run ?_
   refine gI ?_
   rw [mV hD,hc]
   rfl
  ·refine run ?_
   refine gI ?_
   rw [mV hD,hc]
   rfl
 ·have h0':(!decide (aS v 0 1=1))=false:=by simpa using h0
  have hb:=zI v 12 12 au0
  refine run ?_
  refine ax (fun wc hG=>ry v 1 au0 hv wc) ?_
  refine az ?_
  refine aj _ rfl (fun h1=>?_) (fun h1=>?_)
  ·rw [hlv] at h1
   have hD:gQ stage level v=⟨1,(aS v 12 12:Int),false,false,false,false,false,0,0⟩:=by rw [gQ,h0',cond_false,h1,cond_true];rfl
   refine run ?_
   refine ax (fun wc hG=>oO v 12 12 au0 au0 hv wc) ?_
   refine run ?_
   refine ax (fun wc hG=>zK stage hs level hl (⟨1,(aS v 12 12:Int),false,false,false,false,false,0,0⟩) wc) ?_
   refine az ?_
   refine aZ (b:=!DsD.may stage level (⟨1,(aS v 12 12:Int),false,false,false,false,false,0,0⟩)) (fun hg wc hG=>zL stage hs level hl (⟨1,(aS v 12 12:Int),false,false,false,false,false,0,0⟩) ay' wc) ?_
   refine az ?_
   refine aj _ rfl (fun hc=>?_) (fun hc=>?_)
   ·refine run ?_
    refine gI ?_
    rw [mV hD,hc]
    rfl
   ·refine run ?_
    refine gI ?_
    rw [mV hD,hc]
    rfl
  ·have h1':(decide (aS v 1 1=1) && decide ((level:Int)<3))=false:=by simpa using h1
   rw [hlv] at h1'
   refine run ?_
   refine ax (fun wc hG=>oO v 12 12 au0 au0 hv wc) ?_
   refine run ?_
   refine ax (fun wc hG=>ry v 10 au0 hv wc) ?_
   refine run ?_
   refine ax (fun wc hG=>ry v 54 au0 hv wc) ?_
   refine run ?_
   refine aj _ rfl (fun hst=>?_) (fun hst=>?_)
   ·have hst':decide (stage=1)=true:=hst
    have hD:gQ stage level v=⟨2,(aS v 12 12:Int),true,!decide (aS v 7 1=1),!decide (aS v 54 1=1),decide (aS v 10 1=1),decide (aS v 11 1=1),0,0⟩:=by rw [gQ,h0',cond_false,h1',cond_false,hst',cond_true];rfl
    refine run ?_
    refine ax (fun wc hG=>ry v 7 au0 hv wc) ?_
    refine run ?_
    refine ax (fun wc hG=>ry v 11 au0 hv wc) ?_
    refine run ?_
    refine ax (fun wc hG=>zK stage hs level hl (⟨2,(aS v 12 12:Int),true,!decide (aS v 7 1=1),!decide (aS v 54 1=1),decide (aS v 10 1=1),decide (aS v 11 1=1),0,0⟩) wc) ?_
    refine az ?_
    refine aZ (b:=!DsD.may stage level (⟨2,(aS v 12 12:Int),true,!decide (aS v 7 1=1),!decide (aS v 54 1=1),decide (aS v 10 1=1),decide (aS v 11 1=1),0,0⟩)) (fun hg wc hG=>zL stage hs level hl (⟨2,(aS v 12 12:Int),true,!decide (aS v 7 1=1),!decide (aS v 54 1=1),decide (aS v 10 1=1),decide (aS v 11 1=1),0,0⟩) ay' wc) ?_
    refine az ?_
    refine aj _ rfl (fun hc=>?_) (fun hc=>?_)
    ·refine run ?_
     refine gI ?_
     rw [mV hD,hc]
     rfl
    ·refine run ?_
     refine gI ?_
     rw [mV hD,hc]
     rfl
   ·have hst':decide (stage=1)=false:=by simpa using hst
    have hD:gQ stage level v=⟨2,(aS v 12 12:Int),decide (aS v 6 1=1),decide (aS v 7 1=1),!decide (aS v 54 1=1),decide (aS v 10 1=1),false,(aS v 55 4:Int),0⟩:=by rw [gQ,h0',cond_false,h1',cond_false,hst',cond_false];rfl
    have hb4:=zI v 55 4 au0
    refine run ?_
    refine ax (fun wc hG=>ry v 6 au0 hv wc) ?_
    refine run ?_
    refine ax (fun wc hG=>ry v 7 au0 hv wc) ?_
    refine run ?_
    refine ax (fun wc hG=>oO v 55 4 au0 au0 hv wc) ?_
    refine run ?_
    refine ax (fun wc hG=>zK stage hs level hl (⟨2,(aS v 12 12:Int),decide (aS v 6 1=1),decide (aS v 7 1=1),!decide (aS v 54 1=1),decide (aS v 10 1=1),false,(aS v 55 4:Int),0⟩) wc) ?_
    refine az ?_
    refine aZ (b:=!DsD.may stage level (⟨2,(aS v 12 12:Int),decide (aS v 6 1=1),decide (aS v 7 1=1),!decide (aS v 54 1=1),decide (aS v 10 1=1),false,(aS v 55 4:Int),0⟩)) (fun hg wc hG=>zL stage hs level hl (⟨2,(aS v 12 12:Int),decide (aS v 6 1=1),decide (aS v 7 1=1),!decide (aS v 54 1=1),decide (aS v 10 1=1),false,(aS v 55 4:Int),0⟩) ay' wc) ?_
    refine az ?_
    refine aj _ rfl (fun hc=>?_) (fun hc=>?_)
    ·refine run ?_
     refine gI ?_
     rw [mV hD,hc]
     rfl
    ·refine run ?_
     refine gI ?_
     rw [mV hD,hc]
     rfl
end
section
def uy (ws:List Nat):Prop:=∀ x∈ws,x<18446744073709551616
theorem uy.at {ws:List Nat} (h:uy ws) (p:Nat):ws.getD p 0<18446744073709551616:=by
 rw [List.getD_eq_getElem?_getD]
 cases hp:ws[p]? with
 | none=>simp
 | some x=>exact h x (List.mem_of_getElem? hp)
theorem uy.set {ws:List Nat} (h:uy ws) {x:Nat} (hx:x<18446744073709551616) (p:Nat):uy (ws.set p x):=by
 intro y hy
 rcases List.mem_or_eq_of_mem_set hy with hy | rfl
 ·exact h y hy
 ·exact hx
attribute [local irreducible] Hy St Ops DH gq
section
variable {P : Program} {T : Tab} {n : Nat} {w0 : World} {mu : List Nat} {l : Fm} {hp : Hp} {dd : Option Nat} {ty : TypeId} {pos : String} {af : Array Edge} {gg : Option (Nat × Bool)} {t u : TypeId} {x y : Operand}
theorem WW {pi qi:Int} (hx:ev l x=some (.int .i64 pi)) (hy:ev l y=some (.int .i64 qi)) (p q r:Nat) (hpi:pi=(p:Int)) (hqi:qi=(q:Int)) (hr:p + q=r) (hb:r<9223372036854775808):Hy P n w0 mu l hp ⟨dd,.binOp .add t x y u,ty,pos,af,gg⟩ (.int .i64 (r:Int)):=by
 subst hpi hqi hr
 have:=DK (o:=⟨dd,.binOp .add t x y u,ty,pos,af,gg⟩) (P:=P) (n:=n) (w0:=w0) (mu:=mu) (hp:=hp) rfl hx hy at7 at7
 rwa [← Int.natCast_add] at this
end
theorem Gx (ws:List Nat) (hw:uy ws) {w:World} {v:Value} (h:aB w v 1 (ws.map uV)) (stage:Int) (hs:stage=1∨stage=2) (level:Nat) (hl:level<4) (f:Int) (hf:dM ws.length f=true) (page:Nat) (hp:page≤4095) (hn:ws.length<1000000):Fn Tryz.prog 186 [.agg #[v],.int .i64 stage,.int .i64 (level:Int),.int .i64 f,.int .i64 (page:Int)].toArray w [] (fun u _=>u=PM (I7 stage level (ws.getD (rZ f level page) 0))):=by
 obtain ⟨q,cap,rfl,hne,hle⟩:=h.opened
 have hfi:=jo hf
 have hpl:=WU (level:=level) (page:=page) hf
 have hi8:=yO level page
 have hne0:ws ≠ []:=by intro e;subst e;simp at hpl
 obtain ⟨b,o,rfl⟩:=hne hne0
 have hr:=dm (h.row hpl)
 simp only [uV,Nat.mul_one] at hr
 refine enter Tryz.func186 ?_
 refine run ?_
 intro B C
 refine run ?_
 refine iT 13 ?_
 refine bW ?_
 refine jU (fun wc hG=>PR level hl page hp wc) ?_
 refine qf (WW rfl rfl (f.toNat * 8) (uo level page) (rZ f level page) at7 rfl rfl at7) ?_
 refine bW ?_
 refine jU (fun wc hG=>YY stage hs level hl _ (hw.at _) wc) ?_
 refine bW ?_
 refine run ?_
 exact gI rfl
theorem Own.WX {e:Nat} {v:Value} {h:Hp} {xs:List Nat} (hA:Own e 1 v h (xs.map uV)) {k:Nat} (hk:k<xs.length):∃ g cap cur,v=.slice (some ⟨g,0,none⟩) xs.length cap∧h=[⟨g,cur,e⟩]∧k + 1≤cur.size ∧
  ∀ z:Nat,Own e 1 (.slice (some ⟨g,0,none⟩) xs.length cap) [⟨g,cur.setIfInBounds k (.int .u64 (z:Int)),e⟩] ((xs.set k z).map uV):=by
 obtain ⟨g,cap,cur,rfl,rfl,hr⟩:=hA.row (n:=xs.length) au3 at7
 have hall0:∀ (ys:List Nat),∀ c∈ys.map uV,c.length=1∧c.all (·.oneCell')=true:=by
  intro ys c hc
  obtain ⟨x,_,rfl⟩:=List.mem_map.1 hc
  exact ⟨rfl,rfl⟩
 have hall:∀ c∈xs.map uV,c.length=1:=fun c hc=>(hall0 xs c hc).1
 have hi:(xs.map uV)[k]?=some (uV (xs.getD k 0)):=by
  rw [List.getElem?_map,List.getD_eq_getElem?_getD,List.getElem?_eq_getElem hk];rfl
 have hsz:=hr.size
 have hle:=hr.le
 refine ⟨g,cap,cur,rfl,rfl,by omega,fun z=>⟨hall0 _,.inr ⟨g,cap,_,by simp,rfl,?_⟩⟩⟩
 have h2:=hr.put hall hi (k:=0) (vs:=[.int .u64 (z:Int)]) au3
 have e1:(uV (xs.getD k 0)).take 0++[Value.int .u64 (z:Int)]++(uV (xs.getD k 0)).drop (0 + [Value.int .u64 (z:Int)].length)=uV z:=rfl
 rw [e1,Nat.mul_one,Nat.add_zero] at h2
 have e2:((xs.set k z).map uV).length=xs.length:=by simp
 rw [e2,List.map_set]
 exact h2
theorem Own.PW {e g n cap:Nat} {cur:Array Value} {xs:List Nat} (hA:Own e 1 (.slice (some ⟨g,0,none⟩) n cap) [⟨g,cur,e⟩] (xs.map uV)) {k:Nat} (hk:k<xs.length):k + 1≤cur.size∧k<n∧n=xs.length ∧
  ∀ z:Nat,Own e 1 (.slice (some ⟨g,0,none⟩) n cap) [⟨g,cur.setIfInBounds k (.int .u64 (z:Int)),e⟩] ((xs.set k z).map uV):=by
 obtain ⟨g',cap',cur',e1,e2,h1,h2⟩:=hA.WX hk
 injection e1 with e1 e3 e4
 injection e1 with e1
 injection e1 with e1
 injection e2 with e2
 injection e2 with _ e2
 subst e1 e3 e4 e2
 exact ⟨h1,hk,rfl,h2⟩
theorem En {n:Nat} {w0:World} {mu:List Nat} {l:Fm} {Q:Exit→Fm→Hp→Prop} {all:Array Oper} {ops:List Oper} {h1 hn rest:Hp} (hle:aC h1 hn) (h:Ops Tryz.prog n w0 mu all ops l (h1++rest) Q):Ops Tryz.prog n w0 mu all ops l (hn++rest) Q:=aI _ (cnt1 hle) h
theorem oD {α:Type} [Inhabited α] (p:α→Bool) (l:List α):∀ j,p (l.getD j default)=true→∃ j0,j0≤j∧p (l.getD j0 default)=true∧∀ i,i<j0→p (l.getD i default)=false:=by
 intro j
 induction j using Nat.strongRecOn with
 | ind j ih=>
  intro h
  by_cases hx:∃ i,i<j∧p (l.getD i default)=true
  ·obtain ⟨i,hi,hp⟩:=hx
   obtain ⟨j0,h0,h1,h2⟩:=ih i hi hp
   exact ⟨j0,by omega,h1,h2⟩
  ·refine ⟨j,Nat.le_refl _,h,fun i hi=>?_⟩
   cases hp:p (l.getD i default) with
   | false=>rfl
   | true=>exact absurd ⟨i,hi,hp⟩ hx
end
theorem Own.nil (e sz:Nat):Own e sz (.slice none 0 0) [] []:=⟨by simp,.inl ⟨rfl,rfl,rfl⟩⟩
theorem y5 {fn:Func} {R:Value→Hp→Prop} {l:Fm} {hp:Hp} {a t b a2 t2 b2 s2:Nat} {cs cs2:Array Value} {tb tb2:TypeId} {v2:Value} (h:R (.tuple #[.agg cs,.agg cs2,v2]) hp) (hr:fn.results=#[.cell a t,.cell a2 t2,.tmp s2]:=by rfl) (hv:look l a=some (.pointer (some ⟨b,0,none⟩)):=by rfl) (hw:look l a2=some (.pointer (some ⟨b2,0,none⟩)):=by rfl) (h2:look l s2=some v2:=by rfl) (hag:mem Tb.ag t=true:=by rfl) (hm:(⟨b,cs,tb⟩:aH)∈hp:=by (first | (with_reducible apply mh) | (focus ((repeat (first | (with_reducible apply mh) | (with_reducible apply mt) | (with_reducible apply List.mem_append_right)));done)))) (hz:lk Tb.sz t=some cs.size:=by rfl) (wo:mem Tb.ag t2=true:=by rfl) (hm2:(⟨b2,cs2,tb2⟩:aH)∈hp:=by (first | (with_reducible apply mh) | (focus ((repeat (first | (with_reducible apply mh) | (with_reducible apply mt) | (with_reducible apply List.mem_append_right)));done)))) (hz2:lk Tb.sz t2=some cs2.size:=by rfl):Fin Tryz.prog fn R .ret l hp:=
 ⟨.inl rfl,[.agg cs,.agg cs2,v2],by rw [hr];exact ⟨⟨⟨b,cs,tb⟩,hm,hv,.inr ⟨ay.zq hag,ay.sV hz,rfl⟩⟩,⟨⟨b2,cs2,tb2⟩,hm2,hw,.inr ⟨ay.zq wo,ay.sV hz2,rfl⟩⟩,h2,trivial⟩,h⟩
theorem aC.mem {r h:Hp} (hl:aC r h) {b:aH} (hb:b∈r):b∈h:=by
 obtain ⟨x,hx⟩:=hl.perm
 exact hx.mem_iff.1 (List.mem_append_left _ hb)
section
attribute [local irreducible] Hy St Ops DH gq
theorem aB.drop {w:World} {p:Option Addr} {n c i:Nat} {xs:List Int} (h:aB w (.slice p n c) 1 (xs.map dN)) (hn:n=xs.length) (hc:n≤c) (hi:i≤n):∃ p',sliced p i n c 1=.slice p' (xs.drop i).length (c - i)∧(xs.drop i).length≤c - i∧aB w (.slice p' (xs.drop i).length (c - i)) 1 ((xs.drop i).map dN):=by
 subst hn
 obtain ⟨⟨q,cap,e,hne⟩,hle⟩:=h
 injection e with e1 e2 e3
 subst e1 e3
 have hdl:(xs.drop i).length=xs.length - i:=List.length_drop
 refine ⟨_,by unfold sliced;rw [hdl],by omega,⟨⟨_,_,by rw [List.length_map],fun hx=>?_⟩,by rw [List.length_map] at hle ⊢;omega⟩⟩
 have hlt:i<xs.length:=by
  rcases Nat.lt_or_ge i xs.length with h | h
  ·exact h
  ·rw [List.drop_eq_nil_of_le h] at hx;exact absurd rfl hx
 obtain ⟨b,o,rfl,hr⟩:=hne (by intro e;simp at e;subst e;simp at hlt)
 refine ⟨b,o + i,?_,fun j cc hj=>?_⟩
 ·rw [if_neg at7,Nat.mul_one];simp [lY]
 ·rw [List.map_drop,List.getElem?_drop] at hj
  have:=hr (i + j) cc hj
  rw [Nat.mul_one] at this ⊢
  rwa [← Nat.add_assoc] at this
end
section
section
variable {P : Program} {n : Nat} {w0 : World} {mu : List Nat} {lf : Fm} {hp : Hp} {dd : Option Tmp} {ty : TypeId} {pos : String} {af : Array Edge}
theorem Ja {x:Operand} {p:Addr} (hx:ev lf x=some (.pointer (some p))):yY P n w0 mu lf hp ⟨dd,.nilCheck x,ty,pos,af,none⟩ (.pointer (some p)):=⟨rfl,fun a w hk _=>by simp [execOp,hk.ev hx]⟩
theorem TF {T:Tab} (ok:aY P T) {t:TypeId} {x:Operand} {k b off k' off':Nat} {os:List Nat} (hx:ev lf x=some (.pointer (some ⟨b,off,none⟩))) (ho:lk T.fo t=some os) (hk2:nth os k=some k') (he:off + k'=off'):yY P n w0 mu lf hp ⟨dd,.fieldAddr t x k,ty,pos,af,none⟩ (.pointer (some ⟨b,off',none⟩)):=by
 have hf:=ok.gfo ho (by rw [pR] at hk2;simpa using hk2)
 subst he
 refine ⟨rfl,fun a w hk _=>?_⟩
 simp only [execOp,hk.ev hx]
 unfold NZ at hf
 cases hu:P.underlying t with
 | none=>rw [hu] at hf;cases hf
 | some dd=>
  rw [hu] at hf
  cases dd with
  | struct fs=>
   simp only at hf
   cases hq:fs[k]? with
   | none=>rw [hq] at hf;cases hf
   | some f=>
    rw [hq] at hf
    simp only [Option.bind_some] at hf
    cases hz:fU P f.type with
    | none=>rw [hz] at hf;cases hf
    | some s=>
     rw [hz] at hf
     cases s with
     | zero=>cases hf
     | succ s=>
      simp only [Option.some.injEq] at hf
      subst hf
      cases hi:P.info? f.type with
      | none=>simp [fU,hi] at hz
      | some i=>
       have hsz:i.size=s + 1:=by simpa [fU,hi] using hz
       simp [Instr.fieldAt,Instr.sureAddr,run_underlying hu w,hq,fieldPlace,sizeOf,typeInfo,hi,hsz,add_lit]
  | _=>cases hf
variable {l : Fm} {all : Array Oper} {iv : Fm} {i d : Nat} {ds : List (Nat × Nat)} {D : List Nat} {Y : Fm → Prop}
end
section
variable {n : Nat} {w0 : World} {mu : List Nat} {l : Fm} {hp : Hp} {all : Array Oper} {iv : Fm} {i d : Nat} {ds : List (Nat × Nat)} {D : List Nat} {Y : Fm → Prop} {ty : TypeId} {pos : String} {af : Array Edge}
theorem jR {x:Operand} {p:Addr} (h:fQ Tryz.prog n w0 mu all ds l hp Y D ((i,.pointer (some p))::iv)) (ho:all[i]?=some ⟨some d,.nilCheck x,ty,pos,af,none⟩:=by rfl) (hx:ev (aA ds iv af.toList++l) x=some (.pointer (some p)):=by rfl):fQ Tryz.prog n w0 mu all ds l hp Y (i::D) iv:=FY ho (Ja hx) h
theorem rF {t:TypeId} {x:Operand} {k b off k' off':Nat} {os:List Nat} (h:fQ Tryz.prog n w0 mu all ds l hp Y D ((i,.pointer (some ⟨b,off',none⟩))::iv)) (ho:all[i]?=some ⟨some d,.fieldAddr t x k,ty,pos,af,none⟩:=by rfl) (hx:ev (aA ds iv af.toList++l) x=some (.pointer (some ⟨b,off,none⟩)):=by rfl) (hfo:lk Tb.fo t=some os:=by rfl) (hk:nth os k=some k':=by rfl) (he:off + k'=off':=by rfl):fQ Tryz.prog n w0 mu all ds l hp Y (i::D) iv:=FY ho (TF ay hx hfo hk he) h
theorem Az {f:FuncId} {xs:List Operand} {vs:List Value} {tys:Array TypeId} {v:Value} {X:Fm→Prop} {S:List Nat} (hc:∀ w hx,Good w0 mu (hx++hp) w→Fn Tryz.prog f vs.toArray w [] (fun u _=>u=v)) (h:iK Tryz.prog n w0 mu all ds l hp X S ((i,v)::iv)) (ho:all[i]?=some ⟨some d,.call { callee:=.value (.func f),args:=xs.toArray,argTypes:=tys },ty,pos,af,none⟩:=by rfl) (dU:mem mM f=true:=by rfl) (hv:evs (aA ds iv af.toList++l) xs=some vs:=by rfl):iK Tryz.prog n w0 mu all ds l hp X (i::S) iv:=
 jy ho (fun hx=>fH (fP f dU) hv (fun w hG=>hc w hx hG)) h
end
section
variable {P : Program} {n : Nat} {w0 : World} {mu : List Nat} {l : Fm} {h0 hp hc : Hp} {all : Array Oper} {iv aF aK : Fm} {i d t0 : Nat} {ds : List (Nat × Nat)} {S r : List Nat} {X : Fm → Prop} {Y : Fm → Hp → Prop} {op : Op} {ty : TypeId} {pos : String} {af : Array Edge} {v : Value} {j dj : Nat} {want b : Bool}
end
section
variable {n : Nat} {w0 : World} {mu : List Nat} {l : Fm} {h0 hp hc : Hp} {all : Array Oper} {iv aF aK : Fm} {i d : Nat} {ds : List (Nat × Nat)} {r : List Nat} {Y : Fm → Hp → Prop} {ty : TypeId} {pos : String} {af : Array Edge}
end
section
variable {P : Program} {n : Nat} {w0 : World} {mu : List Nat} {l : Fm} {hp : Hp} {dd : Option Tmp} {ty : TypeId} {pos : String} {af : Array Edge} {gg : Option (Nat × Bool)} {t u : TypeId} {x y : Operand}
theorem Jb {pi qi:Int} (hx:ev l x=some (.int .u64 pi)) (hy:ev l y=some (.int .u64 qi)) (p q:Nat) (hpi:pi=(p:Int)) (hqi:qi=(q:Int))  (h1:p<18446744073709551616) (h2:q<18446744073709551616):Hy P n w0 mu l hp ⟨dd,.binOp .xor t x y u,ty,pos,af,gg⟩ (.int .u64 ((p ^^^ q:Nat):Int)):=
 bz fun ac w hk _=>by
  subst hpi hqi
  have:=u64_xor_nat p q h1 h2
  simp only [execOp,hk.ev hx,hk.ev hy]
  simp [eqGuard_xor,binOp_xor,intBits_xor,this]
end
section
variable {P : Program} {n : Nat} {w0 : World} {mu : List Nat} {l : Fm} {hp : Hp} {Q : Exit → Fm → Hp → Prop} {all : Array Oper} {rest : List Oper} {dst : Option Nat} {op : Op} {ty : TypeId} {pos : String} {af : Array Edge}
theorem xK {j dj:Nat} {want b:Bool} (h:Ops P n w0 mu all (⟨dst,op,ty,pos,af,none⟩::rest) l hp Q) (hw:jd b want=true) (hj:(all[j]?).bind (·.dst)=some dj:=by rfl) (hb:look l dj=some (.bool b):=by rfl) (hdj:Nat.blt dj n=true:=by rfl):Ops P n w0 mu all (⟨dst,op,ty,pos,af,some (j,want)⟩::rest) l hp Q:=by
 intro a w hk hG
 have h1:=h a w hk hG
 have h2:=gV (o:=⟨dst,op,ty,pos,af,some (j,want)⟩) (c0:=true) hk rfl hj hb hdj
 rw [hw] at h2
 replace h2:Region.wanted (⟨dst,op,ty,pos,af,some (j,want)⟩:Oper) (yielded all a.tmps)=true:=h2
 unfold wpList at h1 ⊢
 rw [if_pos h2]
 rw [if_pos (by simp [Region.wanted])] at h1
 exact h1
end
theorem aB.takeN {w:World} {α:Type} {f:α→List Value} {xs:List α} {p:Option Addr} {n cap sz k:Nat} (h:aB w (.slice p n cap) sz (xs.map f)) (hk:k≤xs.length):aB w (.slice p k cap) sz ((xs.take k).map f):=by
 obtain ⟨⟨q,c,e,hne⟩,hle⟩:=h
 injection e with e1 e2 e3
 subst e1 e3
 have hl:((xs.take k).map f).length=k:=by rw [List.length_map,List.length_take];omega
 refine ⟨⟨_,_,by rw [hl],fun hx=>?_⟩,by rw [hl];rw [List.length_map] at hle;omega⟩
 obtain ⟨b,off,rfl,hr⟩:=hne (by intro e;apply hx;rw [List.map_eq_nil_iff] at e ⊢;rw [e];simp)
 refine ⟨b,off,rfl,fun i c hi=>hr i c ?_⟩
 rw [List.map_take,List.getElem?_take] at hi
 split at hi
 ·exact hi
 ·cases hi
attribute [local irreducible] Hy St Ops DH gq iK iD fQ DS fB
end
theorem iy {n:Nat} {w0:World} {mu:List Nat} {l:Fm} {hp:Hp} {all:Array Oper} {iv:Fm} {i d:Nat} {ds:List (Nat × Nat)} {D:List Nat} {Y:Fm→Prop} {ty:TypeId} {pos:String} {af:Array Edge} {x:Operand} {v:Value} (h:fQ Tryz.prog n w0 mu all ds l hp Y D ((i,v)::iv)) (ho:all[i]?=some ⟨some d,.assign x,ty,pos,af,none⟩:=by rfl) (hx:ev (aA ds iv af.toList++l) x=some v:=by rfl):fQ Tryz.prog n w0 mu all ds l hp Y (i::D) iv:=FY ho (OV hx) h
section
attribute [local irreducible] Hy St Ops DH gq
structure bf where
 kind:Int
 jh:Int
 jW:Int
 all:Bool
 page:Int
 level:Int
 frame:Int
 mid:Int
 r:Bool
 w:Bool
 x:Bool
 af:Bool
 ng:Bool
 soft:Int
deriving DecidableEq
instance : Inhabited bf := ⟨⟨0, 0, 0, false, 0, 0, 0, 0, false, false, false, false, false, 0⟩⟩
abbrev bG (e:bf):List Value:=[.int .i64 e.kind,.int .i64 e.jh,.int .i64 e.jW,.bool e.all,.int .i64 e.page,.int .i64 e.level,.int .i64 e.frame,.int .i64 e.mid,.bool e.r,.bool e.w,.bool e.x,.bool e.af,.bool e.ng,.int .i64 e.soft]
structure dh where
 kind:Int
 jh:Int
 jW:Int
 page:Int
deriving DecidableEq
instance : Inhabited dh := ⟨⟨0, 0, 0, 0⟩⟩
abbrev dG (i:dh):List Value:=[.int .i64 i.kind,.int .i64 i.jh,.int .i64 i.jW,.int .i64 i.page]
def bf.nums (e:bf):Bool:=PtD.bV e.jh 0 15 && PtD.bV e.jW 0 15 && PtD.bV e.page 0 4095 && PtD.bV e.frame 0 4095 && PtD.bV e.mid 0 4095 && decide (e.soft=0)
def bf.bare (e:bf):Bool:=!e.r && !e.w && !e.x && !e.af && !e.ng && decide (e.soft=0)
def kH (level page:Nat):Nat:=page - page % aO level
def bf.may (e:bf):Bool:=e.nums &&
 bif decide (e.kind=1) then decide (e.level=0)
 else bif decide (e.kind=2) then decide (e.jW=0) && e.all && decide (e.level=0) && decide (e.mid=0) && !e.ng
 else bif decide (e.kind=3) then PtD.bV e.level 1 3 && decide (kH (e.level.toNat - 1) e.page.toNat=e.page.toNat) && decide (e.mid=0) && e.bare
 else false
def dh.may (i:dh):Bool:=PtD.bV i.kind 1 6 && PtD.bV i.jh 0 15 && PtD.bV i.jW 0 15 && PtD.bV i.page 0 4095
theorem J9 (p:Int) (w:World):Fn Tryz.prog 149 [.int .i64 p].toArray w [] (fun u _=>u=.bool (PtD.bV p 0 15)):=by
 refine enter Tryz.func149 ?_
 refine run ?_
 refine ax (fun wc hG=>uw p 15 wc) ?_
 refine run ?_
 exact fin1 rfl
theorem VE (level:Nat) (h:level<4) (page:Nat) (hp:page≤4095) (w:World):Fn Tryz.prog 177 [.int .i64 (level:Int),.int .i64 (page:Int)].toArray w [] (fun u _=>u=.int .i64 (kH level page:Int)):=by
 have h9:=ja h
 refine enter Tryz.func177 ?_
 refine run ?_
 refine ax (fun wc hG=>qA level h wc) ?_
 refine fA au2 (iG rfl rfl page (aO level) au2 au2 at7) ?_
 refine run ?_
 refine fin1 ?_
 have hmod:=Nat.mod_le page (aO level)
 rw [show ((page:Int) - ((page % aO level:Nat):Int))=((kH level page:Nat):Int) by unfold kH;omega,wrap_in at7 (by unfold kH;omega)]
theorem Eo (level:Nat) (h0:1≤level) (h:level<4) (page:Nat) (hp:page≤4095) (w:World):Fn Tryz.prog 150 [.int .i64 (level:Int),.int .i64 (page:Int)].toArray w [] (fun u _=>u=.int .i64 (kH (level - 1) page:Int)):=by
 refine enter Tryz.func150 ?_
 refine run ?_
 rw [show (level:Int) - 1=((level - 1:Nat):Int) by omega]
 refine ax (fun wc hG=>VE (level - 1) at7 page hp wc) ?_
 refine run ?_
 exact fin1 rfl
theorem TG (e:bf) (w:World):Fn Tryz.prog 121 [.agg (bG e).toArray].toArray w [] (fun u _=>u=.bool e.may):=by
 refine enter Tryz.func121 ?_
 refine run ?_
 intro B
 refine az ?_
 refine ax (fun wc hG=>J9 e.jh wc) ?_
 refine az ?_
 refine aZ (fun _ wc hG=>J9 e.jW wc) ?_
 refine az ?_
 refine aZ (fun _ wc hG=>rE e.page wc) ?_
 refine az ?_
 refine aZ (fun _ wc hG=>rE e.frame wc) ?_
 refine az ?_
 refine aZ (fun _ wc hG=>rE e.mid wc) ?_
 refine az ?_
 have hnn:(!PtD.bV e.jh 0 15 || !PtD.bV e.jW 0 15 || !PtD.bV e.page 0 4095 || !PtD.bV e.frame 0 4095 || !PtD.bV e.mid 0 4095 || !decide (e.soft=0))=!e.nums:=by
  unfold bf.nums
  simp only [Bool.not_and]
 refine aj _ rfl (fun hn=>?_) (fun hn=>?_)
 ·refine run ?_
  refine fin1 ?_
  rw [hnn] at hn
  have hn':e.nums=false:=by simpa using hn
  simp [bf.may,hn']
 ·rw [hnn] at hn
  have hn':e.nums=true:=by simpa using hn
  clear hnn
  have hb:=hn'
  simp only [bf.nums,Bool.and_eq_true,decide_eq_true_eq] at hb
  have hpz:=oC hb.1.1.1.2
  refine run ?_
  refine aj _ rfl (fun hk=>?_) (fun hk=>?_)
  ·refine run ?_
   refine fin1 ?_
   simp [bf.may,hn',hk]
  refine run ?_
  refine aj _ rfl (fun hk2=>?_) (fun hk2=>?_)
  ·refine az ?_
   refine fin1 ?_
   simp [bf.may,hn',hk,hk2]
  refine run ?_
  refine aj _ rfl (fun hk3=>?_) (fun hk3=>?_)
  ·refine az ?_
   refine iT 29 ?_
   refine iR ?_
   refine kQ (b:=decide (1≤e.level) && decide (e.level≤3)) (want:=true) (v:=.int .i64 (kH (e.level.toNat - 1) e.page.toNat:Int)) (fun hg wc hG=>by
    simp [jd] at hg
    have h5:=Eo e.level.toNat at7 at7 e.page.toNat hpz.2 wc
    rw [hpz.1,show ((e.level.toNat:Nat):Int)=e.level by omega] at h5
    exact h5) ?_
   refine iR ?_
   refine run ?_
   refine fin1 ?_
   have hz:decide (((kH (e.level.toNat - 1) e.page.toNat:Nat):Int)=e.page)=decide (kH (e.level.toNat - 1) e.page.toNat=e.page.toNat):=by
    rw [Bool.eq_iff_iff,decide_eq_true_eq,decide_eq_true_eq]
    have:=hpz.1
    omega
   rw [hz]
   simp only [bf.may,hn',hk3,show decide (e.kind=1)=false by simpa using hk,show decide (e.kind=2)=false by simpa using hk2,cond_false,cond_true,Bool.true_and,PtD.bV,bf.bare,bD,mY]
   cases e.r<;>cases e.w<;>cases e.x<;>cases e.af<;>cases e.ng<;>simp
  ·refine run ?_
   refine fin1 ?_
   simp [bf.may,hn',hk,hk2,hk3]
theorem TI (i:dh) (w:World):Fn Tryz.prog 123 [.agg (dG i).toArray].toArray w [] (fun u _=>u=.bool i.may):=by
 refine enter Tryz.func123 ?_
 refine run ?_
 intro B
 refine az ?_
 refine aZ (fun _ wc hG=>J9 i.jh wc) ?_
 refine az ?_
 refine aZ (fun _ wc hG=>J9 i.jW wc) ?_
 refine az ?_
 refine aZ (fun _ wc hG=>rE i.page wc) ?_
 refine az ?_
 refine fin1 ?_
 simp [dh.may,PtD.bV,Bool.and_assoc]
end
theorem TJ (a b:bf):bD (bG a) (bG b)=decide (a=b):=by
 obtain ⟨a1,a2,a3,a4,a5,a6,a7,a8,a9,a10,a11,a12,YZ,a14⟩:=a
 obtain ⟨b1,b2,b3,b4,b5,b6,b7,b8,b9,b10,b11,b12,b13,b14⟩:=b
 rw [Bool.eq_iff_iff,decide_eq_true_eq]
 simp [bD,mY]
theorem ac8 (a b:dh):bD (dG a) (dG b)=decide (a=b):=by
 obtain ⟨a1,a2,a3,a4⟩:=a
 obtain ⟨b1,b2,b3,b4⟩:=b
 rw [Bool.eq_iff_iff,decide_eq_true_eq]
 simp [bD,mY]
def xM (es:List bf) (k:Nat):Bool:=(es.getD k default).may && !(es.take k).any fun t=>decide (t=es.getD k default)
def bJ (es:List bf) (ds:List dh):Bool:=((List.range es.length).all fun k=>xM es k) && ds.all dh.may && decide (es.length≤8) && decide (ds.length≤8)
theorem Gy {α:Type} [Inhabited α] [DecidableEq α] (l:List α) (k:Nat) (hk:k<l.length):decide (fJ (fun t=>decide (t=l.getD k default)) l=(k:Int))=!(l.take k).any (fun t=>decide (t=l.getD k default)):=by
 cases h:(l.take k).any (fun t=>decide (t=l.getD k default)) with
 | false=>
  rw [iL hk au3 fun j hj=>?_]
  ·simp
  ·rw [List.any_eq_false] at h
   have h1:=h (l.getD j default) (by
    rw [List.mem_take_iff_getElem]
    exact ⟨j,by omega,by simp [show j<l.length by omega]⟩)
   simpa using h1
 | true=>
  obtain ⟨x,hx,hxe⟩:=List.any_eq_true.1 h
  obtain ⟨j,hj,rfl⟩:=List.mem_take_iff_getElem.1 hx
  have hj1:j<l.length:=by omega
  have hje:decide (l.getD j default=l.getD k default)=true:=by
   rw [List.getD_eq_getElem?_getD,List.getElem?_eq_getElem hj1];exact hxe
  obtain ⟨j0,h0,h1,h2⟩:=oD (fun t=>decide (t=l.getD k default)) l j hje
  rw [iL (k:=j0) at7 h1 h2]
  simp;omega
theorem xN {p:Nat→Bool} {n:Nat} (h:∀ j,j<n→p j=true):(List.range n).all p=true:=List.all_eq_true.2 fun j hj=>h j (List.mem_range.1 hj)
theorem TK {p:Nat→Bool} {n k:Nat} (hk:k<n) (h:p k=false):(List.range n).all p=false:=by
 cases hc:(List.range n).all p with
 | false=>rfl
 | true=>rw [List.all_eq_true.1 hc k (List.mem_range.2 hk)] at h;cases h
theorem Ko {es:List bf} {ds:List dh} {k:Nat} (hk:k<es.length) (h:xM es k=false):bJ es ds=false:=by
 unfold bJ
 rw [TK hk h];rfl
theorem TL {es:List bf} {ds:List dh} {k:Nat} (hk:k<ds.length) (h:(ds.getD k default).may=false):bJ es ds=false:=by
 have:ds.all dh.may=false:=by
  cases hc:ds.all dh.may with
  | false=>rfl
  | true=>
   rw [List.getD_eq_getElem?_getD,List.getElem?_eq_getElem hk] at h
   have:=List.all_eq_true.1 hc _ (List.getElem_mem hk)
   rw [Option.getD_some] at h
   rw [this] at h;cases h
 unfold bJ
 rw [this];simp
theorem Gz {α:Type} [Inhabited α] {l:List α} {p:α→Bool} (h:∀ j,j<l.length→p (l.getD j default)=true):l.all p=true:=by
 refine List.all_eq_true.2 fun x hx=>?_
 obtain ⟨j,hj,rfl⟩:=List.getElem_of_mem hx
 have:=h j hj
 rwa [List.getD_eq_getElem?_getD,List.getElem?_eq_getElem hj] at this
section
attribute [local irreducible] Hy St Ops DH gq
theorem PX {w:World} (a:bf) (xs:List bf) (v:Value) (h:aB w v 14 (xs.map bG)):
  Fn Tryz.prog 122 [v,.agg (bG a).toArray].toArray w [] (fun u _=>u=.int .i64 (fJ (fun t=>decide (t=a)) xs)):=by
 obtain ⟨q,cap,rfl,hne,hle⟩:=h.opened
 refine enter Tryz.func122 ?_
 refine run ?_
 intro B
 refine run ?_
 refine cu (σ:=Nat) (fun k=>[(5,.int .i64 (k:Int))]) (fun _=>[⟨B,(bG a).toArray,114⟩]) (fun k=>k≤xs.length∧∀ j,j<k→decide (xs.getD j default=a)=false) (fun k=>xs.length - k) 0 ⟨Nat.zero_le _,fun j hj=>absurd hj at7⟩ ?_
 rintro k m rfl ⟨hk,hno⟩
 refine run ?_
 refine aj _ rfl (fun hc=>?_) (fun hc=>?_)
 ·have hlt:k<xs.length:=by simpa using hc
  obtain ⟨b,o,rfl⟩:=hne au4
  have hr:=h.row hlt
  refine run ?_
  refine eG ?_
  refine bW ?_
  refine run ?_
  rw [TJ]
  refine aj _ rfl (fun hp=>?_) (fun hp=>?_)
  ·refine run ?_
   refine fin1 ?_
   rw [iL hlt hp hno]
  ·refine run ?_
   refine bI (k + 1) ⟨hlt,fun j hj=>?_⟩
   rcases Nat.lt_succ_iff_lt_or_eq.1 hj with hj | rfl
   ·exact hno j hj
   ·exact hp
 ·have hge:k=xs.length:=by simp at hc;omega
  subst hge
  refine run ?_
  refine fin1 ?_
  rw [fK hno]
theorem WY {w:World} (es:List bf) (ds:List dh) (v u:Value) (h:aB w v 14 (es.map bG)) (hd:aB w u 4 (ds.map dG)):
  Fn Tryz.prog 80 [.agg #[v,u]].toArray w [] (fun r _=>r=.bool (bJ es ds)):=by
 obtain ⟨q,cap,rfl,hne,hle⟩:=h.opened
 obtain ⟨q2,cap2,rfl,hne2,hle2⟩:=hd.opened
 refine enter Tryz.func80 ?_
 refine run ?_
 intro B
 refine run ?_
 refine cu (σ:=Nat) (fun k=>[(3,.int .i64 (k:Int))]) (fun _=>[⟨B,#[.slice q es.length cap,.slice q2 ds.length cap2],77⟩]) (fun k=>k≤es.length∧∀ j,j<k→xM es j=true) (fun k=>es.length - k) 0 ⟨Nat.zero_le _,fun j hj=>absurd hj at7⟩ ?_
 rintro k m rfl ⟨hk,hno⟩
 refine run ?_
 refine aj _ rfl (fun hc=>?_) (fun hc=>?_)
 ·have hlt:k<es.length:=by simpa using hc
  obtain ⟨b,o,rfl⟩:=hne au4
  have hr:=h.row hlt
  refine run ?_
  refine eG ?_
  refine bW ?_
  refine jU (fun wc hG=>TG (es.getD k default) wc) ?_
  refine iR ?_
  refine kQ (fun hg wc hG=>PX (es.getD k default) es _ (h.good hG)) ?_
  refine iR ?_
  refine run ?_
  have he:(!(es.getD k default).may || !decide (fJ (fun t=>decide (t=es.getD k default)) es=(k:Int)))=!xM es k:=by
   rw [Gy es k hlt]
   unfold xM
   rw [Bool.not_and]
  rw [he]
  refine aj _ rfl (fun hp=>?_) (fun hp=>?_)
  ·refine run ?_
   refine fin1 ?_
   rw [Ko hlt (by simpa using hp)]
  ·refine run ?_
   refine bI (k + 1) ⟨hlt,fun j hj=>?_⟩
   rcases Nat.lt_succ_iff_lt_or_eq.1 hj with hj | rfl
   ·exact hno j hj
   ·simpa using hp
 ·have hge:k=es.length:=by simp at hc;omega
  subst hge
  refine run ?_
  refine cu (σ:=Nat) (fun k=>[(4,.int .i64 (k:Int))]) (fun _=>[⟨B,#[.slice q es.length cap,.slice q2 ds.length cap2],77⟩]) (fun k=>k≤ds.length∧∀ j,j<k→(ds.getD j default).may=true) (fun k=>ds.length - k) 0 ⟨Nat.zero_le _,fun j hj=>absurd hj at7⟩ ?_
  rintro k m rfl ⟨hk,Y0⟩
  refine run ?_
  refine aj _ rfl (fun hc=>?_) (fun hc=>?_)
  ·have hlt:k<ds.length:=by simpa using hc
   obtain ⟨b,o,rfl⟩:=hne2 au4
   have hr:=hd.row hlt
   refine run ?_
   refine ax (fun wc hG=>TI (ds.getD k default) wc) ?_
   refine run ?_
   refine aj _ rfl (fun hp=>?_) (fun hp=>?_)
   ·refine run ?_
    refine fin1 ?_
    rw [TL hlt (by simpa using hp)]
   ·refine run ?_
    refine bI (k + 1) ⟨hlt,fun j hj=>?_⟩
    rcases Nat.lt_succ_iff_lt_or_eq.1 hj with hj | rfl
    ·exact Y0 j hj
    ·simpa using hp
  ·have hge:k=ds.length:=by simp at hc;omega
   subst hge
   refine az ?_
   refine fin1 ?_
   unfold bJ
   rw [xN hno,Gz Y0,show decide ((es.length:Int)≤8)=decide (es.length≤8) by (rw [Bool.eq_iff_iff,decide_eq_true_eq,decide_eq_true_eq];omega),show decide ((ds.length:Int)≤8)=decide (ds.length≤8) by (rw [Bool.eq_iff_iff,decide_eq_true_eq,decide_eq_true_eq];omega)]
   rfl
structure dR where
 es:List bf
 ds:List dh
 ep:Option Addr
 ec:Nat
 dp:Option Addr
 dc:Nat
instance : Inhabited dR := ⟨⟨[], [], none, 0, none, 0⟩⟩
abbrev dR.ev (t:dR):Value:=.slice t.ep t.es.length t.ec
abbrev dR.dv (t:dR):Value:=.slice t.dp t.ds.length t.dc
abbrev lq (t:dR):List Value:=[t.ev,t.dv]
structure qB (w:World) (v:Value) (ts:List dR):Prop where
 rows:aB w v 2 (ts.map lq)
 en:∀ t∈ts,aB w t.ev 14 (t.es.map bG)
 iv:∀ t∈ts,aB w t.dv 4 (t.ds.map dG)
theorem qB.good {w w':World} {hp:Hp} {v:Value} {ts:List dR} (h:qB w v ts) (hG:Good w [] hp w'):qB w' v ts:=⟨h.rows.good hG,fun t ht=>(h.en t ht).good hG,fun t ht=>(h.iv t ht).good hG⟩
theorem getD_mem {α:Type} [Inhabited α] {l:List α} {k:Nat} (h:k<l.length):l.getD k default∈l:=by
 rw [List.getD_eq_getElem?_getD,List.getElem?_eq_getElem h];exact List.getElem_mem h
theorem all_false {α:Type} [Inhabited α] {l:List α} {p:α→Bool} {k:Nat} (hk:k<l.length) (h:p (l.getD k default)=false):l.all p=false:=by
 cases hc:l.all p with
 | false=>rfl
 | true=>rw [List.all_eq_true.1 hc _ (getD_mem hk)] at h;cases h
theorem TM {w:World} (ts:List dR) (v:Value) (h:qB w v ts):Fn Tryz.prog 43 [v].toArray w [] (fun r _=>r=.bool (ts.all fun t=>bJ t.es t.ds)):=by
 obtain ⟨q,cap,rfl,hne,hle⟩:=h.rows.opened
 refine enter Tryz.func43 ?_
 refine run ?_
 refine cu (σ:=Nat) (fun k=>[(3,.int .i64 (k:Int))]) (fun _=>[]) (fun k=>k≤ts.length∧∀ j,j<k→bJ (ts.getD j default).es (ts.getD j default).ds=true) (fun k=>ts.length - k) 0 ⟨Nat.zero_le _,fun j hj=>absurd hj at7⟩ ?_
 rintro k m rfl ⟨hk,hno⟩
 refine run ?_
 refine aj _ rfl (fun hc=>?_) (fun hc=>?_)
 ·have hlt:k<ts.length:=by simpa using hc
  obtain ⟨b,o,rfl⟩:=hne au4
  have hr:=h.rows.row hlt
  have hen:=h.en _ (getD_mem hlt)
  have hiv:=h.iv _ (getD_mem hlt)
  generalize ht:ts.getD k default=t at hr hen hiv
  refine run ?_
  refine ax (fun wc hG=>WY t.es t.ds _ _ (hen.good hG) (hiv.good hG)) ?_
  refine run ?_
  refine aj _ rfl (fun hp=>?_) (fun hp=>?_)
  ·refine run ?_
   refine fin1 ?_
   rw [all_false hlt (by rw [ht];simpa using hp)]
  ·refine run ?_
   refine bI (k + 1) ⟨hlt,fun j hj=>?_⟩
   rcases Nat.lt_succ_iff_lt_or_eq.1 hj with hj | rfl
   ·exact hno j hj
   ·rw [ht];simpa using hp
 ·have hge:k=ts.length:=by simp at hc;omega
  subst hge
  refine run ?_
  refine fin1 ?_
  rw [Gz hno]
end
structure dB where
 x0:Nat
 x1:Nat
 x2:Nat
 x3:Nat
 x4:Nat
 x5:Nat
 x6:Nat
 x7:Nat
 pc:Nat
 jM:Nat
 eU:Nat
 oQ:Nat
 zM:Nat
 sJ:Nat
 far:Nat
deriving DecidableEq
def kJ:dB:=⟨0,0,0,0,0,0,0,0,0,0,0,0,0,0,0⟩
instance : Inhabited dB := ⟨kJ⟩
abbrev di (r:dB):List Value:=[.int .u64 (r.x0:Int),.int .u64 (r.x1:Int),.int .u64 (r.x2:Int),.int .u64 (r.x3:Int),.int .u64 (r.x4:Int),.int .u64 (r.x5:Int),.int .u64 (r.x6:Int),.int .u64 (r.x7:Int),.int .u64 (r.pc:Int),.int .u64 (r.jM:Int),.int .u64 (r.eU:Int),.int .u64 (r.oQ:Int),.int .u64 (r.zM:Int),.int .u64 (r.sJ:Int),.int .u64 (r.far:Int)]
theorem ac9 (a b:dB):bD (di a) (di b)=decide (a=b):=by
 obtain ⟨a0,a1,a2,a3,a4,a5,a6,a7,a8,a9,a10,a11,a12,YZ,a14⟩:=a
 obtain ⟨b0,b1,b2,b3,b4,b5,b6,b7,b8,b9,b10,b11,b12,b13,b14⟩:=b
 rw [Bool.eq_iff_iff,decide_eq_true_eq]
 simp [bD,mY,Int.ofNat_inj]
structure VcD where
 r:dB
 on:Int
deriving DecidableEq
instance : Inhabited VcD := ⟨⟨kJ, 0⟩⟩
abbrev vcV (c:VcD):List Value:=[.int .u64 (c.r.x0:Int),.int .u64 (c.r.x1:Int),.int .u64 (c.r.x2:Int),.int .u64 (c.r.x3:Int),.int .u64 (c.r.x4:Int),.int .u64 (c.r.x5:Int),.int .u64 (c.r.x6:Int),.int .u64 (c.r.x7:Int),.int .u64 (c.r.pc:Int),.int .u64 (c.r.jM:Int),.int .u64 (c.r.eU:Int),.int .u64 (c.r.oQ:Int),.int .u64 (c.r.zM:Int),.int .u64 (c.r.sJ:Int),.int .u64 (c.r.far:Int),.int .i64 c.on]
structure WZ where
 r:dB
 vm:Int
 vc:Int
 t:dR
instance : Inhabited WZ := ⟨⟨kJ, 0, 0, default⟩⟩
abbrev cpV (c:WZ):List Value:=[.int .u64 (c.r.x0:Int),.int .u64 (c.r.x1:Int),.int .u64 (c.r.x2:Int),.int .u64 (c.r.x3:Int),.int .u64 (c.r.x4:Int),.int .u64 (c.r.x5:Int),.int .u64 (c.r.x6:Int),.int .u64 (c.r.x7:Int),.int .u64 (c.r.pc:Int),.int .u64 (c.r.jM:Int),.int .u64 (c.r.eU:Int),.int .u64 (c.r.oQ:Int),.int .u64 (c.r.zM:Int),.int .u64 (c.r.sJ:Int),.int .u64 (c.r.far:Int),.int .i64 c.vm,.int .i64 c.vc,c.t.ev,c.t.dv]
structure Mc (w:World) (v:Value) (cs:List WZ):Prop where
 rows:aB w v 19 (cs.map cpV)
 en:∀ c∈cs,aB w c.t.ev 14 (c.t.es.map bG)
 iv:∀ c∈cs,aB w c.t.dv 4 (c.t.ds.map dG)
theorem Mc.good {w w':World} {hp:Hp} {v:Value} {cs:List WZ} (h:Mc w v cs) (hG:Good w [] hp w'):Mc w' v cs:=⟨h.rows.good hG,fun t ht=>(h.en t ht).good hG,fun t ht=>(h.iv t ht).good hG⟩
structure Md where
 live:Bool
 dying:Bool
 jh:Int
 fs:List Int
 fp:Option Addr
 fc:Nat
 fr:List Int
 rp:Option Addr
 rc:Nat
 vs:List VcD
 vp:Option Addr
 vk:Nat
instance : Inhabited Md := ⟨⟨false, false, 0, [], none, 0, [], none, 0, [], none, 0⟩⟩
abbrev Md.fv (m:Md):Value:=.slice m.fp m.fs.length m.fc
abbrev Md.rv (m:Md):Value:=.slice m.rp m.fr.length m.rc
abbrev Md.vv (m:Md):Value:=.slice m.vp m.vs.length m.vk
abbrev vmV (m:Md):List Value:=[.bool m.live,.bool m.dying,.int .i64 m.jh,m.fv,m.rv,m.vv]
structure Me (w:World) (v:Value) (ms:List Md):Prop where
 rows:aB w v 6 (ms.map vmV)
 fs:∀ m∈ms,aB w m.fv 1 (m.fs.map dN)
 fr:∀ m∈ms,aB w m.rv 1 (m.fr.map dN)
 vs:∀ m∈ms,aB w m.vv 16 (m.vs.map vcV)
theorem Me.good {w w':World} {hp:Hp} {v:Value} {cs:List Md} (h:Me w v cs) (hG:Good w [] hp w'):Me w' v cs:=⟨h.rows.good hG,fun t ht=>(h.fs t ht).good hG,fun t ht=>(h.fr t ht).good hG,fun t ht=>(h.vs t ht).good hG⟩
structure W9 (w:World) (wv cv vv rv:Value) (ws:List Nat) (cs:List WZ) (vs:List Md) (rs:List dB):Prop where
 uX:uy ws
 ws:aB w wv 1 (ws.map uV)
 cs:Mc w cv cs
 vs:Me w vv vs
 rs:aB w rv 15 (rs.map di)
theorem W9.good {w w':World} {hp:Hp} {wv cv vv rv:Value} {ws:List Nat} {cs:List WZ} {vs:List Md} {rs:List dB} (h:W9 w wv cv vv rv ws cs vs rs) (hG:Good w [] hp w'):W9 w' wv cv vv rv ws cs vs rs:=⟨h.uX,h.ws.good hG,h.cs.good hG,h.vs.good hG,h.rs.good hG⟩
def Xa:WZ:=⟨kJ,0,0,⟨[],[],none,0,none,0⟩⟩
def vm0:Md:=⟨false,false,0,[],none,0,[],none,0,[],none,0⟩
theorem iq (w:World) (sz:Nat):aB w (.slice none 0 0) sz []:=⟨⟨none,0,rfl,fun h=>absurd rfl h⟩,by simp⟩
theorem Mc.zero {w:World} {b t C:Nat} (h:w.heap[b]?=some (.cells ((List.replicate C (cpV Xa)).flatten).toArray t (0,0))) (hC:C≤1000):Mc w (.slice (some ⟨b,0,none⟩) C C) (List.replicate C Xa):=by
 refine ⟨?_,fun c hc=>?_,fun c hc=>?_⟩
 ·have:=fZ (w:=w) (b:=b) (t:=t) (cap:=C) (sz:=19) (xs:=List.replicate C (cpV Xa)) h (by intro c hc;rw [List.eq_of_mem_replicate hc];rfl) au'
  simpa using this
 ·rw [List.eq_of_mem_replicate hc];exact iq _ _
 ·rw [List.eq_of_mem_replicate hc];exact iq _ _
theorem Me.zero {w:World} {b t C:Nat} (h:w.heap[b]?=some (.cells ((List.replicate C (vmV vm0)).flatten).toArray t (0,0))) (hC:C≤1000):Me w (.slice (some ⟨b,0,none⟩) C C) (List.replicate C vm0):=by
 refine ⟨?_,fun c hc=>?_,fun c hc=>?_,fun c hc=>?_⟩
 ·have:=fZ (w:=w) (b:=b) (t:=t) (cap:=C) (sz:=6) (xs:=List.replicate C (vmV vm0)) h (by intro c hc;rw [List.eq_of_mem_replicate hc];rfl) au'
  simpa using this
 ·rw [List.eq_of_mem_replicate hc];exact iq _ _
 ·rw [List.eq_of_mem_replicate hc];exact iq _ _
 ·rw [List.eq_of_mem_replicate hc];exact iq _ _
theorem MB {α β:Type} [Inhabited α] {f:α→β} {xs ys:List α} (h:xs.map f=ys.map f) {k:Nat} (hk:k<xs.length):f (xs.getD k default)=f (ys.getD k default):=by
 have hl:xs.length=ys.length:=by simpa using congrArg List.length h
 have h5:=congrArg (fun l=>l[k]?) h
 simp only [List.getElem?_map,List.getElem?_eq_getElem hk,List.getElem?_eq_getElem (show k<ys.length by omega),Option.map_some,Option.some.injEq] at h5
 simp only [List.getD_eq_getElem?_getD,List.getElem?_eq_getElem hk,List.getElem?_eq_getElem (show k<ys.length by omega),Option.getD_some]
 exact h5
section
attribute [local irreducible] Hy St Ops DH gq iK iD fQ DS fB
theorem Jc {w:World} (xs:List dh) (u v:Value) (hu:aB w u 4 (xs.map dG)) (hv:aB w v 4 (xs.map dG)):Fn Tryz.prog 93 [u,v].toArray w [] (fun r _=>r=.bool true):=by
 obtain ⟨q,cap,rfl,hne,hle⟩:=hu.opened
 obtain ⟨q2,cap2,rfl,hne2,_⟩:=hv.opened
 refine enter Tryz.func93 ?_
 refine run ?_
 refine aj _ rfl (fun hc=>absurd hc au3) (fun hc=>?_)
 refine run ?_
 refine cu (σ:=Nat) (fun k=>[(5,.int .i64 (k:Int))]) (fun _=>[]) (fun k=>k≤xs.length) (fun k=>xs.length - k) 0 (Nat.zero_le _) ?_
 rintro k m hm hk
 refine run ?_
 refine aj _ rfl (fun hc=>?_) (fun hc=>?_)
 ·have hlt:k<xs.length:=by simp at hc;omega
  obtain ⟨b,o,rfl⟩:=hne au4
  obtain ⟨b2,o2,rfl⟩:=hne2 au4
  have h1:=hu.row hlt
  have h2:=hv.row hlt
  refine run ?_
  refine eG ?_
  refine bW ?_
  refine run ?_
  rw [ac8]
  refine aj _ rfl (fun hp=>?_) (fun hp=>?_)
  ·simp at hp
  ·refine run ?_
   exact bI (k + 1) hlt
 ·refine run ?_
  exact fin1 rfl
theorem GG {w:World} (xs:List bf) (u v:Value) (hu:aB w u 14 (xs.map bG)) (hv:aB w v 14 (xs.map bG)):Fn Tryz.prog 92 [u,v].toArray w [] (fun r _=>r=.bool true):=by
 obtain ⟨q,cap,rfl,hne,hle⟩:=hu.opened
 obtain ⟨q2,cap2,rfl,hne2,_⟩:=hv.opened
 refine enter Tryz.func92 ?_
 refine run ?_
 refine aj _ rfl (fun hc=>absurd hc au3) (fun hc=>?_)
 refine run ?_
 refine cu (σ:=Nat) (fun k=>[(5,.int .i64 (k:Int))]) (fun _=>[]) (fun k=>k≤xs.length) (fun k=>xs.length - k) 0 (Nat.zero_le _) ?_
 rintro k m hm hk
 refine run ?_
 refine aj _ rfl (fun hc=>?_) (fun hc=>?_)
 ·have hlt:k<xs.length:=by simp at hc;omega
  obtain ⟨b,o,rfl⟩:=hne au4
  obtain ⟨b2,o2,rfl⟩:=hne2 au4
  have h1:=hu.row hlt
  have h2:=hv.row hlt
  refine run ?_
  refine eG ?_
  refine bW ?_
  refine run ?_
  rw [TJ]
  refine aj _ rfl (fun hp=>?_) (fun hp=>?_)
  ·simp at hp
  ·refine run ?_
   exact bI (k + 1) hlt
 ·refine run ?_
  exact fin1 rfl
theorem TN {w:World} (a b:dR) (he:a.es=b.es) (hd:a.ds=b.ds) (h1:aB w a.ev 14 (a.es.map bG)) (h2:aB w a.dv 4 (a.ds.map dG)) (h3:aB w b.ev 14 (b.es.map bG)) (h4:aB w b.dv 4 (b.ds.map dG)):Fn Tryz.prog 49 [.agg (lq a).toArray,.agg (lq b).toArray].toArray w [] (fun r _=>r=.bool true):=by
 obtain ⟨es,ds,ep,ec,dp,dc⟩:=a
 obtain ⟨es2,ds2,ep2,ec2,dp2,dc2⟩:=b
 dsimp only at he hd
 subst he hd
 refine enter Tryz.func49 ?_
 refine run ?_
 intro B C
 refine az ?_
 refine ax (fun wc hG=>GG es _ _ (h1.good hG) (h3.good hG)) ?_
 refine az ?_
 refine aZ (fun _ wc hG=>Jc ds _ _ (h2.good hG) (h4.good hG)) ?_
 refine az ?_
 exact fin1 rfl
end
section
theorem PY {P:Program} {n:Nat} {w0:World} {mu:List Nat} {all:Array Oper} {lf:Fm} {hp hp':Hp} {o:Oper} {v:Value} (h:o7 P n w0 mu all lf hp o v) (hp2:hp.Perm hp'):o7 P n w0 mu all lf hp' o v:=by
 have go:∀ {u:Value},Hy P n w0 mu lf hp o u→Hy P n w0 mu lf hp' o u:=fun hy a w hk hG K Q hK=>hy a w hk (hG.perm hp2) K Q fun w' hG'=>hK w' (hG'.perm hp2.symm)
 unfold o7 at h ⊢
 cases hg:o.guard with
 | none=>rw [hg] at h;exact go h
 | some jw=>
  obtain ⟨j,want⟩:=jw
  rw [hg] at h
  obtain ⟨dj,c0,b,u,h1,h2,h3,h4,h5⟩:=h
  exact ⟨dj,c0,b,u,h1,h2,h3,fun a b=>go (h4 a b),h5⟩
def EoW (P:Program) (n:Nat) (w0:World) (mu:List Nat) (all:Array Oper) (lf:Fm) (hi rest:Hp) (o:Oper) (R:RT):Prop:=
 (∀ a,Knows n lf a→Region.wanted o (yielded all a.tmps)=true)∧∀ a w hx,Knows n lf a→Good w0 mu (hx++(hi++rest)) w→∀ (K:Act→World→Prop) (Q:Exit→Act→World→Prop),(∀ v hn w',R v hn→Good w0 mu (hn++(hx++rest)) w'→K (a.put o.dst v) w')→o.wp P a w K Q
def hbW (i0:Nat) (hi rest:Hp) (listed:Array Bool):Hp:=bif listed.getD i0 false then rest else hi++rest
def xO (P:Program) (n:Nat) (w0:World) (mu:List Nat) (all:Array Oper) (ds:List (Nat × Nat)) (l:Fm) (i0:Nat) (hi rest:Hp) (iv:Fm) (X:List (Nat × RT)→Prop):List Nat→List (Nat × RT)→Prop
 | [],Rs=>X Rs
 | i::E,Rs=>∃ o R,all[i]?=some o∧((i ≠ i0→wF P n w0 mu all (aA ds iv o.after.toList++l) rest o R)∧(i=i0→EoW P n w0 mu all (aA ds iv o.after.toList++l) hi rest o R))∧(∃ v hn,R v hn)∧xO P n w0 mu all ds l i0 hi rest iv X E ((i,R)::Rs)
section
variable {P : Program} {n : Nat} {w0 : World} {mu : List Nat} {l : Fm} {hi rest : Hp} {i0 : Nat} {Q : Exit → Fm → Hp → Prop} {all : Array Oper} {kd : Nat → Kd} {val : Ch → Nat → Value} {k : Nat} {ds : List (Nat × Nat)}
theorem MC {iv:Fm} {X Y:List (Nat × RT)→Prop}:∀ (E:List Nat) (Rs:List (Nat × RT)) (Ib:∀ zF,zF.map (·.1)=E.reverse++Rs.map (·.1)→X zF→Y zF),xO P n w0 mu all ds l i0 hi rest iv X E Rs→xO P n w0 mu all ds l i0 hi rest iv Y E Rs:=by
 intro E
 induction E with
 | nil=>intro Rs Ib h;exact Ib Rs au3 h
 | cons i E ih=>
  rintro Rs Ib ⟨o,R,ho,hy,hn,h⟩
  exact ⟨o,R,ho,hy,hn,ih _ (fun zF e=>Ib zF (by rw [e];simp)) h⟩
theorem PZ {iv:Fm} {X:List (Nat × RT)→Prop}:∀ (E:List Nat) (Rs:List (Nat × RT)),E.Nodup→(∀ i∈E,lk Rs i=none)→xO P n w0 mu all ds l i0 hi rest iv X E Rs →
  (∀ i R,(i,R)∈Rs→lk Rs i=some R∧∃ o,all[i]?=some o∧((i ≠ i0→wF P n w0 mu all (aA ds iv o.after.toList++l) rest o R)∧(i=i0→EoW P n w0 mu all (aA ds iv o.after.toList++l) hi rest o R))∧∃ v hn,R v hn) →
  ∃ RE,X RE∧(∀ i,(∃ R,lk RE i=some R)↔i∈E∨∃ R,lk Rs i=some R)∧∀ i R,(i,R)∈RE→lk RE i=some R∧∃ o,all[i]?=some o∧((i ≠ i0→wF P n w0 mu all (aA ds iv o.after.toList++l) rest o R)∧(i=i0→EoW P n w0 mu all (aA ds iv o.after.toList++l) hi rest o R))∧∃ v hn,R v hn:=by
 intro E
 induction E with
 | nil=>intro Rs _ _ h hs;exact ⟨Rs,h,fun i=>by simp,hs⟩
 | cons i E ih=>
  rintro Rs hnd hno ⟨o,R,ho,hy,yB,h⟩ hs
  rw [List.nodup_cons] at hnd
  have hi:=hno i (List.mem_cons_self ..)
  obtain ⟨RE,hX,hk,hs2⟩:=ih ((i,R)::Rs) hnd.2 (fun j hj=>by rw [bK,if_neg ax2];exact hno j (List.mem_cons_of_mem _ hj)) h (fun j R' hj=>by
   rcases List.mem_cons.1 hj with hj | hj
   ·cases hj
    exact ⟨by rw [bK,if_pos rfl],o,ho,hy,yB⟩
   ·obtain ⟨h1,h2⟩:=hs j R' hj
    refine ⟨?_,h2⟩
    rw [bK]
    by_cases hij:i=j
    ·subst hij;rw [hi] at h1;cases h1
    ·rw [if_neg hij];exact h1)
  refine ⟨RE,hX,fun j=>?_,hs2⟩
  rw [hk,List.mem_cons,bK]
  by_cases hij:i=j
  ·subst hij;simp
  ·rw [if_neg hij];simp [Ne.symm hij]
theorem Jd {ds:List (Nat × Nat)} (hds:∀ k d,lk ds k=some d→aP all k=some d) {g:Nat} {Q':Exit→Act→World→Prop} (hk:k≤all.size) (hd:uT all k n=true) (hf:bg l (dstsOf all k)=true) (hback:lF all=true)
  (jC:i0<k) (P5:qI (kd i0)=true)
  (hS:∀ i o v,i<k→all[i]?=some o→kd i=.s v→(∀ c,val c i=v)∧∃ bu,(∀ j u,look bu j=some u→j<k∧∀ c,val c j=u)∧∀ hx,o7 P n w0 mu all (aA ds bu o.after.toList++l) (hx++(hi++rest)) o v)
  (ad5:∀ listed,HeadInv .any all k listed→listed.getD i0 false=true→∀ i v,i<k→kd i=.s v→listed.getD i false=true)
  (hE:∀ i o R,i<k→all[i]?=some o→kd i=.e R→(∀ c,val c i=(c i).1)∧∃ bu,(∀ j u,look bu j=some u→j<k∧∀ c,val c j=u)∧(i ≠ i0→wF P n w0 mu all (aA ds bu o.after.toList++l) rest o R)∧(i=i0→EoW P n w0 mu all (aA ds bu o.after.toList++l) hi rest o R))
  (hD:∀ c,Valid kd k c→∀ i o,i<k→all[i]?=some o→kd i=.d→∃ bu,(∀ j u,look bu j=some u→j<k∧val c j=u)∧yY P n w0 mu (aA ds bu o.after.toList++l) [] o (val c i))
  (htail:∀ f c listed,leftOf k listed=f→HeadInv .any all k listed→(∀ i,i<k→qI (kd i)=true→listed.getD i true=true)→∀ a w,sF n w0 mu all l rest kd val k c listed a w→wpAny P .any all Q' (f + g) listed a w)
  (jT:∀ listed,HeadInv .any all k listed→∀ i,i<k→qI (kd i)=true→listed.getD i true=false→∀ t,k≤t→t ∉ Region.ready .any all listed):
  ∀ f c listed a w,leftOf k listed=f→HeadInv .any all k listed→sF n w0 mu all l (hbW i0 hi rest listed) kd val k c listed a w→wpAny P .any all Q' (f + g) listed a w:=by
 intro f
 induction f with
 | zero=>
  intro c listed a w hlf inv hm
  have hall0:∀ i,i<k→listed.getD i true=true:=fun i hi=>by
   cases hc:listed.getD i true with
   | true=>rfl
   | false=>
   exfalso
   have:i∈(List.range k).filter fun i=>!listed.getD i true:=List.mem_filter.2 ⟨List.mem_range.2 hi,by simp only [hc,Bool.not_false]⟩
   have h2:=List.length_pos_of_mem this
   unfold leftOf at hlf
   omega
  have hl0:listed.getD i0 false=true:=by
   cases hc:listed.getD i0 false with
   | true=>rfl
   | false=>have h1:=hall0 i0 jC;rw [getD_in au6 hc] at h1;cases h1
  rw [hbW,hl0] at hm
  exact htail 0 c listed hlf inv (fun i hi _=>hall0 i hi) a w hm
 | succ f ih=>
  intro c listed a w hlf inv hm
  by_cases lJ:∀ i,i<k→qI (kd i)=true→listed.getD i true=true
  ·have hl0:listed.getD i0 false=true:=by
    cases hc:listed.getD i0 false with
    | true=>rfl
    | false=>have h1:=lJ i0 jC P5;rw [getD_in au6 hc] at h1;cases h1
   rw [hbW,hl0] at hm
   exact htail (f + 1) c listed hlf inv lJ a w hm
  obtain ⟨j0,Y3,ad6,hj0⟩:∃ i,i<k∧qI (kd i)=true∧listed.getD i true=false:=by
   refine Classical.byContradiction fun hno=>lJ fun i hi he=>?_
   cases hc:listed.getD i true with
   | true=>rfl
   | false=>exact absurd ⟨i,hi,he,hc⟩ hno
  rw [show f + 1 + g=(f + g) + 1 by omega]
  refine ⟨fun hnil=>?_,fun i VF=>?_⟩
  ·exfalso
   obtain ⟨i,⟨hik,hil⟩,hmin⟩:=exists_least (p:=fun i=>i<k∧listed.getD i true=false) ⟨j0,Y3,hj0⟩
   have hr:i∈Region.ready .any all listed:=by
    rw [mem_ready]
    have hs:i<all.size:=by omega
    refine ⟨hil,all[i],by simp [hs],fun e he hb=>?_⟩
    have hb2:=List.all_eq_true.1 hback i (List.mem_range.2 hs)
    simp only [Array.getElem?_eq_getElem hs] at hb2
    have hb3:=(Array.all_eq_true_iff_forall_mem.1 hb2) e he
    simp only [hb,Bool.not_true,Bool.false_or,Nat.blt_eq] at hb3
    cases hc:listed.getD e.on false with
    | true=>rfl
    | false=>
     have h5:=hmin e.on ⟨by omega,getD_in au6 hc⟩
     omega
   rw [hnil] at hr;cases hr
  ·have hik:i<k:=by
    rcases Nat.lt_or_ge i k with h | h
    ·exact h
    ·exact absurd VF (jT listed inv j0 Y3 ad6 hj0 i h)
   obtain ⟨hun,o,ho,hall⟩:=mem_ready.1 VF
   have hsz:i<listed.size:=by rw [inv.size];omega
   have hself:∀ j,j<k→listed.getD j false=true→qI (kd j)=true→c j=c j:=fun _ _ _ _=>rfl
   have hgo:∀ c2 a' w',sF n w0 mu all l (hbW i0 hi rest (listed.setIfInBounds i true)) kd val k c2 (listed.setIfInBounds i true) a' w'→wpAny P .any all Q' (f + g) (listed.setIfInBounds i true) a' w':=fun c2 a' w' h=>
    ih c2 _ _ _ aw0 (inv.set VF hik) h
   have tK:Good w0 mu [] w:=hm.good.sub (List.nil_sublist _)
   have hsame:i ≠ i0→hbW i0 hi rest (listed.setIfInBounds i true)=hbW i0 hi rest listed:=fun hne=>by rw [hbW,hbW,getD_set_ne false hne]
   have TP:∃ x,hbW i0 hi rest listed=x++rest:=by
    rw [hbW];cases listed.getD i0 false with
    | true=>exact ⟨[],rfl⟩
    | false=>exact ⟨hi,rfl⟩
   unfold wpOp
   simp only [ho]
   cases hkd:kd i with
   | s v=>
    obtain ⟨o6,bu,hiv,hy⟩:=hS i o v hik ho hkd
    have hkn:=dw (i:=i) hds hm hm.valid hself (fun j u hu=>⟨(hiv j u hu).1,(hiv j u hu).2 c⟩) hall
    have hE0:qI (kd i)=false:=by rw [hkd];rfl
    have hne:i ≠ i0:=fun e=>by rw [e,P5] at hE0;cases hE0
    rw [hsame hne] at hgo
    have hnext:∀ w',Good w0 mu (iV kd c listed k++hbW i0 hi rest listed) w'→wpAny P .any all Q' (f + g) (listed.setIfInBounds i true) (a.put o.dst v) w':=fun w' hG'=>
     hgo c _ _ (iH hm ho hik hun hsz hd hf hm.valid (fun _ _=>rfl) az5 (fun c' _ _=>o6 c'))
    obtain ⟨hx,h3,hpx⟩:∃ hx,o7 P n w0 mu all (aA ds bu o.after.toList++l) hx o v∧hx=iV kd c listed k++hbW i0 hi rest listed:=by
     have ht0:listed.getD i0 false=false:=by
      cases hc:listed.getD i0 false with
      | false=>rfl
      | true=>have:=ad5 listed inv hc i v hik hkd;rw [getD_both hun] at this;cases this
     exact ⟨_,hy (iV kd c listed k),by rw [hbW,ht0];rfl⟩
    subst hpx
    unfold o7 at h3
    cases hg:o.guard with
    | none=>
     rw [hg] at h3
     rw [if_pos av2]
     exact .inl (h3 a w hkn hm.good _ _ hnext)
    | some jw=>
     obtain ⟨j,want⟩:=jw
     rw [hg] at h3
     obtain ⟨dj,c0,b,u,hj,hb,hdj,hy,hvv⟩:=h3
     have hw:=gV hkn hg hj hb hdj
     cases hc:(c0 && jd b want) with
     | true=>
      rw [hc] at hw hvv
      rw [if_pos hw]
      rw [Bool.and_eq_true] at hc
      rw [show v=u from hvv] at hnext
      exact .inl (hy hc.1 hc.2 a w hkn hm.good _ _ hnext)
     | false=>
      rw [hc] at hw hvv
      rw [if_neg aw6]
      rw [show v=undef from hvv] at hnext
      exact hnext w hm.good
   | e R=>
    obtain ⟨o6,bu,hiv,hEr,hEw⟩:=hE i o R hik ho hkd
    have hkn:=dw (i:=i) hds hm hm.valid hself (fun j u hu=>⟨(hiv j u hu).1,(hiv j u hu).2 c⟩) hall
    have hfin:∀ {hb:Hp} (hmb:sF n w0 mu all l hb kd val k c listed a w) (v:Value) (hn:Hp) (w':World),R v hn→Good w0 mu (hn++(iV kd c listed k++hb)) w'→sF n w0 mu all l hb kd val k (fun t=>if t=i then (v,hn) else c t) (listed.setIfInBounds i true) (a.put o.dst v) w':=fun {hb} hmb v hn w' hR hG'=>by
     refine iH hmb ho hik hun hsz hd hf ?_ (fun j hj=>by simp [hj]) ?_ ?_
     ·intro j hj R' hR'
      by_cases hji:j=i
      ·subst hji
       rw [hkd] at hR'
       cases hR'
       simpa using hR
      ·simp only [hji,if_false]
       exact hm.valid j hj R' hR'
     ·refine hG'.perm ?_
      rw [← List.append_assoc]
      exact (wY ay5 hun hsz k hik).symm.append_right _
     ·intro c' hc' hag
      rw [o6 c',hag i hik (by simp [hsz]) ay5]
      simp
    by_cases hne:i=i0
    ·obtain ⟨hg,hy⟩:=hEw hne
     have hl0:listed.getD i0 false=false:=by rw [← hne];exact getD_both hun
     have hb0:hbW i0 hi rest listed=hi++rest:=by rw [hbW,hl0];rfl
     have hb1:hbW i0 hi rest (listed.setIfInBounds i true)=rest:=by
      rw [hbW,← hne,show (listed.setIfInBounds i true).getD i false=true by simp [hsz]];rfl
     rw [hb1] at hgo
     have hgd:=hm.good
     rw [hb0] at hgd
     have hmr:sF n w0 mu all l rest kd val k c listed a w:=⟨hm.size,hm.defers,hm.has,hm.valid,hgd.sub (List.Sublist.append (List.Sublist.refl _) (List.sublist_append_right _ _)),hm.done⟩
     rw [if_pos (hg _ hkn)]
     exact .inl (hy a w _ hkn hgd _ _ fun v hn w' hR hG'=>hgo _ _ _ (hfin hmr v hn w' hR hG'))
    ·obtain ⟨hg,hy⟩:=hEr hne
     rw [hsame hne] at hgo
     obtain ⟨x,hxe⟩:=TP
     rw [if_pos (hg _ hkn)]
     have hgd:=hm.good
     rw [hxe,← List.append_assoc] at hgd
     exact .inl (hy a w _ hkn hgd _ _ fun v hn w' hR hG'=>hgo _ _ _ (hfin hm v hn w' hR (by rw [hxe];simpa only [List.append_assoc] using hG')))
   | d=>
    obtain ⟨bu,hiv,hg,hy⟩:=hD c hm.valid i o hik ho hkd
    have hE0:qI (kd i)=false:=by rw [hkd];rfl
    have hne:i ≠ i0:=fun e=>by rw [e,P5] at hE0;cases hE0
    rw [hsame hne] at hgo
    have hkn:=dw (i:=i) hds hm hm.valid hself hiv hall
    have hrun:=hy a w hkn tK
    rw [if_pos av2]
    refine .inl ?_
    unfold Oper.wp
    rw [hrun]
    refine hgo c _ _ (iH hm ho hik hun hsz hd hf hm.valid (fun _ _=>rfl) ay9 (fun c' hc' hag=>?_))
    obtain ⟨jg,qN,hg2,hy2⟩:=hD c' hc' i o hik ho hkd
    have hag':∀ j,j<k→listed.getD j false=true→qI (kd j)=true→c' j=c j:=fun j hj hl he=>hag j hj (getD_set_true hl) he
    have hrun2:=hy2 a w (dw (i:=i) hds hm hc' hag' qN hall) tK
    rw [hrun] at hrun2
    simp only [Result.ok.injEq,Next.value.injEq,and_true] at hrun2
    exact hrun2.symm
def VG (all:Array Oper) (i0:Nat) (S:List Nat):Bool:=S.all fun i=>Region.waitsFor .any all i0 i || S.any fun j=>Nat.blt i j && Region.waitsFor .any all j i
theorem TQ {S:List Nat} {listed:Array Bool} (h:VG all i0 S=true) (inv:HeadInv .any all k listed) (h0:listed.getD i0 false=true):∀ i∈S,listed.getD i false=true:=by
 have go:∀ d i,S.foldr max 0<i + d→i∈S→listed.getD i false=true:=by
  intro d
  induction d with
  | zero=>
   intro i hlt hi
   exfalso
   have:∀ (L:List Nat),i∈L→i≤L.foldr max 0:=by
    intro L
    induction L with
    | nil=>intro h;cases h
    | cons x r ih=>
     intro h
     rw [List.foldr_cons]
     rcases List.mem_cons.1 h with rfl | h
     ·exact Nat.le_max_left ..
     ·exact Nat.le_trans (ih h) (Nat.le_max_right ..)
   have:=this S hi
   omega
  | succ d ih=>
   intro i hlt hi
   have h1:=List.all_eq_true.1 h i hi
   rw [Bool.or_eq_true] at h1
   rcases h1 with h1 | h1
   ·obtain ⟨oj,h6,e,he,hb,heq⟩:=Region.waitsFor_spec h1
    rw [← heq]
    exact inv.closed i0 oj h6 h0 e he hb
   ·obtain ⟨j,hj,h2⟩:=List.any_eq_true.1 h1
    rw [Bool.and_eq_true] at h2
    have hij:i<j:=by simpa using h2.1
    have h3:=ih j at7 hj
    obtain ⟨oj,h6,e,he,hb,heq⟩:=Region.waitsFor_spec h2.2
    rw [← heq]
    exact inv.closed j oj h6 h3 e he hb
 exact fun i hi=>go (S.foldr max 0 + 1) i at7 hi
def xP (ops:Array Oper) (n k i0:Nat) (S E D D2 C:List Nat):Bool:=
 match C with
 | []=>false
 | t0::_=>(mem E i0 && VG ops i0 S) && (decide (k≤ops.size) && uT ops k n && o9 ops ops.size n && lF ops && nC ops.size (S++E++D++D2) C && nN ops C && (S.all fun j=>Region.waitsFor .any ops t0 j) && (E.all fun j=>Region.waitsFor .any ops t0 j) && (D2++C).all (fun j=>Nat.ble k j) &&
  ((List.range ops.size).all fun i=>(aP ops i).isSome || Nat.beq i t0 || Region.waitsFor .any ops i t0) &&
  ((List.range ops.size).all fun i=>Nat.blt i k || (E.all fun j=>Region.waitsFor .any ops i j) || (List.range ops.size).any fun j=>Nat.ble k j && Region.waitsFor .any ops i j))
end
section
variable {P : Program} {n : Nat} {w0 : World} {mu : List Nat} {l : Fm} {hp : Hp} {Q : Exit → Fm → Hp → Prop} {ds : List (Nat × Nat)}
theorem Je {ops:List Oper} (k i0:Nat) (hi rest:Hp) (S E D D2 C:List Nat) (hB:xP ops.toArray n k i0 S E D D2 C=true) (hperm:(hi++rest).Perm hp) (hf:bg l (dstsOf ops.toArray ops.toArray.size)=true) (hf1:bg l (dstsOf ops.toArray k)=true) (hsp:splitB k S E D=true) (hds:bM ops 0=ds)
  (h:iK P n w0 mu ops.toArray ds l hp (fun aF=>xO P n w0 mu ops.toArray ds l i0 hi rest aF (fun Rs=>∀ c,zg c Rs→fQ P n w0 mu ops.toArray ds l [] (fun Gi=>fQ P n w0 mu ops.toArray ds l [] (fun jg=>fB P n w0 mu ops.toArray ds l [] jg (fun aK hc=>Ops P n w0 mu ops.toArray [] (aX ds (aK++jg)++l) hc Q) C [] (sO E c k++rest)) D2 Gi) D (rY c Rs++aF)) E []) S []):kZ P n w0 mu ops.toArray l hp Q:=by
 intro a w hk hG
 replace hG:=hG.perm hperm
 simp only [splitB,Bool.and_eq_true,decide_eq_true_eq] at hsp
 obtain ⟨⟨⟨_,hnd⟩,hlt⟩,hcov⟩:=hsp
 have hlt':∀ i∈S++E++D,i<k:=fun i hi=>by have:=List.all_eq_true.1 hlt i hi;simpa using this
 have lg:∀ i,i<k→i∈S∨i∈E∨i∈D:=fun i hi=>by
  have:=bT (List.all_eq_true.1 hcov i (List.mem_range.2 hi))
  simpa [or_assoc] using this
 rw [List.append_assoc,List.nodup_append] at hnd
 obtain ⟨vV,tN,OL⟩:=hnd
 rw [List.nodup_append] at tN
 obtain ⟨yC,D7,Wn⟩:=tN
 obtain ⟨aF,h2,FX,nJ,hsS⟩:=zC S [] vV (fun _ _=>rfl) (fun _ _ h=>by cases h) h (fun i v hv=>by cases hv)
 obtain ⟨Rs,h3,nK,hsE⟩:=PZ E [] yC (fun _ _=>rfl) h2 (fun i R hR=>by cases hR)
 simp only [lk,reduceCtorEq,exists_false,or_false] at nJ nK
 have yj:∀ i R,lk Rs i=some R→lk aF i=none:=fun i R hR=>by
  cases hv:lk aF i with
  | none=>rfl
  | some v=>exact absurd rfl (OL i ((nJ i).1 ⟨v,hv⟩) i (List.mem_append_left _ ((nK i).1 ⟨R,hR⟩)))
 let kd:Nat→Kd:=fun i=>match lk Rs i with | some R=>.e R | none=>match lk aF i with | some v=>.s v | none=>.d
 have jv:∀ i R,kd i=.e R↔lk Rs i=some R:=fun i R=>by
  show (match lk Rs i with | some R=>Kd.e R | none=>match lk aF i with | some v=>.s v | none=>.d)=_↔_
  cases lk Rs i with
  | some R'=>simp
  | none=>cases lk aF i<;>simp
 have zh:∀ i v,kd i=.s v→lk Rs i=none∧lk aF i=some v:=fun i v=>by
  show (match lk Rs i with | some R=>Kd.e R | none=>match lk aF i with | some v=>.s v | none=>.d)=_→_
  cases lk Rs i with
  | some R'=>simp
  | none=>cases lk aF i<;>simp
 have II:∀ i,kd i=.d→lk Rs i=none∧lk aF i=none:=fun i=>by
  show (match lk Rs i with | some R=>Kd.e R | none=>match lk aF i with | some v=>.s v | none=>.d)=_→_
  cases lk Rs i with
  | some R'=>simp
  | none=>cases lk aF i<;>simp
 have Ac:∀ i R,lk Rs i=some R→(i,R)∈Rs:=fun i R h=>iO h
 have hvalid:∀ c,Valid kd k c→zg c Rs:=fun c hc=>wZ Rs fun p hp=>by
  obtain ⟨i,R⟩:=p
  have h1:=(hsE i R hp).1
  exact hc i (hlt' i (List.mem_append_left _ (List.mem_append_right _ ((nK i).1 ⟨R,h1⟩)))) R ((jv i R).2 h1)
 have hex:∀ c,Valid kd k c→∃ sQ,fQ P n w0 mu ops.toArray ds l [] (fun jg=>fB P n w0 mu ops.toArray ds l [] jg (fun aK hc=>Ops P n w0 mu ops.toArray [] (aX ds (aK++jg)++l) hc Q) C [] (sO E c k++rest)) D2 sQ∧Uq sQ∧lD (rY c Rs++aF) sQ∧(∀ i,(∃ v,lk sQ i=some v)↔i∈D∨∃ v,lk (rY c Rs++aF) i=some v)∧∀ i v,lk sQ i=some v→lk (rY c Rs++aF) i=some v∨∃ o bu,ops.toArray[i]?=some o∧lD bu sQ∧yY P n w0 mu (aA ds bu o.after.toList++l) [] o v:=fun c hc=>
  qO D (rY c Rs++aF) D7 (fun i hi=>by
   rw [cZ]
   have e1:lk Rs i=none:=by
    cases hR:lk Rs i with
    | none=>rfl
    | some R=>exact absurd rfl (Wn i ((nK i).1 ⟨R,hR⟩) i hi)
   rw [e1]
   cases hv:lk aF i with
   | none=>rfl
   | some v=>exact absurd rfl (OL i ((nJ i).1 ⟨v,hv⟩) i (List.mem_append_right _ hi))) (fun i v hv=>by
   rw [cZ]
   rcases List.mem_append.1 hv with hv | hv
   ·obtain ⟨rfl,R,hR⟩:=uI Rs hv
    rw [(hsE i R hR).1]
   ·have h1:=FX i v hv
    cases hR:lk Rs i with
    | none=>exact h1
    | some R=>rw [yj i R hR] at h1;cases h1) (fun _ _ h=>h) (h3 c (hvalid c hc)) (fun i v hv=>.inl hv)
 have hch:∃ F:Ch→Fm,∀ c,Valid kd k c→fQ P n w0 mu ops.toArray ds l [] (fun jg=>fB P n w0 mu ops.toArray ds l [] jg (fun aK hc=>Ops P n w0 mu ops.toArray [] (aX ds (aK++jg)++l) hc Q) C [] (sO E c k++rest)) D2 (F c)∧Uq (F c)∧lD (rY c Rs++aF) (F c)∧(∀ i,(∃ v,lk (F c) i=some v)↔i∈D∨∃ v,lk (rY c Rs++aF) i=some v)∧∀ i v,lk (F c) i=some v→lk (rY c Rs++aF) i=some v∨∃ o bu,ops.toArray[i]?=some o∧lD bu (F c)∧yY P n w0 mu (aA ds bu o.after.toList++l) [] o v:=by
  classical
  refine ⟨fun c=>if hc:Valid kd k c then Classical.choose (hex c hc) else [],fun c hc=>?_⟩
  simp only [hc,dif_pos]
  exact Classical.choose_spec (hex c hc)
 obtain ⟨F,hF⟩:=hch
 let val:Ch→Nat→Value:=fun c i=>match kd i with | .s v=>v | .e _=>(c i).1 | .d=>(lk (F c) i).getD undef
 have oI:∀ c,Valid kd k c→∀ i v,lk (F c) i=some v→val c i=v:=fun c hc i v hv=>by
  obtain ⟨_,_,hmo,_,_⟩:=hF c hc
  show (match kd i with | .s v=>v | .e _=>(c i).1 | .d=>(lk (F c) i).getD undef)=v
  cases hkd:kd i with
  | s u=>
   obtain ⟨e1,e2⟩:=zh i u hkd
   have:=hmo i u az6
   rw [hv] at this;cases this;rfl
  | e R=>
   have e1:=(jv i R).1 hkd
   have:=hmo i (c i).1 (by rw [cZ,e1])
   rw [hv] at this;cases this;rfl
  | d=>rw [hv];rfl
 have qx:∀ c,Valid kd k c→∀ i,i<k→∃ v,lk (F c) i=some v:=fun c hc i hi=>by
  obtain ⟨_,_,_,hkk,_⟩:=hF c hc
  rw [hkk i]
  rcases lg i hi with h | h | h
  ·obtain ⟨v,hv⟩:=(nJ i).2 h
   right
   rw [cZ]
   cases lk Rs i with
   | some R=>exact ⟨_,rfl⟩
   | none=>exact ⟨v,hv⟩
  ·obtain ⟨R,hR⟩:=(nK i).2 h
   right
   rw [cZ,hR]
   exact ⟨_,rfl⟩
  ·exact .inl h
 have jH:∀ i v,lk aF i=some v→i<k∧∀ c,val c i=v:=fun i v hv=>by
  refine ⟨hlt' i (List.mem_append_left _ (List.mem_append_left _ ((nJ i).1 ⟨v,hv⟩))),fun c=>?_⟩
  show (match kd i with | .s v=>v | .e _=>(c i).1 | .d=>(lk (F c) i).getD undef)=v
  have:kd i=.s v:=by
   show (match lk Rs i with | some R=>Kd.e R | none=>match lk aF i with | some v=>.s v | none=>.d)=_
   cases hR:lk Rs i with
   | some R=>rw [yj i R hR] at hv;cases hv
   | none=>rw [hv]
  rw [this]
 cases C with
 | nil=>simp [xP] at hB
 | cons t0 C'=>
 simp only [xP,Bool.and_eq_true,decide_eq_true_eq] at hB
 obtain ⟨⟨Xb,ad7⟩,⟨⟨⟨⟨⟨⟨⟨⟨⟨hks,hd⟩,YR⟩,hback⟩,pq⟩,dO⟩,hSt⟩,hEt⟩,hge⟩,pV⟩,hwt⟩:=hB
 have P5:=bT Xb
 have jC:=hlt' i0 (List.mem_append_left _ (List.mem_append_right _ P5))
 have hSl:∀ listed,HeadInv .any ops.toArray k listed→listed.getD i0 false=true→∀ i∈S,listed.getD i false=true:=fun listed inv h=>TQ ad7 inv h
 have Y4:∀ listed,HeadInv .any ops.toArray k listed→listed.getD i0 false=true→∀ i v,i<k→kd i=.s v→listed.getD i false=true:=fun listed inv h i v _ hkd=>hSl listed inv h i ((nJ i).1 ⟨v,(zh i v hkd).2⟩)
 simp only [nC,Bool.and_eq_true,decide_eq_true_eq] at pq
 obtain ⟨⟨Pz,PD⟩,Gj⟩:=pq
 have Ap:∀ j,j∈D2++t0::C'→k≤j:=fun j hj=>by have:=List.all_eq_true.1 hge j hj;simpa using this
 have jP:∀ i d,lk ds i=some d→aP ops.toArray i=some d:=fun i d h=>by rw [← hds] at h;have:=(iZ ops 0 i d h).2;simpa [aP] using this
 have yB:∃ c0:Ch,Valid kd k c0:=by
  have h1:∀ i,∃ x:Value × Hp,∀ R,kd i=.e R→R x.1 x.2:=fun i=>by
   cases hR:lk Rs i with
   | none=>exact ⟨(undef,[]),fun R h=>by rw [(jv i R).1 h] at hR;cases hR⟩
   | some R=>
    obtain ⟨_,o,_,_,v,hn,hv⟩:=hsE i R (Ac i R hR)
    exact ⟨(v,hn),fun R' h=>by rw [(jv i R').1 h] at hR;cases hR;exact hv⟩
  exact ⟨fun i=>Classical.choose (h1 i),fun i hi R hR=>Classical.choose_spec (h1 i) R hR⟩
 obtain ⟨c0,hc0⟩:=yB
 have inv0:HeadInv .any ops.toArray k (Array.replicate ops.toArray.size false):=
  ⟨by simp,fun j oj _ hl=>au5,fun t _ ht=>getD_in ax3 (getD_replicate_false _ _)⟩
 have hleft:leftOf k (Array.replicate ops.toArray.size false)=k:=by
  unfold leftOf
  rw [List.filter_eq_self.2]
  ·simp
  ·intro i hi
   have hi':i<k:=by simpa using hi
   have:(Array.replicate ops.toArray.size false).getD i true=false:=getD_in ax4 (getD_replicate_false _ _)
   simp only [this,Bool.not_false]
 have IJ:∀ m,iV kd c0 (Array.replicate ops.toArray.size false) m=[]:=by
  intro m
  induction m with
  | zero=>rfl
  | succ m ih=>simp only [iV,ih,kE,getD_replicate_false,Bool.and_false,cond_false,List.append_nil]
 have sG:∀ i,i<k→qI (kd i)=mem E i:=fun i hi=>by
  cases hkd:kd i with
  | e R=>rw [mem_of ((nK i).1 ⟨R,(jv i R).1 hkd⟩)];rfl
  | s v=>
   cases hmm:mem E i with
   | false=>rfl
   | true=>obtain ⟨R,hR⟩:=(nK i).2 (bT hmm);rw [(jv i R).2 hR] at hkd;cases hkd
  | d=>
   cases hmm:mem E i with
   | false=>rfl
   | true=>obtain ⟨R,hR⟩:=(nK i).2 (bT hmm);rw [(jv i R).2 hR] at hkd;cases hkd
 have key:=Jd jP (P:=P) (n:=n) (w0:=w0) (mu:=mu) (l:=l) (hi:=hi) (rest:=rest) (i0:=i0) (all:=ops.toArray) (kd:=kd) (val:=val) (k:=k) (g:=ops.toArray.size - k) (Q':=QQ n w0 mu Q) hks hd hf1 hback jC (by rw [sG i0 jC];exact Xb)
  (fun i o v hi ho hkd=>by
   obtain ⟨e1,e2⟩:=zh i v hkd
   obtain ⟨o',bu,h1,h2,h3⟩:=hsS i v e2
   rw [ho] at h1;cases h1
   exact ⟨(jH i v e2).2,bu,fun j u hu=>jH j u (h2 j u av4),fun hx=>PY (h3 hx) (hperm.symm.append_left _)⟩)
  Y4
  (fun i o R hi ho hkd=>by
   have e1:=(jv i R).1 hkd
   obtain ⟨_,o',h1,h2,_⟩:=hsE i R (Ac i R e1)
   rw [ho] at h1;cases h1
   refine ⟨fun c=>?_,aF,fun j u hu=>jH j u av4,h2⟩
   show (match kd i with | .s v=>v | .e _=>(c i).1 | .d=>(lk (F c) i).getD undef)=_
   rw [hkd])
  (fun c hcv i o hi ho hkd=>by
   obtain ⟨e1,e2⟩:=II i hkd
   obtain ⟨v,hv⟩:=qx c hcv i hi
   obtain ⟨_,_,_,_,hsp⟩:=hF c hcv
   rw [oI c hcv i v hv]
   rcases hsp i v hv with h0 | ⟨o',bu,h1,h2,h3⟩
   ·rw [cZ,e1] at h0;rw [e2] at h0;cases h0
   ·rw [ho] at h1;cases h1
    refine ⟨bu,fun j u hu=>?_,h3⟩
    have hj:=h2 j u av4
    refine ⟨?_,oI c hcv j u hj⟩
    obtain ⟨_,_,_,hkk,_⟩:=hF c hcv
    rcases (hkk j).1 ⟨u,hj⟩ with h | ⟨v',h⟩
    ·exact hlt' j (List.mem_append_right _ h)
    ·rw [cZ] at h
     cases hR:lk Rs j with
     | some R=>exact hlt' j (List.mem_append_left _ (List.mem_append_right _ ((nK j).1 ⟨R,hR⟩)))
     | none=>rw [hR] at h;exact (jH j v' h).1)
  (fun f c listed hlf inv lJ a w hmid=>?_)
  (fun listed inv i hi hie hun t ht=>?_)
  k c0 _ a { w with drawn:=w.drawn + 1 } hleft inv0 ⟨hk.size,hk.defers,hk.has,hc0,by rw [IJ,hbW,getD_replicate_false];exact hG.drawn _,fun i _ hl=>au5⟩
 ·have e:k + (ops.toArray.size - k)=ops.toArray.size:=by omega
  rw [e] at key
  exact key
 ·obtain ⟨hX,Wp,hmo,hkk,hsp1⟩:=hF c hmid.valid
  have PE:∀ i v,lk (F c) i=some v→i<k:=fun i v hv=>by
   rcases (hkk i).1 ⟨v,hv⟩ with h | ⟨v',h⟩
   ·exact hlt' i (List.mem_append_right _ h)
   ·rw [cZ] at h
    cases hR:lk Rs i with
    | some R=>exact hlt' i (List.mem_append_left _ (List.mem_append_right _ ((nK i).1 ⟨R,hR⟩)))
    | none=>rw [hR] at h;exact (jH i v' h).1
  have yZ:=Pz
  rw [List.nodup_append,List.nodup_append] at yZ
  obtain ⟨⟨_,Gl,YS⟩,yM,YT⟩:=yZ
  obtain ⟨jg,hY,hu2,xA,Aq,hsp2⟩:=qO (base:=F c) D2 (F c) Gl (fun i hi=>by
   cases hv:lk (F c) i with
   | none=>rfl
   | some v=>
    have h1:=PE i v hv
    have h2:=Ap i (List.mem_append_left _ hi)
    omega) Wp (fun _ _ h=>h) hX (fun i v hv=>.inl hv)
  have uj:∀ j,k≤j→j<ops.toArray.size→listed.getD j true=false:=fun j h1 h2=>inv.tail j h1 h2
  have uk:∀ i∈(S++E++D++D2)++t0::C',i<ops.toArray.size:=fun i hi=>by have:=List.all_eq_true.1 PD i hi;simpa using this
  have qN:∀ i v,lk jg i=some v→i<ops.toArray.size:=fun i v hv=>by
   rcases (Aq i).1 ⟨v,hv⟩ with h | ⟨v',h⟩
   ·exact uk i (List.mem_append_left _ (List.mem_append_right _ h))
   ·have:=PE i v' h;omega
  have invK:HeadInv .any ops.toArray ops.toArray.size listed:=⟨inv.size,inv.closed,fun t h1 h2=>by omega⟩
  have PG:leftOf ops.toArray.size listed=f + (ops.toArray.size - k):=by rw [uh hks uj,hlf]
  have hbe:∀ m,m≤k→iV kd c listed m=sO E c m:=by
   intro m
   induction m with
   | zero=>intro _;rfl
   | succ m ih=>
    intro hm
    simp only [iV,sO,kE]
    rw [ih at7,sG m at7]
    cases hme:mem E m with
    | false=>rfl
    | true=>
     have h1:=lJ m at7 az4
     have h2:listed.getD m false=true:=by
      cases hcc:listed.getD m false with
      | true=>rfl
      | false=>rw [getD_in au6 hcc] at h1;cases h1
     rw [h2];rfl
  have hgood:Good w0 mu (sO E c k++rest) w:=by rw [← hbe k (Nat.le_refl _)];exact hmid.good
  have Gm:nD n w0 mu ops.toArray l jg [] (sO E c k++rest) listed a w:=by
   refine ⟨hmid.size,hmid.defers,hmid.has,hgood,fun i v hv hl d hdd=>?_,fun i v hv=>by cases hv⟩
   have hik:i<k:=by
    rcases Nat.lt_or_ge i k with h | h
    ·exact h
    ·have h1:=uj i h (qN i v hv)
     rw [getD_both h1] at hl;cases hl
   obtain ⟨v',hv'⟩:=qx c hmid.valid i hik
   have h1:=xA i v' hv'
   rw [hv] at h1;cases h1
   rw [hmid.done i hik hl c hmid.valid (fun _ _ _ _=>rfl) d hdd]
   exact oI c hmid.valid i v hv'
  have PI:=vZ jP (P:=P) (n:=n) (w0:=w0) (mu:=mu) (l:=l) (hp:=rest) (h0:=[]) (all:=ops.toArray) (aF:=jg) (k:=ops.toArray.size) (t0:=t0) (g:=0) (Q':=QQ n w0 mu Q) (X:=fun aK hc=>Ops P n w0 mu ops.toArray [] (aX ds (aK++jg)++l) hc Q) (dn:=fun i=>mem E i || mem S i) (Nat.le_refl _) YR hf hback (bQ fun b=>by simp [lX])
   (fun i hi hdn=>by
    have:=List.all_eq_true.1 pV i (List.mem_range.2 hi)
    rw [hdn] at this
    simp only [Option.isSome_none,Bool.false_or,Bool.or_eq_true] at this
    rcases this with h | h
    ·exact .inl (Nat.eq_of_beq_eq_true h)
    ·exact .inr h)
   (fun i v hv=>⟨qN i v hv,fun hne=>?_⟩)
   (fun aK h listed inv hall hX a w hmid hEk=>?_)
   (fun listed inv i hi hun t ht hr=>by
    obtain ⟨_,o,ho,_⟩:=mem_ready.1 hr
    have:=(Array.getElem?_eq_some_iff.1 ho).1
    omega)
   (f + (ops.toArray.size - k)) (t0::C') [] (sO E c k++rest) listed a w PG invK (fun i hi=>by
    simp only [Bool.or_eq_true] at hi
    rcases hi with hi | hi
    ·exact lJ i (hlt' i (List.mem_append_left _ (List.mem_append_right _ (bT hi)))) av'
    ·have hl0:=lJ i0 jC (by rw [sG i0 jC];exact Xb)
     have hl1:listed.getD i0 false=true:=by
      cases hcc:listed.getD i0 false with
      | true=>rfl
      | false=>rw [getD_in au6 hcc] at hl0;cases hl0
     have h7:=hSl listed inv hl1 i (bT hi)
     cases hcc:listed.getD i true with
     | true=>rfl
     | false=>rw [getD_both hcc] at h7;cases h7) Gm (fun i v hv=>by cases hv)
   (fun i hi=>⟨uk i (List.mem_append_right _ hi),uj i (Ap i (List.mem_append_right _ hi)) (uk i (List.mem_append_right _ hi)),?_⟩) yM dO (fun i hi hl=>?_) (bQ fun b=>by simp [lX]) (fun _=>aC.right _ _) hY
  ·exact PI
  ·rcases hsp2 i v hv with h0 | ⟨o,bu,h1,h2,h3⟩
   ·rcases hsp1 i v h0 with h0 | ⟨o,bu,h1,h2,h3⟩
    ·rw [cZ] at h0
     cases hR:lk Rs i with
     | some R=>
      simp only [mem_of ((nK i).1 ⟨R,hR⟩),Bool.true_or] at hne;cases hne
     | none=>
      rw [hR] at h0
      obtain ⟨o,bu,h1,h2,h3⟩:=hsS i v h0
      refine ⟨o,bu,h1,fun j u hu=>?_,fun hx=>?_⟩
      ·refine xA j u (hmo j u ?_)
       have h4:=h2 j u hu
       rw [cZ]
       cases hR2:lk Rs j with
       | some R2=>rw [yj j R2 hR2] at h4;cases h4
       | none=>exact h4
      ·simp only [mem_of ((nJ i).1 ⟨v,h0⟩),Bool.or_true] at hne;cases hne
    ·exact ⟨o,bu,h1,fun j u hu=>xA j u (h2 j u hu),fun hx=>Am h3⟩
   ·exact ⟨o,bu,h1,h2,fun hx=>Am h3⟩
  ·have lZ:Knows n (aX ds (aK++jg)++l) a:=by
    refine ⟨hmid.size,hmid.defers,fun t v ht=>?_⟩
    rcases dS ht with ht | ⟨_,ht⟩
    ·obtain ⟨j,h1,h2⟩:=gX (fV ht)
     rcases List.mem_append.1 h1 with h1 | h1
     ·exact (hmid.jV j v h1).2 t (jP _ _ h2)
     ·have hj:=hu2 j v h1
      have hjk:=qN j v hj
      refine hmid.nO j v hj ?_ t (jP _ _ h2)
      have h5:=hall j hjk
      cases hcc:listed.getD j false with
      | true=>rfl
      | false=>rw [getD_in au6 hcc] at h5;cases h5
    ·exact hmid.has t v ht
   refine ⟨?_,hX a w lZ hmid.good⟩
   rw [List.eq_nil_iff_forall_not_mem]
   intro i hi
   obtain ⟨hun,o,ho,_⟩:=mem_ready.1 hi
   rw [hall i (Array.getElem?_eq_some_iff.1 ho).1] at hun;cases hun
  ·cases hv:lk jg i with
   | none=>rfl
   | some v=>
    exfalso
    have h2:=Ap i (List.mem_append_right _ hi)
    rcases (Aq i).1 ⟨v,hv⟩ with h | ⟨v',h⟩
    ·exact YT i (List.mem_append_right _ h) i hi rfl
    ·have:=PE i v' h;omega
  ·have h1:=bT (List.all_eq_true.1 Gj i (List.mem_range.2 hi))
   rcases List.mem_append.1 h1 with h1 | h1
   ·left
    rcases List.mem_append.1 h1 with h1 | h1
    ·obtain ⟨v,hv⟩:=qx c hmid.valid i (hlt' i h1)
     exact ⟨v,xA i v hv⟩
    ·exact (Aq i).2 (.inl h1)
   ·exact .inr h1
 ·intro hr
  obtain ⟨_,o,ho,hall⟩:=mem_ready.1 hr
  have hts:t<ops.toArray.size:=(Array.getElem?_eq_some_iff.1 ho).1
  have hwl:∀ j,Region.waitsFor .any ops.toArray t j=true→listed.getD j false=true:=fun j hj=>by
   obtain ⟨oj,h6,e,he,hb,heq⟩:=Region.waitsFor_spec hj
   rw [ho] at h6;cases h6
   rw [← heq];exact hall e he hb
  have h1:=List.all_eq_true.1 hwt t (List.mem_range.2 hts)
  simp only [Bool.or_eq_true] at h1
  rcases h1 with (h1 | h1) | h1
  ·have:t<k:=by simpa using h1
   omega
  ·have h2:=hwl i (List.all_eq_true.1 h1 i (bT (by rw [← sG i hi];exact hie)))
   rw [getD_both hun] at h2;cases h2
  ·obtain ⟨j,hj,h2⟩:=List.any_eq_true.1 h1
   rw [Bool.and_eq_true] at h2
   have h3:=hwl j h2.2
   rw [getD_both (inv.tail j (by simpa using h2.1) (List.mem_range.1 hj))] at h3;cases h3
theorem MF {ops:List Oper} (k i0:Nat) (hi rest:Hp) (S E D D2 C:List Nat) (hB:xP ops.toArray n k i0 S E D D2 C=true) (hperm:(hi++rest).Perm hp) (hf:bg l (dstsOf ops.toArray ops.toArray.size)=true) (hf1:bg l (dstsOf ops.toArray k)=true) (hsp:splitB k S E D=true) (hds:bM ops 0=ds)
  (h:iK P n w0 mu ops.toArray ds l hp (fun aF=>xO P n w0 mu ops.toArray ds l i0 hi rest aF (fun Rs=>DN (fun iv bl=>fQ P n w0 mu ops.toArray ds l [] (fun Gi=>fQ P n w0 mu ops.toArray ds l [] (fun jg=>fB P n w0 mu ops.toArray ds l [] jg (fun aK hc=>Ops P n w0 mu ops.toArray [] (aX ds (aK++jg)++l) hc Q) C [] (bl++rest)) D2 Gi) D (iv++aF)) Rs) E []) S []):kZ P n w0 mu ops.toArray l hp Q:=by
 refine Je k i0 hi rest S E D D2 C hB hperm hf hf1 hsp hds (xk (fun aF h2=>MC E [] (fun Rs e h3 c hc=>?_) h2) S [] h)
 have:=OO Rs _ c h3 hc
 have he:sO E c k=Ia c (Rs.map (·.1)):=by
  simp only [splitB,Bool.and_eq_true,decide_eq_true_eq] at hsp
  rw [zD,← hsp.1.1.1,e];simp
 rw [he]
 exact this
end
section
variable {n : Nat} {w0 : World} {mu : List Nat} {l : Fm} {hp : Hp} {Q : Exit → Fm → Hp → Prop} {ds : List (Nat × Nat)}
theorem P6 {id:Nat} {ops:List Oper} (k i0:Nat) (hi rest:Hp) (S E D D2 C:List Nat) (h:iK Tryz.prog n w0 mu ops.toArray ds l hp (fun aF=>xO Tryz.prog n w0 mu ops.toArray ds l i0 hi rest aF (fun Rs=>DN (fun iv bl=>fQ Tryz.prog n w0 mu ops.toArray ds l [] (fun Gi=>fQ Tryz.prog n w0 mu ops.toArray ds l [] (fun jg=>fB Tryz.prog n w0 mu ops.toArray ds l [] jg (fun aK hc=>Ops Tryz.prog n w0 mu ops.toArray [] (aX ds (aK++jg)++l) hc Q) C [] (bl++rest)) D2 Gi) D (iv++aF)) Rs) E []) S [])
  (hds:bM ops 0=ds:=by (simp only [bM,Nat.reduceAdd,Nat.zero_add];rfl)) (hm:Tryz.prog.follows .mixedOrders=true:=by kernel_rfl) (hperm:(hi++rest).Perm hp:=by (exact au)) (hB:xP ops.toArray n k i0 S E D D2 C=true:=by decide +kernel) (hf:bg l (dstsOf ops.toArray ops.toArray.size)=true:=by rfl) (hf1:bg l (dstsOf ops.toArray k)=true:=by rfl) (hsp:splitB k S E D=true:=by decide +kernel):St Tryz.prog n w0 mu (.region id ops.toArray true) l hp Q:=
 qP hm (MF k i0 hi rest S E D D2 C hB hperm hf hf1 hsp hds h)
theorem Xc {all:Array Oper} {i0 i:Nat} {hi rest:Hp} {iv:Fm} {X:List (Nat × RT)→Prop} {E:List Nat} {Rs:List (Nat × RT)} (h:iD Tryz.prog n w0 mu all ds l rest iv (fun zF=>xO Tryz.prog n w0 mu all ds l i0 hi rest iv X E zF) [i] Rs) (hne:Nat.beq i i0=false:=by rfl):xO Tryz.prog n w0 mu all ds l i0 hi rest iv X (i::E) Rs:=by
 obtain ⟨o,R,ho,hy,hn,h⟩:=h
 have hne':i ≠ i0:=fun e=>by rw [e,beq_iff.2 rfl] at hne;cases hne
 exact ⟨o,R,ho,⟨fun _=>hy,fun e=>absurd e hne'⟩,hn,h⟩
theorem Ep {all:Array Oper} {i0 i d:Nat} {ty:TypeId} {pos:String} {af:Array Edge} {hi rest:Hp} {iv:Fm} {X:List (Nat × RT)→Prop} {E:List Nat} {Rs:List (Nat × RT)} {t:TypeId} {z:Value} {cs:List Value} (h:xO Tryz.prog n w0 mu all ds l i0 hi rest iv X E ((i,fun v hn=>∃ b,v=.pointer (some ⟨b,0,none⟩)∧hn=[⟨b,cs.toArray,t⟩])::Rs)) (hne:Nat.beq i i0=false:=by rfl) (ho:all[i]?=some ⟨some d,.alloc t,ty,pos,af,none⟩:=by rfl) (hz:lk Tb.zs t=some z:=by rfl) (hc:z.cells=cs.toArray:=by (first | ((simp only [Value.cells])<;>rfl) | rfl)):xO Tryz.prog n w0 mu all ds l i0 hi rest iv X (i::E) Rs:=
 Xc (dL (gW h) ho hz hc) hne
theorem Y5 {all:Array Oper} {i0:Nat} {hi rest:Hp} {iv:Fm} {X:List (Nat × RT)→Prop} {Rs:List (Nat × RT)} (h:X Rs):xO Tryz.prog n w0 mu all ds l i0 hi rest iv X [] Rs:=h
theorem VH {all:Array Oper} {i d:Nat} {ty:TypeId} {pos:String} {af:Array Edge} {hi rest:Hp} {iv:Fm} {X:List (Nat × RT)→Prop} {E:List Nat} {Rs:List (Nat × RT)} {f:FuncId} {xs:List Operand} {vs:List Value} {tys:Array TypeId} {R:RT} (hc:∀ w,Good w0 mu (hi++rest) w→Fn Tryz.prog f vs.toArray w (hi.map (·.b)) R) (hn:∃ v hn,R v hn) (h:xO Tryz.prog n w0 mu all ds l i hi rest iv X E ((i,R)::Rs))
  (ho:all[i]?=some ⟨some d,.call { callee:=.value (.func f),args:=xs.toArray,argTypes:=tys },ty,pos,af,none⟩:=by rfl) (dU:mem mM f=true:=by rfl) (hv:evs (aA ds iv af.toList++l) xs=some vs:=by rfl):xO Tryz.prog n w0 mu all ds l i hi rest iv X (i::E) Rs:=by
 refine ⟨_,R,ho,⟨fun e=>absurd rfl e,fun _=>⟨fun a _=>by simp [Region.wanted],fun a w hx hk hG K Q hK=>?_⟩⟩,hn,h⟩
 obtain ⟨fn,c,hf,hname,hb⟩:=fP f dU
 unfold Oper.wp
 rw [tq rfl hf hname hb hk hv w]
 refine Calls.mono (hc w (hG.sub (List.sublist_append_right _ _))) ?_
 rintro e w' ⟨u,hn,rfl,hg',hR⟩
 have hG2:Good w0 mu (hi++(hx++rest)) w:=hG.perm (by rw [← List.append_assoc,← List.append_assoc];exact List.Perm.append_right _ List.perm_append_comm)
 exact hK u hn w' hR (hG2.NU hg')
end
end
section
attribute [local irreducible] Hy St Ops DH gq iK iD fQ
theorem ad8 {G:Prop} (h:G:=by (first | ((with_reducible apply zX);rfl) | ((with_reducible apply eP);rfl) | ((with_reducible apply DR ay);rfl;rfl;rfl;(exact oJ)) | ((with_reducible apply Iw ay);rfl;rfl;(exact yE);(first | rfl | assumption)) | ((with_reducible apply DU ay);rfl;rfl;assumption;(exact LJ)) | ((with_reducible apply DV ay);rfl;rfl;rfl;(exact yE);(first | assumption | (exact pU));rfl) | ((with_reducible apply Aa ay);rfl;rfl;rfl;assumption;rfl;(exact LJ)) | ((with_reducible apply zY ay);rfl;rfl;rfl;omega;(exact oJ)) | ((with_reducible apply yw ay);rfl;rfl;rfl;omega;(exact oJ)) | ((with_reducible apply DT ay);rfl;rfl;rfl;omega;omega;(exact oJ)) | ((with_reducible apply zZ ay);rfl;rfl;rfl;omega;omega;(exact oJ)) | ((with_reducible apply x_len ay);rfl;rfl) | ((with_reducible apply OG);rfl;rfl) | ((with_reducible apply IE);rfl;rfl) | ((with_reducible apply We);rfl;rfl) | ((with_reducible apply Om);rfl;rfl) | ((with_reducible apply Io);rfl;rfl;rfl) | ((with_reducible apply Oo);rfl) | ((with_reducible apply yu);rfl;rfl) | ((with_reducible apply vS);rfl) | ((with_reducible apply Oq);rfl;rfl) | ((with_reducible apply Ot);rfl;rfl) | ((with_reducible apply Ou);rfl;rfl) | ((with_reducible apply Ov);rfl;rfl) | ((with_reducible apply JM);rfl;rfl) | ((with_reducible apply Ox);rfl;rfl) | ((with_reducible apply Ip ay);rfl;rfl;rfl) | ((with_reducible apply Iq ay);rfl;rfl;rfl) | ((with_reducible apply IA Cf);rfl;rfl;rfl;rfl;rfl) | ((with_reducible apply IB Cf);rfl;rfl;rfl;rfl;rfl) | ((with_reducible apply Oy);rfl;rfl;omega) | ((with_reducible apply Oz);rfl;rfl;omega;omega) | ((with_reducible apply OA);rfl;rfl;omega;omega) | ((with_reducible apply OB);rfl;rfl;omega;omega) | ((with_reducible apply nU ay);rfl;rfl;rfl;omega;omega) | ((with_reducible apply zy ay);rfl;rfl;rfl;omega;omega) | ((with_reducible apply vT);rfl;rfl) | ((with_reducible apply Ir);rfl;rfl) | ((with_reducible apply Iu);rfl;rfl))):G:=h
theorem GH {G R:Prop} (k:R) (h:tV R→G:=by (intro kF;(repeat (first | (with_reducible apply zQ) | (with_reducible apply sU) | (with_reducible apply qj) | (with_reducible apply qo) | (with_reducible apply zV) | (with_reducible apply wS) | (with_reducible apply qy) | (with_reducible apply oH) | (with_reducible apply wU) | (with_reducible apply tu) | (with_reducible apply wM) | (with_reducible apply zS) | (with_reducible apply wK) | (with_reducible apply wL) | ((with_reducible apply tC);rfl) | ((with_reducible apply fA);rfl;(first | exact ad8)) | ((with_reducible apply FP);rfl;rfl;(exact jI);intro blk) | ((with_reducible apply wW ay);rfl;rfl;(exact jI);intro blk) | ((with_reducible apply qL ay);rfl;rfl;(exact jI);rfl;rfl;(exact vW);(exact IP);(exact IQ);(exact pU)) | ((with_reducible apply qp ay);rfl;rfl;rfl;(exact jI);rfl;rfl;rfl;rfl;(exact JY);intro blk)));(repeat revert blk);exact kF.get)):G:=h ⟨k⟩
section
variable {n : Nat} {w0 : World} {mu : List Nat} {l : Fm} {hp : Hp} {Q : Exit → Fm → Hp → Prop} {all : Array Oper} {rest : List Oper} {ty : TypeId} {pos : String} {af : Array Edge}
theorem Es {t d:Nat} {ps:List (Nat × Operand)} {vs:List (Nat × Value)} {z:Value} {pl:List (Nat × Nat)} {zc:Array Value} (out:Array Value) (h:Ops Tryz.prog n w0 mu all rest ((d,.agg out)::l) hp Q) (hd:Nat.blt d n=true:=by rfl) (hz:lk Tb.zs t=some z:=by rfl) (hzc:z.cells=zc:=by (first | ((simp only [Value.cells])<;>rfl) | rfl)) (hpl:lk Tb.pl t=some pl:=by rfl) (hv:Fz l ps=some vs:=by rfl) (hf:fl pl zc vs=some out:=by kernel_rfl):Ops Tryz.prog n w0 mu all (⟨some d,.build t ps.toArray,ty,pos,af,none⟩::rest) l hp Q:=
 fA hd (zA ay hz hzc hpl hv hf rfl) h
theorem P7 {dd:Option Nat} {gg:Option (Nat × Bool)} {t u:TypeId} {x y:Operand} {p:Option Addr} (ht:Tryz.prog.underlying t=some (.pointer (Tryz.prog.pointee t))) (hx:ev l x=some (.pointer p)) (hy:ev l y=some (.pointer none)):Hy Tryz.prog n w0 mu l hp ⟨dd,.binOp .neq t x y u,ty,pos,af,gg⟩ (.bool p.isSome):=
 bz fun a w hk _=>by
  have:=run_neq_pointer_nil (P:=Tryz.prog) (w:=w) t p ht
  simp only [execOp,hk.ev hx,hk.ev hy]
  simp [eqGuard,this]
theorem P8 {dd:Option Nat} {gg:Option (Nat × Bool)} {t u:TypeId} {x y:Operand} {p:Option Addr} (ht:Tryz.prog.underlying t=some (.pointer (Tryz.prog.pointee t))) (hx:ev l x=some (.pointer p)) (hy:ev l y=some (.pointer none)):Hy Tryz.prog n w0 mu l hp ⟨dd,.binOp .eql t x y u,ty,pos,af,gg⟩ (.bool p.isNone):=
 bz fun a w hk _=>by
  have:=run_eql_pointer_nil (P:=Tryz.prog) (w:=w) t p ht
  simp only [execOp,hk.ev hx,hk.ev hy]
  simp [eqGuard,this]
theorem TR {dd:Option Nat} {gg:Option (Nat × Bool)} {t u:TypeId} {x y:Operand} {p:Addr} (ht:Tryz.prog.underlying t=some (.pointer (Tryz.prog.pointee t))) (hx:ev l x=some (.pointer (some p))) (hy:ev l y=some (.pointer none)):Hy Tryz.prog n w0 mu l hp ⟨dd,.binOp .eql t x y u,ty,pos,af,gg⟩ (.bool false):=P8 ht hx hy
theorem TS {dd:Option Nat} {gg:Option (Nat × Bool)} {t u:TypeId} {x y:Operand} (ht:Tryz.prog.underlying t=some (.pointer (Tryz.prog.pointee t))) (hx:ev l x=some (.pointer none)) (hy:ev l y=some (.pointer none)):Hy Tryz.prog n w0 mu l hp ⟨dd,.binOp .eql t x y u,ty,pos,af,gg⟩ (.bool true):=P8 ht hx hy
theorem P9 {dd:Option Nat} {gg:Option (Nat × Bool)} {t u:TypeId} {x y:Operand} {k:IntKind} {p q:Int} (hx:ev l x=some (.int k p)) (hy:ev l y=some (.int k q)):Hy Tryz.prog n w0 mu l hp ⟨dd,.binOp .mul t x y u,ty,pos,af,gg⟩ (.int k (k.wrap (p * q))):=NY rfl hx hy
theorem TT {dd:Option Nat} {gg:Option (Nat × Bool)} {t u:TypeId} {x y:Operand} {p:Addr} (ht:Tryz.prog.underlying t=some (.pointer (Tryz.prog.pointee t))) (hx:ev l x=some (.pointer (some p))) (hy:ev l y=some (.pointer none)):Hy Tryz.prog n w0 mu l hp ⟨dd,.binOp .neq t x y u,ty,pos,af,gg⟩ (.bool true):=P7 ht hx hy
theorem TU {dd:Option Nat} {gg:Option (Nat × Bool)} {t u:TypeId} {x y:Operand} (ht:Tryz.prog.underlying t=some (.pointer (Tryz.prog.pointee t))) (hx:ev l x=some (.pointer none)) (hy:ev l y=some (.pointer none)):Hy Tryz.prog n w0 mu l hp ⟨dd,.binOp .neq t x y u,ty,pos,af,gg⟩ (.bool false):=P7 ht hx hy
end
end
section
attribute [local irreducible] Hy St Ops DH gq iK iD fQ DS fB kz
def nP (k:Int):Bool:=PtD.bV k 0 5
def dB.Y6 (r:dB):List Nat:=[r.jM,r.eU,r.oQ,r.zM,r.sJ,r.far]
def dB.get (r:dB) (k:Int):Nat:=r.Y6.getD k.toNat 0
def dB.set (r:dB) (k:Int) (v:Nat):dB:=
 bif decide (k=0) then { r with jM:=v } else bif decide (k=1) then { r with eU:=v } else bif decide (k=2) then { r with oQ:=v } else bif decide (k=3) then { r with zM:=v } else bif decide (k=4) then { r with sJ:=v } else { r with far:=v }
def dB.trap (r:dB) (sJ far:Nat):dB:={ r with zM:=r.pc,sJ:=sJ,far:=far,pc:=r.oQ }
def dB.back (r:dB):dB:={ r with pc:=r.zM }
def gm (n:Nat):Prop:=n<18446744073709551616
theorem TV (r:dB) (e f:Nat) (w:World):Fn Tryz.prog 114 [.agg (di r).toArray,.int .u64 (e:Int),.int .u64 (f:Int)].toArray w [] (fun u _=>u=.agg (di (r.trap e f)).toArray):=by
 refine enter Tryz.func114 ?_
 refine run ?_
 intro X R
 refine gI ?_
 rfl
theorem MG (r:dB) (e f:Nat) (w:World):Fn Tryz.prog 125 [.agg (di r).toArray,.int .u64 (e:Int),.int .u64 (f:Int)].toArray w [] (fun u _=>u=.agg (di (r.trap e f)).toArray):=by
 refine enter Tryz.func125 ?_
 refine run ?_
 intro X R
 refine gI ?_
 rfl
theorem TW (r:dB) (w:World):Fn Tryz.prog 78 [.agg (di r).toArray].toArray w [] (fun u _=>u=.agg (di r.back).toArray):=by
 refine enter Tryz.func78 ?_
 refine run ?_
 intro X R
 refine gI ?_
 rfl
theorem MH (r:dB) (w:World):Fn Tryz.prog 90 [.agg (di r).toArray].toArray w [] (fun u _=>u=.agg (di r.back).toArray):=by
 refine enter Tryz.func90 ?_
 refine run ?_
 intro X R
 refine gI ?_
 rfl
theorem CS (B:Nat) (k:Int) (w:World):Fn Tryz.prog 116 [.pointer (some ⟨B,0,none⟩),.int .i64 k].toArray w [] (fun u _=>u=bif nP k then .pointer (some ⟨B,9 + k.toNat,none⟩) else .pointer none):=by
 refine enter Tryz.func116 ?_
 refine run ?_
 refine aj _ rfl (fun hc=>?_) (fun hc0=>?_)
 ·obtain rfl:k=0:=by simpa using hc
  refine run ?_
  exact fin1 rfl
 refine run ?_
 refine aj _ rfl (fun hc=>?_) (fun hc1=>?_)
 ·obtain rfl:k=1:=by simpa using hc
  refine run ?_
  exact fin1 rfl
 refine run ?_
 refine aj _ rfl (fun hc=>?_) (fun hc2=>?_)
 ·obtain rfl:k=2:=by simpa using hc
  refine run ?_
  exact fin1 rfl
 refine run ?_
 refine aj _ rfl (fun hc=>?_) (fun hc3=>?_)
 ·obtain rfl:k=3:=by simpa using hc
  refine run ?_
  exact fin1 rfl
 refine run ?_
 refine aj _ rfl (fun hc=>?_) (fun hc4=>?_)
 ·obtain rfl:k=4:=by simpa using hc
  refine run ?_
  exact fin1 rfl
 refine run ?_
 refine aj _ rfl (fun hc=>?_) (fun hc5=>?_)
 ·obtain rfl:k=5:=by simpa using hc
  refine run ?_
  exact fin1 rfl
 refine run ?_
 have hk:nP k=false:=by
  simp at hc0 hc1 hc2 hc3 hc4 hc5
  simp only [nP,PtD.bV,Bool.and_eq_false_iff,decide_eq_false_iff_not]
  omega
 rw [hk]
 exact fin1 rfl
theorem Xd {k:Int} (h:nP k=true):k=0∨k=1∨k=2∨k=3∨k=4∨k=5:=by
 simp only [nP,PtD.bV,Bool.and_eq_true,decide_eq_true_eq] at h
 omega
theorem Qa (r:dB) (k:Int) (w:World):Fn Tryz.prog 74 [.agg (di r).toArray,.int .i64 k].toArray w [] (fun u _=>u=.tuple #[.int .u64 (bif nP k then r.get k else 0:Nat),.int .i64 (bif nP k then 0 else 1)]):=by
 refine enter Tryz.func74 ?_
 refine run ?_
 intro X R
 refine ax (fun wc hG=>CS R k wc) ?_
 cases hk:nP k with
 | true=>
  rw [cond_true,cond_true,cond_true]
  refine aW ?_
  refine fA au2 (TT av6 rfl rfl) ?_
  obtain rfl | rfl | rfl | rfl | rfl | rfl:=Xd hk
  all_goals
   refine aW ?_
   exact fin2 rfl
 | false=>
  rw [cond_false,cond_false,cond_false]
  refine aW ?_
  refine fA au2 (TU av6 rfl rfl) ?_
  refine aW ?_
  exact fin2 rfl
theorem Qb (r:dB) (k:Int) (v:Nat) (w:World):Fn Tryz.prog 75 [.agg (di r).toArray,.int .i64 k,.int .u64 (v:Int)].toArray w [] (fun u _=>u=.tuple #[.agg (di (bif nP k then r.set k v else kJ)).toArray,.int .i64 (bif nP k then 0 else 1)]):=by
 refine enter Tryz.func75 ?_
 refine run ?_
 intro X R Y
 refine ax (fun wc hG=>CS Y k wc) ?_
 cases hk:nP k with
 | true=>
  rw [cond_true,cond_true,cond_true]
  refine aW ?_
  refine fA au2 (TR av6 rfl rfl) ?_
  obtain rfl | rfl | rfl | rfl | rfl | rfl:=Xd hk
  all_goals
   simp only [Int.toNat_zero,Int.toNat_one,Int.reduceToNat,Nat.reduceAdd,Nat.add_zero]
   refine aW ?_
   refine gy ?_
   rfl
 | false=>
  rw [cond_false,cond_false,cond_false]
  refine aW ?_
  refine fA au2 (TS av6 rfl rfl) ?_
  refine aW ?_
  refine gy ?_
  rfl
theorem Qc (r:dB) (k:Int) (hk:nP k=true) (w:World):Fn Tryz.prog 87 [.agg (di r).toArray,.int .i64 k].toArray w [] (fun u _=>u=.int .u64 (r.get k:Nat)):=by
 refine enter Tryz.func87 ?_
 refine run ?_
 intro X Z
 obtain rfl | rfl | rfl | rfl | rfl | rfl:=Xd hk
 all_goals
  refine run ?_
  exact fin1 rfl
theorem Qd (r:dB) (k:Int) (v:Nat) (w:World):Fn Tryz.prog 88 [.agg (di r).toArray,.int .i64 k,.int .u64 (v:Int)].toArray w [] (fun u _=>u=.agg (di (r.set k v)).toArray):=by
 refine enter Tryz.func88 ?_
 refine run ?_
 intro X R
 refine aj _ rfl (fun hc=>?_) (fun hc0=>?_)
 ·obtain rfl:k=0:=by simpa using hc
  refine aW ?_
  refine gI ?_
  rfl
 refine run ?_
 refine aj _ rfl (fun hc=>?_) (fun hc1=>?_)
 ·obtain rfl:k=1:=by simpa using hc
  refine aW ?_
  refine gI ?_
  rfl
 refine run ?_
 refine aj _ rfl (fun hc=>?_) (fun hc2=>?_)
 ·obtain rfl:k=2:=by simpa using hc
  refine aW ?_
  refine gI ?_
  rfl
 refine run ?_
 refine aj _ rfl (fun hc=>?_) (fun hc3=>?_)
 ·obtain rfl:k=3:=by simpa using hc
  refine aW ?_
  refine gI ?_
  rfl
 refine run ?_
 refine aj _ rfl (fun hc=>?_) (fun hc4=>?_)
 ·obtain rfl:k=4:=by simpa using hc
  refine aW ?_
  refine gI ?_
  rfl
 refine run ?_
 have hk:r.set k v={ r with far:=v }:=by
  simp at hc0 hc1 hc2 hc3 hc4
  simp [dB.set,hc0,hc1,hc2,hc3,hc4]
 rw [hk]
 refine gI ?_
 rfl
end
section
def Y7 (P:Program) (n:Nat) (w0:World) (mu:List Nat) (all:Array Oper) (lf:Fm) (hp:Hp) (o:Oper) (R:RT):Prop:=
 (∀ a,Knows n lf a→Region.wanted o (yielded all a.tmps)=true)∧∀ a w,Knows n lf a→Good w0 mu hp w→∀ (K:Act→World→Prop) (Q:Exit→Act→World→Prop),(∀ v h' w',R v h'→Good w0 mu h' w'→K (a.put o.dst v) w')→o.wp P a w K Q
def CU (P:Program) (n:Nat) (w0:World) (mu:List Nat) (all:Array Oper) (ds:List (Nat × Nat)) (l:Fm) (h0 hb:Hp) (t0:Nat) (X:Fm→Fm→Hp→Prop):List (Nat × Bool)→Fm→Fm→Hp→Prop
 | [],aF,aK,h=>X aF aK h
 | (i,false)::r,aF,aK,h=>∃ o,all[i]?=some o∧((o.dst.isSome=true∧∃ R:RT,wF P n w0 mu all (aA ds (aK++aF) o.after.toList++l) h o R∧∀ v hn,R v hn→CU P n w0 mu all ds l h0 hb t0 X r aF ((i,v)::aK) (hn++h)) ∨
   (o.dst=none∧∃ h',YA P n w0 mu (aA ds (aK++aF) o.after.toList++l) h o h'∧aC h0 h'∧CU P n w0 mu all ds l h0 hb t0 X r aF aK h') ∨
   (o.dst.isSome=true∧∃ R:RT,Y7 P n w0 mu all (aA ds (aK++aF) o.after.toList++l) h o R∧∀ v h',R v h'→aC h0 h'∧((i=t0∨Region.waitsFor .any all i t0=true)∨aC hb h')∧CU P n w0 mu all ds l h0 hb t0 X r aF ((i,v)::aK) h'))
 | (i,true)::r,aF,aK,h=>∃ o v,all[i]?=some o∧yY P n w0 mu (aA ds (aK++aF) o.after.toList++l) [] o v∧CU P n w0 mu all ds l h0 hb t0 X r ((i,v)::aF) aK h
def Qe (all:Array Oper):List Nat→List Nat→Bool
 | _,[]=>true
 | seen,x::r=>seen.any (fun y=>Region.waitsFor .any all x y) && Qe all (x::seen) r
def AA (all:Array Oper):List (Nat × Bool)→Bool
 | []=>true
 | (c,d)::r=>(d || Qe all [c] (r.map (·.1))) && AA all r
theorem MI {all:Array Oper}:∀ {r seen:List Nat},Qe all seen r=true→∀ x∈r,∃ y,(y∈seen∨y∈r)∧Region.waitsFor .any all x y=true:=by
 intro r
 induction r with
 | nil=>intro seen _ x hx;cases hx
 | cons z r ih=>
  intro seen h x hx
  simp only [Qe,Bool.and_eq_true] at h
  rcases List.mem_cons.1 hx with rfl | hx
  ·obtain ⟨y,hy,h2⟩:=List.any_eq_true.1 h.1
   exact ⟨y,.inl hy,h2⟩
  ·obtain ⟨y,hy,h2⟩:=ih h.2 x hx
   rcases hy with hy | hy
   ·rcases List.mem_cons.1 hy with rfl | hy
    ·exact ⟨_,.inr (List.mem_cons_self ..),h2⟩
    ·exact ⟨y,.inl hy,h2⟩
   ·exact ⟨y,.inr (List.mem_cons_of_mem _ hy),h2⟩
theorem Qg {all:Array Oper} {c:Nat} {r:List (Nat × Bool)} (h:Qe all [c] (r.map (·.1))=true):∀ x∈r.map (·.1),∃ y,(y∈[c]∨y∈r.map (·.1))∧Region.waitsFor .any all x y=true:=MI h
theorem CV {k:Nat} {listed:Array Bool} {all:Array Oper} (h:leftOf k listed=0) {i:Nat} (hi:i<k) (inv:HeadInv .any all k listed) (hk:k≤all.size):listed.getD i true=true:=by
 cases hc:listed.getD i true with
 | true=>rfl
 | false=>
  exfalso
  have:i∈(List.range k).filter fun i=>!listed.getD i true:=List.mem_filter.2 ⟨List.mem_range.2 hi,by simp only [hc,Bool.not_false]⟩
  have h2:=List.length_pos_of_mem this
  unfold leftOf at h
  omega
section
variable {P : Program} {n : Nat} {w0 : World} {mu : List Nat} {l : Fm} {h0 hp : Hp} {Q : Exit → Fm → Hp → Prop} {all : Array Oper} {k t0 : Nat} {ds : List (Nat × Nat)}
structure Yc (P:Program) (n:Nat) (w0:World) (mu:List Nat) (all:Array Oper) (ds:List (Nat × Nat)) (l:Fm) (h0 hp:Hp) (t0 k:Nat) (aF aK:Fm):Prop where
 so:∀ i v,lk aF i=some v→i<k∧∃ o bu,all[i]?=some o∧(∀ j u,look bu j=some u→lk aK j=some u∨lk aF j=some u)∧∀ hx,o7 P n w0 mu all (aA ds bu o.after.toList++l) (bif Region.waitsFor .any all t0 i then hx++hp else hx++h0) o v
 uq:Uq aF
theorem VI {aF aK:Fm} {i:Nat} {v:Value} (hne:∀ u,(i,u) ∉ aK) (h:Yc P n w0 mu all ds l h0 hp t0 k aF aK):Yc P n w0 mu all ds l h0 hp t0 k aF ((i,v)::aK):=⟨fun j u hu=>by
 obtain ⟨h1,o,bu,h2,h3,h4⟩:=h.1 j u hu
 exact ⟨h1,o,bu,h2,fun a b hab=>(h3 a b hab).imp (fun h=>by rw [bK,if_neg (fun e=>by subst e;exact hne _ (iO h))];exact h) id,h4⟩,h.2⟩
theorem Qh {aF aK:Fm} {i:Nat} {v:Value} {o:Oper} (h:Yc P n w0 mu all ds l h0 hp t0 k aF aK) (hi:i<k) (hn:lk aF i=none) (ho:all[i]?=some o) (hy:yY P n w0 mu (aA ds (aK++aF) o.after.toList++l) [] o v):Yc P n w0 mu all ds l h0 hp t0 k ((i,v)::aF) aK:=by
 have hmo:∀ j u,lk aF j=some u→lk ((i,v)::aF) j=some u:=fun j u hu=>by
  rw [bK,if_neg (fun e=>by subst e;rw [hn] at hu;cases hu)];exact hu
 refine ⟨fun j u hu=>?_,fun j u hu=>?_⟩
 ·rw [bK] at hu
  by_cases hij:i=j
  ·subst hij
   rw [if_pos rfl] at hu
   cases hu
   refine ⟨hi,o,aK++aF,ho,fun a b hab=>?_,fun hx=>Am hy⟩
   rw [dX,Aj] at hab
   cases hE:lk aK a with
   | some x=>rw [hE] at hab;cases hab;exact .inl rfl
   | none=>rw [hE] at hab;exact .inr (hmo _ _ hab)
  ·rw [if_neg hij] at hu
   obtain ⟨h1,o',bu,h2,h3,h4⟩:=h.1 j u hu
   exact ⟨h1,o',bu,h2,fun a b hab=>(h3 a b hab).imp id (hmo a b),h4⟩
 ·rcases List.mem_cons.1 hu with hu | hu
  ·cases hu;rw [bK,if_pos rfl]
  ·exact hmo _ _ (h.2 j u hu)
theorem MJ {aF aK:Fm} {i:Nat} {v:Value} {h:Hp} {listed:Array Bool} {a:Act} {w:World} (hm:nD n w0 mu all l aF aK h listed a w) (hun:listed.getD i true=false) (hn:lk aF i=none):nD n w0 mu all l ((i,v)::aF) aK h listed a w:=
 ⟨hm.size,hm.defers,hm.has,hm.good,fun j u hj hl d hd=>by
  by_cases hij:i=j
  ·subst hij;rw [getD_both hun] at hl;cases hl
  ·rw [bK,if_neg hij] at hj;exact hm.nO j u hj hl d hd,hm.jV⟩
def Et (ops:Array Oper) (n k t0:Nat) (S:List Nat) (C:List (Nat × Bool)):Bool:=
 o9 ops k n && lF ops && nC k S (C.map (·.1)) && AA ops C && oL ops k && (List.range k).all fun i=>(aP ops i).isSome || Nat.beq i t0 || Region.waitsFor .any ops i t0
theorem Jf (hds : ∀ k d, lk ds k = some d → aP all k = some d) {g : Nat} {Q' : Exit → Act → World → Prop} {X : Fm → Fm → Hp → Prop} (hk : k ≤ all.size) (hd : o9 all k n = true) (hf : bg l (dstsOf all k) = true) (hback : lF all = true) (hle0 : aC h0 hp)
    (pV : ∀ i, i < k → aP all i = none → i = t0 ∨ Region.waitsFor .any all i t0 = true)
    (htail : ∀ aF aK h listed, HeadInv .any all k listed → (∀ i, i < k → listed.getD i true = true) → X aF aK h → ∀ a w, nD n w0 mu all l aF aK h listed a w → (∀ i v, (i, v) ∈ aK → i < k) → (∀ i v, lk aF i = some v → i < k) → Uq aF → wpAny P .any all Q' g listed a w)
    (jT : ∀ listed, HeadInv .any all k listed → ∀ i, i < k → listed.getD i true = false → ∀ t, k ≤ t → t ∉ Region.ready .any all listed) :
    ∀ f r aF aK h listed a w, leftOf k listed = f → HeadInv .any all k listed → nD n w0 mu all l aF aK h listed a w → Yc P n w0 mu all ds l h0 hp t0 k aF aK → (∀ i v, (i, v) ∈ aK → i < k) → (∀ i ∈ r.map (·.1), i < k ∧ listed.getD i true = false ∧ lk aF i = none) → (r.map (·.1)).Nodup → AA all r = true → (∀ i, i < k → listed.getD i true = false → (∃ v, lk aF i = some v) ∨ i ∈ r.map (·.1)) →
      aC h0 h → (listed.getD t0 false = false → aC hp h) → CU P n w0 mu all ds l h0 hp t0 X r aF aK h → wpAny P .any all Q' (f + g) listed a w := by
  intro f
  induction f with
  | zero =>
    intro r
    induction r with
    | nil =>
      intro aF aK h listed a w hlf inv hm hS hEk hr hnd dO hcov hle mQ hD
      rw [Nat.zero_add]
      exact htail aF aK h listed inv (fun i hi => CV hlf hi inv hk) hD a w hm hEk (fun i v hv => (hS.1 i v hv).1) hS.2
    | cons p r ihr =>
      intro aF aK h listed a w hlf inv hm hS hEk hr hnd dO hcov hle mQ hD
      have h1 := hr p.1 (List.mem_cons_self ..)
      rw [CV hlf h1.1 inv hk] at h1
      exact absurd h1.2.1 au0
  | succ f ih =>
    have STEP : ∀ r aF aK h listed a w, leftOf k listed = f + 1 → HeadInv .any all k listed → nD n w0 mu all l aF aK h listed a w → Yc P n w0 mu all ds l h0 hp t0 k aF aK → (∀ i v, (i, v) ∈ aK → i < k) → (∀ i ∈ r.map (·.1), i < k ∧ listed.getD i true = false ∧ lk aF i = none) → (r.map (·.1)).Nodup → AA all r = true → (∀ i, i < k → listed.getD i true = false → (∃ v, lk aF i = some v) ∨ i ∈ r.map (·.1)) →
      aC h0 h → (listed.getD t0 false = false → aC hp h) → CU P n w0 mu all ds l h0 hp t0 X r aF aK h → (∀ p r', r = p :: r' → p.2 = false) → wpAny P .any all Q' (f + 1 + g) listed a w := by
     intro r aF aK h listed a w hlf inv hm hS hEk hr hnd dO hcov hle mQ hD ad9
     rw [show f + 1 + g = (f + g) + 1 by omega]
     have hex : ∃ i, i < k ∧ listed.getD i true = false := by
       have h2 : 0 < leftOf k listed := by omega
       obtain ⟨i, hi⟩ := List.exists_mem_of_length_pos h2
       rw [List.mem_filter] at hi
       exact ⟨i, List.mem_range.1 hi.1, by simpa using hi.2⟩
     obtain ⟨i0, jC, hi0⟩ := hex
     refine ⟨fun hnil => ?_, fun i hi => ?_⟩
     · exfalso
       obtain ⟨i, ⟨hik, hil⟩, hmin⟩ := exists_least (p := fun i => i < k ∧ listed.getD i true = false) ⟨i0, jC, hi0⟩
       have hr : i ∈ Region.ready .any all listed := by
         rw [mem_ready]
         have hs : i < all.size := by omega
         refine ⟨hil, all[i], by simp [hs], fun e he hb => ?_⟩
         have hb2 := List.all_eq_true.1 hback i (List.mem_range.2 hs)
         simp only [Array.getElem?_eq_getElem hs] at hb2
         have hb3 := (Array.all_eq_true_iff_forall_mem.1 hb2) e he
         simp only [hb, Bool.not_true, Bool.false_or, Nat.blt_eq] at hb3
         cases hc : listed.getD e.on false with
         | true => rfl
         | false =>
           have h5 := hmin e.on ⟨by omega, getD_in (by rw [inv.size]; omega) hc⟩
           omega
       rw [hnil] at hr; cases hr
     · have hik : i < k := by
         rcases Nat.lt_or_ge i k with h | h
         · exact h
         · exact absurd hi (jT listed inv i0 jC hi0 i h)
       obtain ⟨hun, o, ho, hall⟩ := mem_ready.1 hi
       have hsz : i < listed.size := by rw [inv.size]; omega
       have mZ : listed.getD i false = false := getD_both hun
       have hleft : leftOf k (listed.setIfInBounds i true) = f := by have := jF hik (by rw [inv.size]; omega) hun; omega
       have hwl : ∀ t, Region.waitsFor .any all i t = true → listed.getD t false = true := fun t ht => by
         obtain ⟨oj, h6, e, he, hb, heq⟩ := Region.waitsFor_spec ht
         rw [ho] at h6; cases h6
         rw [← heq]; exact hall e he hb
       unfold wpOp
       simp only [ho]
       cases qJ : lk aF i with
       | some v =>
         obtain ⟨_, o', bu, ho', hmo, hy⟩ := hS.1 i v qJ
         rw [ho] at ho'; cases ho'
         have hkn := iP (o := o) hds hm (bu := bu) hmo hall
         have hir : i ∉ r.map (·.1) := fun hm' => by rw [(hr i hm').2.2] at qJ; cases qJ
         have hnext : ∀ w', Good w0 mu h w' → wpAny P .any all Q' (f + g) (listed.setIfInBounds i true) (a.put o.dst v) w' := fun w' hG' => by
           refine ih r aF aK h _ _ _ hleft (inv.set hi hik) (lI hm ho hik hun hsz hd hf hG' (fun j u hu => (hS.1 j u hu).1) hEk (.inl ⟨qJ, rfl⟩)) hS hEk (fun j hj => ?_) hnd dO (fun j hj hl => ?_) hle (fun ht => ?_) hD
           · have hji : i ≠ j := fun e => hir (e ▸ hj)
             exact ⟨(hr j hj).1, by rw [getD_set_ne true hji]; exact (hr j hj).2.1, (hr j hj).2.2⟩
           · refine hcov j hj ?_
             by_cases hji : i = j
             · subst hji; simp [hsz] at hl
             · rwa [getD_set_ne true hji] at hl
           · refine mQ ?_
             by_cases hji : i = t0
             · subst hji; exact mZ
             · rwa [getD_set_ne false hji] at ht
         obtain ⟨hx, h3, jm⟩ : ∃ hx, o7 P n w0 mu all (aA ds bu o.after.toList ++ l) hx o v ∧ hx.Perm h := by
           cases hwt : Region.waitsFor .any all t0 i with
           | true =>
             have ht0 : listed.getD t0 false = false := by
               cases hc : listed.getD t0 false with
               | false => rfl
               | true =>
                 obtain ⟨oj, h6, e, he, hb, heq⟩ := Region.waitsFor_spec hwt
                 have := inv.closed t0 oj h6 hc e he hb
                 rw [heq, mZ] at this; cases this
             obtain ⟨x, hxp⟩ := (mQ ht0).perm
             have h4 := hy x
             rw [hwt] at h4
             exact ⟨x ++ hp, h4, List.perm_append_comm.trans hxp⟩
           | false =>
             obtain ⟨x, hxp⟩ := hle.perm
             have h4 := hy x
             rw [hwt] at h4
             exact ⟨x ++ h0, h4, List.perm_append_comm.trans hxp⟩
         have hgd : Good w0 mu hx w := hm.good.perm jm
         replace hnext : ∀ w', Good w0 mu hx w' → wpAny P .any all Q' (f + g) (listed.setIfInBounds i true) (a.put o.dst v) w' := fun w' hG' => hnext w' (hG'.perm jm.symm)
         unfold o7 at h3
         cases hg : o.guard with
         | none =>
           rw [hg] at h3
           rw [if_pos (by simp [Region.wanted, hg])]
           exact .inl (h3 a w hkn hgd _ _ hnext)
         | some jw =>
           obtain ⟨j, want⟩ := jw
           rw [hg] at h3
           obtain ⟨dj, c0, b, u, hj, hb, hdj, hy, hvv⟩ := h3
           have hw := gV hkn hg hj hb hdj
           cases hc : (c0 && jd b want) with
           | true =>
             rw [hc] at hw hvv
             rw [if_pos hw]
             rw [Bool.and_eq_true] at hc
             rw [show v = u from hvv] at hnext
             exact .inl (hy hc.1 hc.2 a w hkn hgd _ _ hnext)
           | false =>
             rw [hc] at hw hvv
             rw [if_neg (by rw [hw]; decide)]
             rw [show v = undef from hvv] at hnext
             exact hnext w hgd
       | none =>
         have hir : i ∈ r.map (·.1) := by
           rcases hcov i hik hun with ⟨v, hv⟩ | h
           · rw [qJ] at hv; cases hv
           · exact h
         cases r with
         | nil => cases hir
         | cons c r =>
           obtain ⟨c, cb⟩ := c
           obtain rfl : cb = false := ad9 _ _ rfl
           simp only [AA, Bool.false_or, Bool.and_eq_true] at dO
           have hic : i = c := by
             rcases List.mem_cons.1 hir with h | h
             · exact h
             · exfalso
               obtain ⟨p, h1, h3⟩ := Qg dO.1 i h
               have h1' : p ∈ (((c, false) :: r).map (·.1)) := by
                 rcases h1 with h1 | h1
                 · rw [List.mem_singleton.1 h1]; exact List.mem_cons_self ..
                 · exact List.mem_cons_of_mem _ h1
               have := (hr p h1').2.1; have h5 := hwl p h3
               rw [getD_both this] at h5; cases h5
           subst hic
           rw [List.map_cons, List.nodup_cons] at hnd
           have nG : AA all r = true := dO.2
           have hr' : ∀ j ∈ r.map (·.1), j < k ∧ (listed.setIfInBounds i true).getD j true = false ∧ lk aF j = none := fun j hj => by
             have h1 := hr j (List.mem_cons_of_mem _ hj)
             have hji : i ≠ j := fun e => hnd.1 (e ▸ hj)
             exact ⟨h1.1, by rw [getD_set_ne true hji]; exact h1.2.1, h1.2.2⟩
           have lg : ∀ j, j < k → (listed.setIfInBounds i true).getD j true = false → (∃ v, lk aF j = some v) ∨ j ∈ r.map (·.1) := fun j hj hl => by
             by_cases hji : i = j
             · subst hji; simp [hsz] at hl
             · rw [getD_set_ne true hji] at hl
               rcases hcov j hj hl with h | h
               · exact .inl h
               · exact .inr ((List.mem_cons.1 h).resolve_left (Ne.symm hji))
           have hkn := iP (o := o) hds hm (bu := aK ++ aF) (fun j u hu => by
             rw [dX, Aj] at hu
             cases hE : lk aK j with
             | some v => rw [hE] at hu; exact .inl hu
             | none => rw [hE] at hu; exact .inr hu) hall
           unfold CU at hD
           obtain ⟨o', ho', hD⟩ := hD
           rw [ho] at ho'; cases ho'
           rcases hD with ⟨hds', R, ⟨hg, hE⟩, hD⟩ | ⟨hdn, h', ⟨hg, _, hSt⟩, hle', hD⟩ | ⟨hds', R, ⟨hg, hE⟩, hD⟩
           · rw [if_pos (hg _ hkn)]
             refine .inl (hE a w [] hkn az7 _ _ fun v hn w' hR hG' => ?_)
             rw [List.nil_append] at hG'
             have hlen : ∀ x : Hp, aC x h → aC x (hn ++ h) := fun x hx => bQ fun b => by have := hx.cnt b; rw [dV]; omega
             refine ih r aF ((i, v) :: aK) (hn ++ h) _ _ _ hleft (inv.set hi hik) (lI hm ho hik hun hsz hd hf hG' (fun j u hu => (hS.1 j u hu).1) hEk (.inr ⟨qJ, rfl⟩)) (VI (fun u hu => by have := (hm.jV i u hu).1; rw [mZ] at this; cases this) hS) (fun j u hu => ?_) hr' hnd.2 nG lg (hlen _ hle) (fun ht => hlen _ (mQ ?_)) (hD v hn hR)
             · rcases List.mem_cons.1 hu with hu | hu
               · cases hu; exact hik
               · exact hEk j u hu
             · by_cases hji : i = t0
               · subst hji; exact mZ
               · rwa [getD_set_ne false hji] at ht
           · rw [if_pos (by simp [Region.wanted, hg])]
             refine .inl (hSt a w hkn hm.good _ _ fun w' hG' => ?_)
             have hmc : nD n w0 mu all l aF aK h' (listed.setIfInBounds i true) a w' := by
               refine ⟨hm.size, hm.defers, hm.has, hG', fun j u hj hl d hdj => ?_, fun j u hj => ⟨getD_set_true (hm.jV j u hj).1, (hm.jV j u hj).2⟩⟩
               have hji : i ≠ j := fun e => by subst e; rw [qJ] at hj; cases hj
               exact hm.nO j u hj ax7 d hdj
             refine ih r aF aK h' _ _ _ hleft (inv.set hi hik) hmc hS hEk hr' hnd.2 nG lg hle' (fun ht => ?_) hD
             exfalso
             rcases pV i hik (by simp [aP, ho, hdn]) with e | e
             · subst e
               rw [show (listed.setIfInBounds i true).getD i false = true by simp [hsz]] at ht; cases ht
             · have := getD_set_true (i := i) (hwl t0 e)
               rw [this] at ht; cases ht
           · rw [if_pos (hg _ hkn)]
             refine .inl (hE a w hkn hm.good _ _ fun v h' w' hR hG' => ?_)
             obtain ⟨hle', hit, hD'⟩ := hD v h' hR
             refine ih r aF ((i, v) :: aK) h' _ _ _ hleft (inv.set hi hik) (lI hm ho hik hun hsz hd hf hG' (fun j u hu => (hS.1 j u hu).1) hEk (.inr ⟨qJ, rfl⟩)) (VI (fun u hu => by have := (hm.jV i u hu).1; rw [mZ] at this; cases this) hS) (fun j u hu => ?_) hr' hnd.2 nG lg hle' (fun ht => ?_) hD'
             · rcases List.mem_cons.1 hu with hu | hu
               · cases hu; exact hik
               · exact hEk j u hu
             · rcases hit with (e | e) | e
               · exfalso
                 subst e
                 rw [show (listed.setIfInBounds i true).getD i false = true by simp [hsz]] at ht; cases ht
               · exfalso
                 have := getD_set_true (i := i) (hwl t0 e)
                 rw [this] at ht; cases ht
               · exact e
    intro r0
    induction r0 with
    | cons p r0 ihr =>
      obtain ⟨i, db⟩ := p
      cases db with
      | true =>
        intro aF aK h listed a w hlf inv hm hS hEk hr hnd dO hcov hle mQ hD
        obtain ⟨o, v, ho, hy, hD⟩ := hD
        have VF := hr i (List.mem_cons_self ..)
        have hnd' := List.nodup_cons.1 hnd
        exact ihr ((i, v) :: aF) aK h listed a w hlf inv (MJ hm VF.2.1 VF.2.2) (Qh hS VF.1 VF.2.2 ho hy) hEk (fun j hj => by
          have h1 := hr j (List.mem_cons_of_mem _ hj)
          have hji : i ≠ j := fun e => hnd'.1 (e ▸ hj)
          exact ⟨h1.1, h1.2.1, by rw [bK, if_neg hji]; exact h1.2.2⟩) hnd'.2 (by simpa [AA] using dO) (fun j hj hl => by
          by_cases hji : i = j
          · subst hji; exact .inl ⟨v, by rw [bK, if_pos rfl]⟩
          · rcases hcov j hj hl with ⟨u, hu⟩ | h
            · exact .inl ⟨u, by rw [bK, if_neg hji]; exact hu⟩
            · exact .inr ((List.mem_cons.1 h).resolve_left (Ne.symm hji))) hle mQ hD
      | false =>
        intro aF aK h listed a w hlf inv hm hS hEk hr hnd dO hcov hle mQ hD
        exact STEP ((i, false) :: r0) aF aK h listed a w hlf inv hm hS hEk hr hnd dO hcov hle mQ hD (fun p r e => by cases e; rfl)
    | nil =>
      intro aF aK h listed a w hlf inv hm hS hEk hr hnd dO hcov hle mQ hD
      exact STEP [] aF aK h listed a w hlf inv hm hS hEk hr hnd dO hcov hle mQ hD (fun p r e => by cases e)
theorem MK {ops:List Oper} (k t0:Nat) (S:List Nat) (C:List (Nat × Bool)) (h0:Hp) (hB:Et ops.toArray n k t0 S C=true) (hf:bg l (dstsOf ops.toArray k)=true) (hle0:aC h0 hp) (hds:bM ops 0=ds)
  (h:DS P n w0 mu ops.toArray ds l h0 hp t0 (fun Xe=>CU P n w0 mu ops.toArray ds l h0 hp t0 (fun aF aK hc=>Ops P n w0 mu ops.toArray (ops.drop k) (aX ds (aK++aF)++l) hc Q) C Xe [] hp) S []):kZ P n w0 mu ops.toArray l hp Q:=by
 intro a w hk hG
 simp only [Et,Bool.and_eq_true] at hB
 obtain ⟨⟨⟨⟨⟨hd,hback⟩,oM⟩,dO⟩,fM⟩,pV⟩:=hB
 simp only [nC,Bool.and_eq_true,decide_eq_true_eq] at oM
 obtain ⟨⟨hnd,hlt⟩,hcov⟩:=oM
 have hlt':∀ i∈S++C.map (·.1),i<k:=fun i hi=>by have:=List.all_eq_true.1 hlt i hi;simpa using this
 rw [List.nodup_append] at hnd
 obtain ⟨vV,yM,YK⟩:=hnd
 obtain ⟨aF,hX,FX,nJ,hsS⟩:=Ec S [] vV (fun _ _=>rfl) (fun _ _ h=>by cases h) h (fun i v hv=>by cases hv)
 simp only [lk,reduceCtorEq,exists_false,or_false] at nJ
 have hks:k≤ops.toArray.size:=by
  simp only [oL,Bool.or_eq_true,Bool.and_eq_true,decide_eq_true_eq] at fM
  rcases fM with h | h<;>omega
 have jP:∀ i d,lk ds i=some d→aP ops.toArray i=some d:=fun i d h=>by rw [← hds] at h;have:=(iZ ops 0 i d h).2;simpa [aP] using this
 have inv0:HeadInv .any ops.toArray k (Array.replicate ops.toArray.size false):=
  ⟨by simp,fun j oj _ hl=>au5,fun t _ ht=>getD_in ax3 (getD_replicate_false _ _)⟩
 have zn:∀ i,i<k→(Array.replicate ops.toArray.size false).getD i true=false:=fun i hi=>getD_in ax4 (getD_replicate_false _ _)
 have hleft:leftOf k (Array.replicate ops.toArray.size false)=k:=by
  unfold leftOf
  rw [List.filter_eq_self.2]
  ·simp
  ·intro i hi
   simp only [zn i aw',Bool.not_false]
 have key:=Jf jP (P:=P) (n:=n) (w0:=w0) (mu:=mu) (l:=l) (hp:=hp) (h0:=h0) (all:=ops.toArray) (k:=k) (t0:=t0) (g:=ops.toArray.size - k) (Q':=QQ n w0 mu Q) (X:=fun aF aK hc=>Ops P n w0 mu ops.toArray (ops.drop k) (aX ds (aK++aF)++l) hc Q) hks hd hf hback hle0
  (fun i hi hdn=>by
   have:=List.all_eq_true.1 pV i (List.mem_range.2 hi)
   rw [hdn] at this
   simp only [Option.isSome_none,Bool.false_or,Bool.or_eq_true] at this
   rcases this with h | h
   ·exact .inl (Nat.eq_of_beq_eq_true h)
   ·exact .inr h)
  (fun aF aK h listed inv hall hX a w hmid hEk WI FX=>by
   have lZ:Knows n (aX ds (aK++aF)++l) a:=by
    refine ⟨hmid.size,hmid.defers,fun t v ht=>?_⟩
    rcases dS ht with ht | ⟨_,ht⟩
    ·obtain ⟨j,h1,h2⟩:=gX (fV ht)
     rcases List.mem_append.1 h1 with h1 | h1
     ·exact (hmid.jV j v h1).2 t (jP _ _ h2)
     ·have hj:=FX j v h1
      have hjk:=WI j v hj
      refine hmid.nO j v hj ?_ t (jP _ _ h2)
      have h5:=hall j hjk
      cases hcc:listed.getD j false with
      | true=>rfl
      | false=>rw [getD_in au6 hcc] at h5;cases h5
    ·exact hmid.has t v ht
   have hfin:=hX a w lZ hmid.good
   simp only [oL,Bool.or_eq_true,Bool.and_eq_true,decide_eq_true_eq] at fM
   rcases fM with Ak | ⟨⟨⟨qQ,hs⟩,hc⟩,hseq⟩
   ·have e0:ops.drop k=[]:=List.drop_eq_nil_of_le (by simp at Ak;omega)
    rw [e0] at hfin
    rw [show ops.toArray.size - k=0 by omega]
    refine ⟨?_,hfin⟩
    rw [List.eq_nil_iff_forall_not_mem]
    intro i hi
    obtain ⟨hun,o,ho,_⟩:=mem_ready.1 hi
    have hi':i<k:=by rw [Ak];exact (Array.getElem?_eq_some_iff.1 ho).1
    rw [hall i hi'] at hun;cases hun
   ·have hl:listed=(Array.replicate k true)++(Array.replicate (ops.toArray.size - k) false):=by
     apply Array.ext
     ·simp [inv.size];simp at qQ;omega
     ·intro i h1 h2
      by_cases hi:i<k
      ·have:=hall i hi
       simp [h1] at this
       rw [Array.getElem_append_left aw']
       simpa using this
      ·have h3:=inv.tail i at7 aw9
       simp [h1] at h3
       rw [Array.getElem_append_right au']
       simpa using h3
    have hdl:(ops.drop k).length=ops.toArray.size - k:=by simp
    rw [← hdl]
    exact wpAny_of_seq (ops.drop k) k listed a w (fun j=>by simp) ax5 hfin)
  (fun listed inv i hi hun t ht=>by
   simp only [oL,Bool.or_eq_true,Bool.and_eq_true,decide_eq_true_eq] at fM
   rcases fM with h | ⟨⟨⟨qQ,hs⟩,hc⟩,hseq⟩
   ·intro hr
    obtain ⟨_,o,ho,_⟩:=mem_ready.1 hr
    have:=(Array.getElem?_eq_some_iff.1 ho).1
    omega
   ·exact tail_waits hs hc qQ inv _ i rfl hi hun t ht)
  k C aF [] hp _ a { w with drawn:=w.drawn + 1 } hleft inv0 ⟨hk.size,hk.defers,hk.has,hG.drawn _,fun i v _ hl=>au5,fun i v hv=>by cases hv⟩ ⟨fun i v hv=>⟨hlt' i (List.mem_append_left _ ((nJ i).1 ⟨v,hv⟩)),by
   obtain ⟨o,bu,h1,h2,h3⟩:=hsS i v hv
   exact ⟨o,bu,h1,fun j u hu=>.inr (h2 j u av4),h3⟩⟩,FX⟩ (fun i v hv=>by cases hv)
  (fun i hi=>⟨hlt' i (List.mem_append_right _ hi),zn i (hlt' i (List.mem_append_right _ hi)),by
   cases hv:lk aF i with
   | none=>rfl
   | some v=>exact absurd rfl (YK i ((nJ i).1 ⟨v,hv⟩) i hi)⟩) yM dO
  (fun i hi _=>by
   have:=bT (List.all_eq_true.1 hcov i (List.mem_range.2 hi))
   rcases List.mem_append.1 this with h | h
   ·exact .inl ((nJ i).2 h)
   ·exact .inr h) hle0 (fun _=>aC.refl _) hX
 have e:k + (ops.toArray.size - k)=ops.toArray.size:=by omega
 rw [e] at key
 exact key
end
section
variable {n : Nat} {w0 : World} {mu : List Nat} {l : Fm} {h0 hp hc : Hp} {Q : Exit → Fm → Hp → Prop} {all : Array Oper} {aF iv aK : Fm} {k t0 i d : Nat} {ds : List (Nat × Nat)} {r : List (Nat × Bool)} {Y : Fm → Fm → Hp → Prop} {op : Op} {ty : TypeId} {pos : String} {af : Array Edge} {v : Value}
theorem Eu {id:Nat} {ops tl:List Oper} (k t0:Nat) (S:List Nat) (C:List (Nat × Bool)) (h0:Hp) (h:DS Tryz.prog n w0 mu ops.toArray ds l h0 hp t0 (fun Xe=>CU Tryz.prog n w0 mu ops.toArray ds l h0 hp t0 (fun aF aK hc=>Ops Tryz.prog n w0 mu ops.toArray tl (aX ds (aK++aF)++l) hc Q) C Xe [] hp) S [])
  (hle0:aC h0 hp:=by (exact ak)) (hds:bM ops 0=ds:=by (simp only [bM,Nat.reduceAdd,Nat.zero_add];rfl)) (htl:ops.drop k=tl:=by (simp only [List.drop_succ_cons,List.drop_zero,List.drop_nil];rfl)) (hm:Tryz.prog.follows .mixedOrders=true:=by kernel_rfl) (hB:Et ops.toArray n k t0 S C=true:=by decide +kernel) (hf:bg l (dstsOf ops.toArray k)=true:=by rfl):St Tryz.prog n w0 mu (.region id ops.toArray true) l hp Q:=
 qP hm (MK k t0 S C h0 hB hf hle0 hds ay7)
theorem TY (h:Y aF aK hc):CU Tryz.prog n w0 mu all ds l h0 hp t0 Y [] aF aK hc:=h
theorem xC (h:fB Tryz.prog n w0 mu all ds l h0 aF (fun BH hc'=>CU Tryz.prog n w0 mu all ds l h0 hp t0 Y r aF BH hc') [i] aK hc):CU Tryz.prog n w0 mu all ds l h0 hp t0 Y ((i,false)::r) aF aK hc:=by
 obtain ⟨o,ho,h⟩:=h
 refine ⟨o,ho,?_⟩
 rcases h with ⟨h1,R,h2,h3⟩ | ⟨h1,h',h2,h3,h4⟩
 ·exact .inl ⟨h1,R,h2,h3⟩
 ·exact .inr (.inl ⟨h1,h',h2,h3,h4⟩)
theorem VJ {x:Operand} (h:CU Tryz.prog n w0 mu all ds l h0 hp t0 Y r ((i,v)::aF) aK hc) (ho:all[i]?=some ⟨some d,.move x,ty,pos,af,none⟩:=by rfl) (hx:ev (aA ds (aK++aF) af.toList++l) x=some v:=by rfl):CU Tryz.prog n w0 mu all ds l h0 hp t0 Y ((i,true)::r) aF aK hc:=⟨_,v,ho,OU hx,h⟩
theorem qC {x:Operand} {j:Nat} {vs:Array Value} (h:CU Tryz.prog n w0 mu all ds l h0 hp t0 Y r ((i,v)::aF) aK hc) (ho:all[i]?=some ⟨some d,.extract x j,ty,pos,af,none⟩:=by rfl) (hx:ev (aA ds (aK++aF) af.toList++l) x=some (.tuple vs):=by rfl) (hj:nth vs.toList j=some v:=by rfl):CU Tryz.prog n w0 mu all ds l h0 hp t0 Y ((i,true)::r) aF aK hc:=⟨_,v,ho,Cc hx hj,h⟩
end
section
variable {P : Program} {T : Tab} {n : Nat} {w0 : World} {mu : List Nat} {l : Fm} {hp : Hp} {ty : TypeId} {pos : String} {af : Array Edge} {Q : Exit → Fm → Hp → Prop} {all : Array Oper} {rest : List Oper}
theorem Jg (ok:aY P T) {t d e sz jD m c a o:Nat} {x y:Operand} {z:Value} {news:List Value} (hx:ev l x=some (.slice none 0 0)) (hy:ev l y=some (.slice (some ⟨a,o,none⟩) m c)) (ht:lk T.sl t=some (e,sz))
  (hz:lk T.zs e=some z) (hzs:z.cells.size=sz) (hb:lk T.eb e=some jD) (hm:0<m) (hl:news.length=m * sz) (hnews:lH w0 mu hp a o news) (h63:m≤1048576) (h48:m * jD≤281474976710656):Y7 P n w0 mu all l hp ⟨some d,.call { callee:=.builtin .append,args:=#[x,y],argTypes:=#[t,t] },ty,pos,af,none⟩ (fun v h'=>∃ g cap cur,Row g cap cur sz m news∧v=.slice (some ⟨g,0,none⟩) m cap∧h'=⟨g,cur,e⟩::hp):=by
 refine ⟨fun a _=>by simp [Region.wanted],fun ac w hk hG K Q' hK=>?_⟩
 obtain ⟨hu,hsz⟩:=ok.zu ht
 have hbb:=List.all_eq_true.1 ok.eb _ (iO hb)
 simp only [beq_iff_eq] at hbb
 obtain ⟨i,hi,hiz,his,hib⟩:=qM hsz hbb (ok.Lh hz)
 subst his hib
 have hr:=run_append_nil (P:=P) w t ty e i z hu hi hiz ⟨a,o,none⟩ m c news hl (fun j u hj=>by rw [Addr.add_mid];exact hnews w hG j u hj) hm at7 h48
 unfold Oper.wp execOp
 simp only [resolve,invoke,builtin,Sem.run_bind,Sem.run_pure,Result.andThen_ok,List.map_toArray,List.map_cons,List.map_nil,hk.ev hx,hk.ev hy,hr]
 have hrow:=zB (w:=w) (z:=z) (sz:=i.size) (k:=0) (m:=m) (old:=0) (e:=e) (xs:=[]) (news:=news) hzs au3 hl ax9
 simp only [Nat.zero_add,List.nil_append,Array.empty_append] at hrow
 have hG':=(hG.drawn (w.drawn + 1)).alloc (news.toArray++Builtin.zeroCells z.cells (grownCap w m 0 e - m)) e
 exact hK _ _ _ ⟨_,_,_,hrow,rfl,rfl⟩ hG'
theorem Jh (ok:aY P T) {t d e sz jD k m c a o g cap:Nat} {cur:Array Value} {x y:Operand} {z:Value} {xs news:List Value} {hp':Hp} (hx:ev l x=some (.slice (some ⟨g,0,none⟩) k cap)) (hy:ev l y=some (.slice (some ⟨a,o,none⟩) m c)) (ht:lk T.sl t=some (e,sz))
  (hz:lk T.zs e=some z) (hzs:z.cells.size=sz) (hb:lk T.eb e=some jD) (hperm:(⟨g,cur,e⟩::hp').Perm hp) (hown:Row g cap cur sz k xs) (hl:news.length=m * sz) (hnews:lH w0 mu hp a o news) (h1:news.all (·.oneCell')=true) (h63:k + m≤1048576) (h48:(k + m + (k + m) / 4 + 192) * jD≤281474976710656):Y7 P n w0 mu all l hp ⟨some d,.call { callee:=.builtin .append,args:=#[x,y],argTypes:=#[t,t] },ty,pos,af,none⟩ (fun v h'=>∃ g cap cur,Row g cap cur sz (k + m) (xs++news)∧v=.slice (some ⟨g,0,none⟩) (k + m) cap∧h'=⟨g,cur,e⟩::hp'):=by
 refine ⟨fun a _=>by simp [Region.wanted],fun ac w hk hG K Q' hK=>?_⟩
 obtain ⟨hu,hsz⟩:=ok.zu ht
 have hbb:=List.all_eq_true.1 ok.eb _ (iO hb)
 simp only [beq_iff_eq] at hbb
 obtain ⟨i,hi,hiz,his,hib⟩:=qM hsz hbb (ok.Lh hz)
 subst his hib
 have hG':=hG.perm hperm
 have hg:=hG'.here _ (List.mem_cons_self ..)
 have hn:∀ j u,news[j]?=some u→w.cell? ((⟨a,o,none⟩:Addr).add j)=some u:=fun j u hj=>by rw [Addr.add_mid];exact hnews w hG j u hj
 by_cases hroom:k + m≤cap
 ·have hfit:k * i.size + news.length≤cur.size:=by rw [hl,hown.size,← Nat.add_mul];exact Nat.mul_le_mul_right _ hroom
  have hr:=run_append_room (P:=P) w t ty e i hu hi g k cap cur hg ⟨a,o,none⟩ m c news hl hn (fun u hu=>List.all_eq_true.1 h1 u hu) hroom hfit
  unfold Oper.wp execOp
  simp only [resolve,invoke,builtin,Sem.run_bind,Sem.run_pure,Result.andThen_ok,List.map_toArray,List.map_cons,List.map_nil,hk.ev hx,hk.ev hy,hr]
  refine hK _ _ _ ⟨_,_,_,⟨?_,hroom,hown.max,?_,?_⟩,rfl,rfl⟩ (hG'.row _)
  ·rw [List.length_append,hown.len,hl,Nat.add_mul]
  ·have:=hown.size
   simp only [List.size_toArray,List.length_append,List.length_take,List.length_drop,Array.length_toList]
   omega
  ·rw [hown.take,show (k + m) * i.size=(xs++news).length by rw [List.length_append,hown.len,hl,Nat.add_mul]]
   exact List.take_left
 ·have holds:∀ j u,xs[j]?=some u→w.cell? ((⟨g,0,none⟩:Addr).add j)=some u:=by
   intro j u hj
   rw [Addr.add_mid,cell_of_block hg]
   rw [← hown.take,List.getElem?_take] at hj
   split at hj
   ·simpa using hj
   ·cases hj
  have hr:=run_append_grow (P:=P) w t ty e i z hu hi hiz ⟨g,0,none⟩ k cap xs hown.len holds ⟨a,o,none⟩ m c news hl hn at7 at7 (growslice_fits_wide at7 h48)
  unfold Oper.wp execOp
  simp only [resolve,invoke,builtin,Sem.run_bind,Sem.run_pure,Result.andThen_ok,List.map_toArray,List.map_cons,List.map_nil,hk.ev hx,hk.ev hy,hr]
  have hG2:=((hG'.sub (hp':=hp') (List.sublist_cons_self _ _)).drawn (w.drawn + 1)).alloc (xs.toArray++news.toArray++Builtin.zeroCells z.cells (grownCap w (k + m) cap e - (k + m))) e
  have hrow:=zB (w:=w) (k:=k) (m:=m) (old:=cap) (e:=e) hzs hown.len hl ax9
  exact hK _ _ _ ⟨_,_,_,hrow,rfl,rfl⟩ hG2
end
theorem TZ {P:Program} {n:Nat} {w0:World} {mu:List Nat} {all:Array Oper} {l:Fm} {hp:Hp} {o:Oper} {R R':RT} (h:Y7 P n w0 mu all l hp o R) (hr:∀ v h',R v h'→∃ h2,R' v h2∧h2.Perm h'):Y7 P n w0 mu all l hp o R':=
 ⟨h.1,fun a w hk hG K Q hK=>h.2 a w hk hG K Q fun v h' w' hR hG'=>by
  obtain ⟨h2,h3,h4⟩:=hr v h' hR
  exact hK v h2 w' h3 (hG'.perm h4)⟩
section
variable {n : Nat} {w0 : World} {mu : List Nat} {l : Fm} {h0 hp hc : Hp} {all : Array Oper} {ds : List (Nat × Nat)} {t0 : Nat} {aF aK : Fm} {Y : Fm → Fm → Hp → Prop} {i d : Nat} {r : List (Nat × Bool)} {ty : TypeId} {pos : String} {af : Array Edge}
theorem Y8 {t e sz jD cc a:Nat} {x y:Operand} {z v:Value} {c:List Value} {ha hp':Hp} {xs:List (List Value)} (hA:Acc e sz v ha xs) (hnews:lH w0 mu hc a 0 c) (h63:xs.length<1000000) (hperm:(ha++hp').Perm hc) (hle:aC h0 hp')
  (h:∀ v' ha',Acc e sz v' ha' (xs++[c])→CU Tryz.prog n w0 mu all ds l h0 hp t0 Y r aF ((i,v')::aK) (ha'++hp')) (ho:all[i]?=some ⟨some d,.call { callee:=.builtin .append,args:=#[x,y],argTypes:=#[t,t] },ty,pos,af,none⟩:=by rfl) (hit:(i=t0∨Region.waitsFor .any all i t0=true)∨aC hp hp':=by exact .inl (.inl rfl))
  (hx:ev (aA ds (aK++aF) af.toList++l) x=some v:=by rfl) (hy:ev (aA ds (aK++aF) af.toList++l) y=some (.slice (some ⟨a,0,none⟩) 1 cc):=by rfl) (ht:lk Tb.sl t=some (e,sz):=by rfl)
  (hz:lk Tb.zs e=some z:=by rfl) (hzs:z.cells.size=sz:=by rfl) (hb:lk Tb.eb e=some jD:=by rfl) (hby:Nat.ble jD 4096=true:=by rfl) (hl:c.length=sz:=by rfl) (h1:c.all (·.oneCell')=true:=by rfl):CU Tryz.prog n w0 mu all ds l h0 hp t0 Y ((i,false)::r) aF aK hc:=by
 have uU:jD≤4096:=Nat.le_of_ble_eq_true hby
 have hall:∀ c'∈xs++[c],c'.length=sz∧c'.all (·.oneCell')=true:=by
  intro c' hc'
  rcases List.mem_append.1 hc' with hc' | hc'
  ·exact hA.1 c' hc'
  ·obtain rfl:=List.mem_singleton.1 hc';exact ⟨hl,h1⟩
 rcases hA.2 with ⟨rfl,rfl,rfl⟩ | ⟨hne,g,cap,cur,rfl,rfl,hrow⟩
 ·refine ⟨_,ho,.inr (.inr ⟨rfl,fun v h'=>∃ g cap cur,Row g cap cur sz 1 c∧v=.slice (some ⟨g,0,none⟩) 1 cap∧h'=⟨g,cur,e⟩::hp',TZ (Jg ay hx hy ht hz hzs hb at7 ax' hnews at7 at7) ?_,?_⟩)⟩
  ·rintro _ _ ⟨g,cap,cur,hr,rfl,rfl⟩
   exact ⟨_,⟨g,cap,cur,hr,rfl,rfl⟩,(hperm.cons _:(⟨g,cur,e⟩::([]++hp')).Perm (⟨g,cur,e⟩::hc))⟩
  rintro _ _ ⟨g,cap,cur,hr,rfl,rfl⟩
  refine ⟨?_,hit.imp id fun h2=>bQ fun b=>?_,?_⟩
  ·refine bQ fun b=>?_
   have:=hle.cnt b
   rw [bH]
   omega
  ·have:=h2.cnt b
   show _≤lX b (⟨g,cur,e⟩::hp')
   rw [bH]
   omega
  ·exact h (.slice (some ⟨g,0,none⟩) 1 cap) [⟨g,cur,e⟩] ⟨hall,.inr ⟨by simp,g,cap,cur,rfl,rfl,by simpa using hr⟩⟩
 ·refine ⟨_,ho,.inr (.inr ⟨rfl,_,Jh ay hx hy ht hz hzs hb hperm hrow ax' hnews h1 at7 ?_,?_⟩)⟩
  ·have h2:(xs.length + 1 + (xs.length + 1) / 4 + 192)≤2000000:=by omega
   calc _≤2000000 * jD:=Nat.mul_le_mul_right _ h2
    _≤2000000 * 4096:=Nat.mul_le_mul_left _ uU
    _≤_:=by decide
  rintro _ _ ⟨g,cap,cur,hr,rfl,rfl⟩
  refine ⟨?_,hit.imp id fun h2=>bQ fun b=>?_,?_⟩
  ·refine bQ fun b=>?_
   have:=hle.cnt b
   show _≤lX b (⟨g,cur,e⟩::hp')
   rw [bH]
   omega
  ·have:=h2.cnt b
   show _≤lX b (⟨g,cur,e⟩::hp')
   rw [bH]
   omega
  ·exact h (.slice (some ⟨g,0,none⟩) (xs.length + 1) cap) [⟨g,cur,e⟩] ⟨hall,.inr ⟨by simp,g,cap,cur,by simp,rfl,by simpa using hr⟩⟩
end
end
section
attribute [local irreducible] Hy St Ops DH gq
structure kT where
 frame:Int
 mid:Int
 r:Bool
 w:Bool
 x:Bool
 af:Bool
 ng:Bool
 soft:Int
 level:Int
deriving DecidableEq
def Ji:kT:=⟨0,0,false,false,false,false,false,0,0⟩
instance : Inhabited kT := ⟨Ji⟩
abbrev RG (h:kT):Value:=.agg #[.int .i64 h.frame,.int .i64 h.mid,.bool h.r,.bool h.w,.bool h.x,.bool h.af,.bool h.ng,.int .i64 h.soft,.int .i64 h.level]
structure mW where
 kind:Int
 stage:Int
 level:Int
 walk:Bool
 page:Int
deriving DecidableEq
def jO:mW:=⟨0,0,0,false,0⟩
instance : Inhabited mW := ⟨jO⟩
abbrev xQ (f:mW):Value:=.agg #[.int .i64 f.kind,.int .i64 f.stage,.int .i64 f.level,.bool f.walk,.int .i64 f.page]
def uY (r w x:Bool) (acc:Int):Bool:=decide (acc=0) && r || decide (acc=1) && w || decide (acc=2) && x
def gJ (r w x af:Bool) (acc stage level page:Int):mW:=bif !af then ⟨3,stage,level,false,page⟩ else bif !uY r w x acc then ⟨4,stage,level,false,page⟩ else jO
structure NS where
 h:kT
 f:mW
 rd:List Int
deriving Inhabited
def BI (ws:List Nat) (stage:Int) (p level:Nat):DsD:=I7 stage level (ws.getD p 0)
theorem rG (ws:List Nat) (stage:Int) (p level:Nat):(BI ws stage p level).may stage level=true:=TD _ _ _
def rH (n:Nat) (stage:Int) (page level:Nat) (d:DsD) (rd:List Int):NS:=
 bif decide (d.kind=0) then ⟨Ji,⟨2,stage,level,false,page⟩,rd⟩
 else bif dM n (d.frame + ((page % aO level:Nat):Int)) then ⟨⟨d.frame + ((page % aO level:Nat):Int),0,d.r,d.w,d.x,d.af,d.ng,d.soft,level⟩,jO,rd⟩
 else ⟨Ji,⟨1,stage,level,false,page⟩,rd⟩
def GI (ws : List Nat) (stage : Int) (page : Nat) : Nat → Nat → Int → List Int → NS
  | 0, level, f, rd => ⟨Ji, ⟨2, stage, 3, false, page⟩, rd⟩
  | k + 1, level, f, rd => bif dM ws.length f then
      (bif decide ((BI ws stage (rZ f level page) level).kind = 1) then GI ws stage page k (level + 1) (BI ws stage (rZ f level page) level).frame (rd ++ [f])
       else rH ws.length stage page level (BI ws stage (rZ f level page) level) (rd ++ [f]))
    else ⟨Ji, ⟨1, stage, level, false, page⟩, rd⟩
def jq (ws:List Nat) (stage frame:Int) (page:Nat):NS:=GI ws stage page 4 0 frame []
def uZ (W:NS) (mid:Nat) (acc:Int):mW:=bif decide (W.f.kind=0) then gJ W.h.r W.h.w W.h.x W.h.af acc 2 W.h.level mid else W.f
def Jj (W:NS) (mid:Nat) (acc:Int):NS:=bif !decide ((uZ W mid acc).kind=0) then ⟨Ji,uZ W mid acc,W.rd⟩ else ⟨{ W.h with mid:=mid },uZ W mid acc,W.rd⟩
def ji (ws:List Nat) (on:Bool) (frame:Int) (mid:Nat) (acc:Int):NS:=
 bif !on then (bif dM ws.length mid then ⟨⟨mid,mid,true,true,true,true,false,0,0⟩,jO,[]⟩ else ⟨Ji,⟨1,2,0,false,mid⟩,[]⟩)
 else Jj (jq ws 2 frame mid) mid acc
theorem Ew (r w x af ng:Bool) (soft acc:Int) (W:World):Fn Tryz.prog 185 [.agg #[.bool r,.bool w,.bool x,.bool af,.bool ng,.int .i64 soft],.int .i64 acc].toArray W [] (fun u _=>u=.bool (uY r w x acc)):=by
 refine enter Tryz.func185 ?_
 refine az ?_
 intro B
 refine fin1 ?_
 simp only [uY]
theorem Kq (r w x af ng:Bool) (soft acc stage level page:Int) (W:World):Fn Tryz.prog 187 [.agg #[.bool r,.bool w,.bool x,.bool af,.bool ng,.int .i64 soft],.int .i64 acc,.int .i64 stage,.int .i64 level,.int .i64 page].toArray W [] (fun u _=>u=xQ (gJ r w x af acc stage level page)):=by
 refine enter Tryz.func187 ?_
 refine run ?_
 intro B C D
 refine aj _ rfl (fun hc=>?_) (fun hc=>?_)
 ·refine run ?_
  refine gI ?_
  simp only [gJ,hc,cond_true]
 refine run ?_
 refine ax (fun wc hG=>Ew r w x af ng soft acc wc) ?_
 refine run ?_
 refine aj _ rfl (fun hc2=>?_) (fun hc2=>?_)
 ·refine run ?_
  refine gI ?_
  simp only [gJ,hc,hc2,cond_true,cond_false]
 refine run ?_
 refine gI ?_
 simp only [gJ,hc,hc2,cond_true,cond_false]
 rfl
theorem Ua (ws:List Nat) (hw:uy ws) {w:World} {v:Value} (h:aB w v 1 (ws.map uV)) (hn:ws.length<1000000) (stage:Int) (hs:stage=1∨stage=2) (frame:Int) (h0:0≤frame) (page:Nat) (hp:page≤4095):Fn Tryz.prog 206 [.agg #[v],.int .i64 stage,.int .i64 frame,.int .i64 (page:Int)].toArray w [] (fun u hn=>∃ v2 h2,u=.tuple #[RG (jq ws stage frame page).h,xQ (jq ws stage frame page).f,v2]∧Own 3 1 v2 h2 ((jq ws stage frame page).rd.map dN)∧aC h2 hn):=by
 obtain ⟨q,cap,rfl,hne,hle⟩:=h.opened
 refine enter Tryz.func206 ?_
 refine run ?_
 intro B C D E
 have e4:∀ f:Int,0≤f→decide (f ≥ ((ws.length / 8:Nat):Int))=!dM ws.length f:=fun f hf=>by
  rw [Bool.eq_iff_iff];simp [dM];omega
 refine cu (σ:=Nat × Int × Value × Hp × List Int × Int) (fun s=>[(13,.int .i64 (s.1:Int)),(2,.int .i64 s.2.1),(11,s.2.2.1)]) (fun s=>⟨E,#[.int .i64 0,.int .i64 stage,.int .i64 s.2.2.2.2.2,.bool false,.int .i64 (page:Int)],43⟩::⟨D,#[.int .i64 0,.int .i64 0,.int .i64 0,.bool false,.int .i64 0],43⟩::⟨C,#[.int .i64 0,.int .i64 0,.bool false,.bool false,.bool false,.bool false,.bool false,.int .i64 0,.int .i64 0],234⟩::⟨B,#[.slice q ws.length cap],24⟩::s.2.2.2.1) (fun s=>s.1<4∧0≤s.2.1∧s.2.2.2.2.1.length=s.1∧GI ws stage page (4 - s.1) s.1 s.2.1 s.2.2.2.2.1=jq ws stage frame page∧Acc 3 1 s.2.2.1 s.2.2.2.1 (s.2.2.2.2.1.map dN)) (fun s=>4 - s.1) (0,frame,.slice none 0 0,[],[],0) ⟨(by decide:0<4),h0,rfl,rfl,Acc.nil _ _⟩ ?_ (hh:=by exact aC.refl _)
 rintro ⟨level,f,v2,ha,rd,lv⟩ m hm ⟨hl,hf0,hrd,hwk,hA⟩
 dsimp only at hm hl hf0 hrd hwk hA ⊢
 obtain ⟨q2,cap2,rfl⟩:=hA.own.opened
 refine run ?_
 refine aj _ rfl (fun hc=>?_) (fun hc=>absurd hc au')
 refine run ?_
 refine ax (fun wc hG=>uP ws.length cap at7 q wc) ?_
 refine run ?_
 have h4:4 - level=(3 - level) + 1:=by omega
 rw [h4,GI] at hwk
 have e5:=e4 f hf0
 refine aj _ rfl (fun hc=>?_) (fun hc=>?_)
 ·have hh:dM ws.length f=false:=by simpa using e5.symm.trans hc
  rw [hh,cond_false] at hwk
  rw [← hwk]
  refine run ?_
  refine dI 5 3 [0,1,2] [3,4] (⟨E,#[.int .i64 1,.int .i64 stage,.int .i64 (level:Int),.bool false,.int .i64 (page:Int)],43⟩::⟨B,#[.slice q ws.length cap],24⟩::ha) ?_
  refine bY ?_
  refine aU (b:=C) (tb:=234) (cs:=#[.int .i64 0,.int .i64 0,.bool false,.bool false,.bool false,.bool false,.bool false,.int .i64 0,.int .i64 0]) (cs':=#[.int .i64 0,.int .i64 0,.bool false,.bool false,.bool false,.bool false,.bool false,.int .i64 0,.int .i64 0]) (hp':=⟨E,#[.int .i64 1,.int .i64 stage,.int .i64 (level:Int),.bool false,.int .i64 (page:Int)],43⟩::⟨D,#[.int .i64 0,.int .i64 0,.int .i64 0,.bool false,.int .i64 0],43⟩::⟨B,#[.slice q ws.length cap],24⟩::ha) ?_ au
  refine aU (b:=D) (tb:=43) (cs:=#[.int .i64 0,.int .i64 0,.int .i64 0,.bool false,.int .i64 0]) (cs':=#[.int .i64 1,.int .i64 stage,.int .i64 (level:Int),.bool false,.int .i64 (page:Int)]) (hp':=⟨C,#[.int .i64 0,.int .i64 0,.bool false,.bool false,.bool false,.bool false,.bool false,.int .i64 0,.int .i64 0],234⟩::⟨E,#[.int .i64 1,.int .i64 stage,.int .i64 (level:Int),.bool false,.int .i64 (page:Int)],43⟩::⟨B,#[.slice q ws.length cap],24⟩::ha) ?_ au
  refine aG ?_
  refine cO ?_
  refine run ?_
  exact y5 (cs:=#[.int .i64 0,.int .i64 0,.bool false,.bool false,.bool false,.bool false,.bool false,.int .i64 0,.int .i64 0]) (cs2:=#[.int .i64 1,.int .i64 stage,.int .i64 (level:Int),.bool false,.int .i64 (page:Int)]) ⟨_,ha,rfl,hA.own,by (exact ak)⟩
 ·have hh:dM ws.length f=true:=by simpa using e5.symm.trans hc
  rw [hh,cond_true] at hwk
  refine run ?_
  intro T
  refine jA (c:=dN f) (hp':=⟨T,#[.int .i64 f],3⟩::⟨E,#[.int .i64 0,.int .i64 stage,.int .i64 (level:Int),.bool false,.int .i64 (page:Int)],43⟩::⟨D,#[.int .i64 0,.int .i64 0,.int .i64 0,.bool false,.int .i64 0],43⟩::⟨C,#[.int .i64 0,.int .i64 0,.bool false,.bool false,.bool false,.bool false,.bool false,.int .i64 0,.int .i64 0],234⟩::[⟨B,#[.slice q ws.length cap],24⟩]) hA (fun v' ha' hA'=>?_) au' (bP (m:=1) mh rfl) (hperm:=by (exact au))
  rw [show rd.map dN++[dN f]=(rd++[f]).map dN by simp] at hA'
  obtain ⟨q3,cap3,rfl⟩:=hA'.own.opened
  refine aI (⟨E,#[.int .i64 0,.int .i64 stage,.int .i64 (level:Int),.bool false,.int .i64 (page:Int)],43⟩::⟨D,#[.int .i64 0,.int .i64 0,.int .i64 0,.bool false,.int .i64 0],43⟩::⟨C,#[.int .i64 0,.int .i64 0,.bool false,.bool false,.bool false,.bool false,.bool false,.int .i64 0,.int .i64 0],234⟩::⟨B,#[.slice q ws.length cap],24⟩::ha') ak ?_
  refine run ?_
  refine ax (fun wc hG=>Gx ws hw (h.good hG) stage hs level hl f hh page hp hn) ?_
  rw [show I7 stage level (ws.getD (rZ f level page) 0)=BI ws stage (rZ f level page) level from rfl]
  have hmay:=rG ws stage (rZ f level page) level
  generalize BI ws stage (rZ f level page) level=d at hwk hmay
  obtain ⟨hkk,hk0,hk1,hk2⟩:=jQ hmay
  refine run ?_
  intro X
  refine run ?_
  refine aj _ rfl (fun hc2=>?_) (fun hc2=>?_)
  ·have hd1:d.kind=1:=by simpa using hc2
   obtain ⟨k1,k2,k3,k4⟩:=hk1 hd1
   rw [hc2,cond_true] at hwk
   refine run ?_
   refine bI (level + 1,d.frame,.slice q3 ((rd++[f]).map dN).length cap3,ha',rd++[f],(level:Int)) ⟨by dsimp only;omega,k2,by simp [hrd],by rw [← hwk,show 4 - (level + 1)=3 - level by omega],hA'⟩ (hm:=by dsimp only;omega) (h2:=by (exact ak))
  rw [hc2,cond_false] at hwk
  refine run ?_
  refine aj _ rfl (fun hc3=>?_) (fun hc3=>?_)
  ·rw [rH,hc3,cond_true] at hwk
   rw [← hwk]
   refine run ?_
   refine dI 5 3 [0,1,2] [3,4] (⟨E,#[.int .i64 2,.int .i64 stage,.int .i64 (level:Int),.bool false,.int .i64 (page:Int)],43⟩::⟨X,#[.int .i64 d.kind,.int .i64 d.frame,.bool d.r,.bool d.w,.bool d.x,.bool d.af,.bool d.ng,.int .i64 d.soft,.int .i64 d.note],258⟩::⟨B,#[.slice q ws.length cap],24⟩::ha') ?_
   refine bY ?_
   refine aU (b:=C) (tb:=234) (cs:=#[.int .i64 0,.int .i64 0,.bool false,.bool false,.bool false,.bool false,.bool false,.int .i64 0,.int .i64 0]) (cs':=#[.int .i64 0,.int .i64 0,.bool false,.bool false,.bool false,.bool false,.bool false,.int .i64 0,.int .i64 0]) (hp':=⟨E,#[.int .i64 2,.int .i64 stage,.int .i64 (level:Int),.bool false,.int .i64 (page:Int)],43⟩::⟨D,#[.int .i64 0,.int .i64 0,.int .i64 0,.bool false,.int .i64 0],43⟩::⟨X,#[.int .i64 d.kind,.int .i64 d.frame,.bool d.r,.bool d.w,.bool d.x,.bool d.af,.bool d.ng,.int .i64 d.soft,.int .i64 d.note],258⟩::⟨B,#[.slice q ws.length cap],24⟩::ha') ?_ au
   refine aU (b:=D) (tb:=43) (cs:=#[.int .i64 0,.int .i64 0,.int .i64 0,.bool false,.int .i64 0]) (cs':=#[.int .i64 2,.int .i64 stage,.int .i64 (level:Int),.bool false,.int .i64 (page:Int)]) (hp':=⟨C,#[.int .i64 0,.int .i64 0,.bool false,.bool false,.bool false,.bool false,.bool false,.int .i64 0,.int .i64 0],234⟩::⟨E,#[.int .i64 2,.int .i64 stage,.int .i64 (level:Int),.bool false,.int .i64 (page:Int)],43⟩::⟨X,#[.int .i64 d.kind,.int .i64 d.frame,.bool d.r,.bool d.w,.bool d.x,.bool d.af,.bool d.ng,.int .i64 d.soft,.int .i64 d.note],258⟩::⟨B,#[.slice q ws.length cap],24⟩::ha') ?_ au
   refine aG ?_
   refine cO ?_
   refine run ?_
   exact y5 (cs:=#[.int .i64 0,.int .i64 0,.bool false,.bool false,.bool false,.bool false,.bool false,.int .i64 0,.int .i64 0]) (cs2:=#[.int .i64 2,.int .i64 stage,.int .i64 (level:Int),.bool false,.int .i64 (page:Int)]) ⟨_,ha',rfl,hA'.own,by (exact ak)⟩
  have hd2:d.kind=2:=by simp at hc2 hc3;omega
  obtain ⟨k1,k2,k3,k4,k5⟩:=hk2 hd2
  have hcv:=ja hl
  have hmod:=Nat.mod_lt page (show 0<aO level by omega)
  rw [rH,hc3,cond_false] at hwk
  refine run ?_
  refine eG ?_
  refine bW ?_
  refine jU (fun wc hG=>qA level hl wc) ?_
  refine qf (iG rfl rfl page (aO level) rfl rfl at7) ?_
  refine bW ?_
  refine run ?_
  have e6:=e4 (d.frame + ((page % aO level:Nat):Int)) at7
  refine ax (fun wc hG=>uP ws.length cap at7 q wc) ?_
  refine run ?_
  refine aj _ rfl (fun hc4=>?_) (fun hc4=>?_)
  ·have hh2:dM ws.length (d.frame + ((page % aO level:Nat):Int))=false:=by simpa using e6.symm.trans hc4
   rw [hh2,cond_false] at hwk
   rw [← hwk]
   refine run ?_
   refine dI 5 3 [0,1,2] [3,4] (⟨E,#[.int .i64 1,.int .i64 stage,.int .i64 (level:Int),.bool false,.int .i64 (page:Int)],43⟩::⟨X,#[.int .i64 d.kind,.int .i64 d.frame,.bool d.r,.bool d.w,.bool d.x,.bool d.af,.bool d.ng,.int .i64 d.soft,.int .i64 d.note],258⟩::⟨B,#[.slice q ws.length cap],24⟩::ha') ?_
   refine bY ?_
   refine aU (b:=C) (tb:=234) (cs:=#[.int .i64 0,.int .i64 0,.bool false,.bool false,.bool false,.bool false,.bool false,.int .i64 0,.int .i64 0]) (cs':=#[.int .i64 0,.int .i64 0,.bool false,.bool false,.bool false,.bool false,.bool false,.int .i64 0,.int .i64 0]) (hp':=⟨E,#[.int .i64 1,.int .i64 stage,.int .i64 (level:Int),.bool false,.int .i64 (page:Int)],43⟩::⟨D,#[.int .i64 0,.int .i64 0,.int .i64 0,.bool false,.int .i64 0],43⟩::⟨X,#[.int .i64 d.kind,.int .i64 d.frame,.bool d.r,.bool d.w,.bool d.x,.bool d.af,.bool d.ng,.int .i64 d.soft,.int .i64 d.note],258⟩::⟨B,#[.slice q ws.length cap],24⟩::ha') ?_ au
   refine aU (b:=D) (tb:=43) (cs:=#[.int .i64 0,.int .i64 0,.int .i64 0,.bool false,.int .i64 0]) (cs':=#[.int .i64 1,.int .i64 stage,.int .i64 (level:Int),.bool false,.int .i64 (page:Int)]) (hp':=⟨C,#[.int .i64 0,.int .i64 0,.bool false,.bool false,.bool false,.bool false,.bool false,.int .i64 0,.int .i64 0],234⟩::⟨E,#[.int .i64 1,.int .i64 stage,.int .i64 (level:Int),.bool false,.int .i64 (page:Int)],43⟩::⟨X,#[.int .i64 d.kind,.int .i64 d.frame,.bool d.r,.bool d.w,.bool d.x,.bool d.af,.bool d.ng,.int .i64 d.soft,.int .i64 d.note],258⟩::⟨B,#[.slice q ws.length cap],24⟩::ha') ?_ au
   refine aG ?_
   refine cO ?_
   refine run ?_
   exact y5 (cs:=#[.int .i64 0,.int .i64 0,.bool false,.bool false,.bool false,.bool false,.bool false,.int .i64 0,.int .i64 0]) (cs2:=#[.int .i64 1,.int .i64 stage,.int .i64 (level:Int),.bool false,.int .i64 (page:Int)]) ⟨_,ha',rfl,hA'.own,by (exact ak)⟩
  have hh2:dM ws.length (d.frame + ((page % aO level:Nat):Int))=true:=by simpa using e6.symm.trans hc4
  rw [hh2,cond_true] at hwk
  rw [← hwk]
  refine run ?_
  exact y5 (cs:=#[.int .i64 (d.frame + ((page % aO level:Nat):Int)),.int .i64 0,.bool d.r,.bool d.w,.bool d.x,.bool d.af,.bool d.ng,.int .i64 d.soft,.int .i64 (level:Int)]) (cs2:=#[.int .i64 0,.int .i64 0,.int .i64 0,.bool false,.int .i64 0]) ⟨_,ha',rfl,hA'.own,by (exact ak)⟩
theorem Xf (ws:List Nat) (hw:uy ws) {w:World} {v:Value} (h:aB w v 1 (ws.map uV)) (hn:ws.length<1000000) (on:Bool) (frame tag:Int) (h0:0≤frame) (mid:Nat) (hp:mid≤4095) (acc:Int):Fn Tryz.prog 181 [.agg #[v],.agg #[.bool on,.int .i64 frame,.int .i64 tag],.int .i64 (mid:Int),.int .i64 acc].toArray w [] (fun u hn=>∃ v2 h2,u=.tuple #[RG (ji ws on frame mid acc).h,xQ (ji ws on frame mid acc).f,v2]∧Own 3 1 v2 h2 ((ji ws on frame mid acc).rd.map dN)∧aC h2 hn):=by
 obtain ⟨q,cap,rfl,hne,hle⟩:=h.opened
 refine enter Tryz.func181 ?_
 refine run ?_
 intro B R C D
 refine aj _ rfl (fun hc=>?_) (fun hc=>?_)
 ·simp only [ji,hc,cond_true]
  refine run ?_
  refine ax (fun wc hG=>uP ws.length cap at7 q wc) ?_
  refine run ?_
  have e6:decide ((mid:Int) ≥ ((ws.length / 8:Nat):Int))=!dM ws.length (mid:Int):=by
   rw [Bool.eq_iff_iff];simp [dM]
  refine aj _ rfl (fun hc2=>?_) (fun hc2=>?_)
  ·have hh2:dM ws.length (mid:Int)=false:=by simpa using e6.symm.trans hc2
   rw [hh2,cond_false]
   refine run ?_
   exact y5 (cs:=#[.int .i64 0,.int .i64 0,.bool false,.bool false,.bool false,.bool false,.bool false,.int .i64 0,.int .i64 0]) (cs2:=#[.int .i64 1,.int .i64 2,.int .i64 0,.bool false,.int .i64 (mid:Int)]) ⟨_,[],rfl,Own.nil _ _,trivial⟩
  have hh2:dM ws.length (mid:Int)=true:=by simpa using e6.symm.trans hc2
  rw [hh2,cond_true]
  refine run ?_
  exact y5 (cs:=#[.int .i64 (mid:Int),.int .i64 (mid:Int),.bool true,.bool true,.bool true,.bool true,.bool false,.int .i64 0,.int .i64 0]) (cs2:=#[.int .i64 0,.int .i64 0,.int .i64 0,.bool false,.int .i64 0]) ⟨_,[],rfl,Own.nil _ _,trivial⟩
 simp only [ji,hc,cond_false]
 refine run ?_
 refine gY (fun wc hG=>Ua ws hw (h.good hG) hn 2 (.inr rfl) frame h0 mid hp) ?_
 rintro u hn2 ⟨v2,h2,rfl,hO,hle2⟩
 generalize jq ws 2 frame mid=W at hO
 obtain ⟨q2,cap2,rfl⟩:=hO.opened
 refine aI (⟨D,#[.int .i64 0,.int .i64 0,.int .i64 0,.bool false,.int .i64 0],43⟩::⟨C,#[.int .i64 0,.int .i64 0,.bool false,.bool false,.bool false,.bool false,.bool false,.int .i64 0,.int .i64 0],234⟩::⟨R,#[.bool on,.int .i64 frame,.int .i64 tag],33⟩::⟨B,#[.slice q ws.length cap],24⟩::h2) (cnt1 hle2) ?_
 refine run ?_
 intro H F
 refine dW (σ:=mW) (fun _=>[]) (fun g=>⟨F,#[.int .i64 g.kind,.int .i64 g.stage,.int .i64 g.level,.bool g.walk,.int .i64 g.page],43⟩::⟨H,#[.int .i64 W.h.frame,.int .i64 W.h.mid,.bool W.h.r,.bool W.h.w,.bool W.h.x,.bool W.h.af,.bool W.h.ng,.int .i64 W.h.soft,.int .i64 W.h.level],234⟩::⟨D,#[.int .i64 0,.int .i64 0,.int .i64 0,.bool false,.int .i64 0],43⟩::⟨C,#[.int .i64 0,.int .i64 0,.bool false,.bool false,.bool false,.bool false,.bool false,.int .i64 0,.int .i64 0],234⟩::⟨R,#[.bool on,.int .i64 frame,.int .i64 tag],33⟩::⟨B,#[.slice q ws.length cap],24⟩::h2) (fun g=>g=uZ W mid acc) ?_ ?_
 ·refine aj _ rfl (fun hc2=>?_) (fun hc2=>?_)
  ·refine run ?_
   refine ax (fun wc hG=>Kq W.h.r W.h.w W.h.x W.h.af W.h.ng W.h.soft acc 2 W.h.level mid wc) ?_
   refine run ?_
   exact dA (gJ W.h.r W.h.w W.h.x W.h.af acc 2 W.h.level mid) (by simp only [uZ,hc2,cond_true])
  ·refine run ?_
   exact dA W.f (by simp only [uZ,hc2,cond_false])
 rintro g hg
 simp only [Jj]
 rw [← hg]
 refine run ?_
 refine aj _ rfl (fun hc3=>?_) (fun hc3=>?_)
 ·rw [hc3,cond_true]
  refine run ?_
  refine dI 5 3 [0,1,2] [3,4] (⟨F,#[.int .i64 g.kind,.int .i64 g.stage,.int .i64 g.level,.bool g.walk,.int .i64 g.page],43⟩::⟨H,#[.int .i64 W.h.frame,.int .i64 W.h.mid,.bool W.h.r,.bool W.h.w,.bool W.h.x,.bool W.h.af,.bool W.h.ng,.int .i64 W.h.soft,.int .i64 W.h.level],234⟩::⟨R,#[.bool on,.int .i64 frame,.int .i64 tag],33⟩::⟨B,#[.slice q ws.length cap],24⟩::h2) ?_
  refine bY ?_
  refine aU (b:=C) (tb:=234) (cs:=#[.int .i64 0,.int .i64 0,.bool false,.bool false,.bool false,.bool false,.bool false,.int .i64 0,.int .i64 0]) (cs':=#[.int .i64 0,.int .i64 0,.bool false,.bool false,.bool false,.bool false,.bool false,.int .i64 0,.int .i64 0]) (hp':=⟨F,#[.int .i64 g.kind,.int .i64 g.stage,.int .i64 g.level,.bool g.walk,.int .i64 g.page],43⟩::⟨H,#[.int .i64 W.h.frame,.int .i64 W.h.mid,.bool W.h.r,.bool W.h.w,.bool W.h.x,.bool W.h.af,.bool W.h.ng,.int .i64 W.h.soft,.int .i64 W.h.level],234⟩::⟨D,#[.int .i64 0,.int .i64 0,.int .i64 0,.bool false,.int .i64 0],43⟩::⟨R,#[.bool on,.int .i64 frame,.int .i64 tag],33⟩::⟨B,#[.slice q ws.length cap],24⟩::h2) ?_ au
  refine aU (b:=D) (tb:=43) (cs:=#[.int .i64 0,.int .i64 0,.int .i64 0,.bool false,.int .i64 0]) (cs':=#[.int .i64 g.kind,.int .i64 g.stage,.int .i64 g.level,.bool g.walk,.int .i64 g.page]) (hp':=⟨C,#[.int .i64 0,.int .i64 0,.bool false,.bool false,.bool false,.bool false,.bool false,.int .i64 0,.int .i64 0],234⟩::⟨F,#[.int .i64 g.kind,.int .i64 g.stage,.int .i64 g.level,.bool g.walk,.int .i64 g.page],43⟩::⟨H,#[.int .i64 W.h.frame,.int .i64 W.h.mid,.bool W.h.r,.bool W.h.w,.bool W.h.x,.bool W.h.af,.bool W.h.ng,.int .i64 W.h.soft,.int .i64 W.h.level],234⟩::⟨R,#[.bool on,.int .i64 frame,.int .i64 tag],33⟩::⟨B,#[.slice q ws.length cap],24⟩::h2) ?_ au
  refine aG ?_
  refine cO ?_
  refine run ?_
  exact y5 (cs:=#[.int .i64 0,.int .i64 0,.bool false,.bool false,.bool false,.bool false,.bool false,.int .i64 0,.int .i64 0]) (cs2:=#[.int .i64 g.kind,.int .i64 g.stage,.int .i64 g.level,.bool g.walk,.int .i64 g.page]) ⟨_,h2,rfl,hO,by (exact ak)⟩
 rw [hc3,cond_false]
 refine run ?_
 refine dI 5 3 [0,1,2] [3,4] (⟨F,#[.int .i64 g.kind,.int .i64 g.stage,.int .i64 g.level,.bool g.walk,.int .i64 g.page],43⟩::⟨H,#[.int .i64 W.h.frame,.int .i64 (mid:Int),.bool W.h.r,.bool W.h.w,.bool W.h.x,.bool W.h.af,.bool W.h.ng,.int .i64 W.h.soft,.int .i64 W.h.level],234⟩::⟨R,#[.bool on,.int .i64 frame,.int .i64 tag],33⟩::⟨B,#[.slice q ws.length cap],24⟩::h2) ?_
 refine bY ?_
 refine aU (b:=C) (tb:=234) (cs:=#[.int .i64 0,.int .i64 0,.bool false,.bool false,.bool false,.bool false,.bool false,.int .i64 0,.int .i64 0]) (cs':=#[.int .i64 W.h.frame,.int .i64 (mid:Int),.bool W.h.r,.bool W.h.w,.bool W.h.x,.bool W.h.af,.bool W.h.ng,.int .i64 W.h.soft,.int .i64 W.h.level]) (hp':=⟨F,#[.int .i64 g.kind,.int .i64 g.stage,.int .i64 g.level,.bool g.walk,.int .i64 g.page],43⟩::⟨H,#[.int .i64 W.h.frame,.int .i64 (mid:Int),.bool W.h.r,.bool W.h.w,.bool W.h.x,.bool W.h.af,.bool W.h.ng,.int .i64 W.h.soft,.int .i64 W.h.level],234⟩::⟨D,#[.int .i64 0,.int .i64 0,.int .i64 0,.bool false,.int .i64 0],43⟩::⟨R,#[.bool on,.int .i64 frame,.int .i64 tag],33⟩::⟨B,#[.slice q ws.length cap],24⟩::h2) ?_ au
 refine aU (b:=D) (tb:=43) (cs:=#[.int .i64 0,.int .i64 0,.int .i64 0,.bool false,.int .i64 0]) (cs':=#[.int .i64 g.kind,.int .i64 g.stage,.int .i64 g.level,.bool g.walk,.int .i64 g.page]) (hp':=⟨C,#[.int .i64 W.h.frame,.int .i64 (mid:Int),.bool W.h.r,.bool W.h.w,.bool W.h.x,.bool W.h.af,.bool W.h.ng,.int .i64 W.h.soft,.int .i64 W.h.level],234⟩::⟨F,#[.int .i64 g.kind,.int .i64 g.stage,.int .i64 g.level,.bool g.walk,.int .i64 g.page],43⟩::⟨H,#[.int .i64 W.h.frame,.int .i64 (mid:Int),.bool W.h.r,.bool W.h.w,.bool W.h.x,.bool W.h.af,.bool W.h.ng,.int .i64 W.h.soft,.int .i64 W.h.level],234⟩::⟨R,#[.bool on,.int .i64 frame,.int .i64 tag],33⟩::⟨B,#[.slice q ws.length cap],24⟩::h2) ?_ au
 refine aG ?_
 refine cO ?_
 refine run ?_
 exact y5 (cs:=#[.int .i64 W.h.frame,.int .i64 (mid:Int),.bool W.h.r,.bool W.h.w,.bool W.h.x,.bool W.h.af,.bool W.h.ng,.int .i64 W.h.soft,.int .i64 W.h.level]) (cs2:=#[.int .i64 g.kind,.int .i64 g.stage,.int .i64 g.level,.bool g.walk,.int .i64 g.page]) ⟨_,h2,rfl,hO,by (exact ak)⟩
end
section
section
variable {P : Program} {T : Tab} {n : Nat} {w0 : World} {mu : List Nat} {l : Fm} {hp : Hp} {Q : Exit → Fm → Hp → Prop} {all : Array Oper} {rest : List Oper} {ty : TypeId} {pos : String} {af : Array Edge}
theorem CW (ok:aY P T) {t d e sz k cap c:Nat} {p q:Option Addr} {x y:Operand} {z:Value} (hd:Nat.blt d n=true) (hx:ev l x=some (.slice p k cap)) (hle:k≤cap) (hy:ev l y=some (.slice q 0 c)) (ht:lk T.sl t=some (e,sz)) (hz:lk T.zs e=some z)
  (h:Ops P n w0 mu all rest ((d,.slice p k cap)::l) hp Q):Ops P n w0 mu all (⟨some d,.call { callee:=.builtin .append,args:=#[x,y],argTypes:=#[t,t] },ty,pos,af,none⟩::rest) l hp Q:=by
 intro ac w hk hG
 have hput:∀ v,Knows n ((d,v)::l) (ac.put (some d) v):=fun v=>Knows.put (d:=some d) hk (fun t ht=>by cases ht;simpa using hd) v
 obtain ⟨hu,hsz⟩:=ok.zu ht
 refine wpList_plain rfl fun K hK=>?_
 have hr:(Builtin.append_ #[t,t] ty #[.slice p k cap,.slice q 0 c]).run P w=.ok (.slice p k cap) w:=by
  cases p<;>cases q<;>simp [Builtin.append_,run_underlying hu,run_sizeOf hsz w,Builtin.lenOf,Builtin.firstCells,hle,storeCells,loadCells,loadCellsFrom]
 unfold Oper.wp execOp
 simp only [resolve,invoke,builtin,Sem.run_bind,Sem.run_pure,Result.andThen_ok,List.map_toArray,List.map_cons,List.map_nil,hk.ev hx,hk.ev hy,hr]
 exact hK _ _ (h _ _ (hput _) hG)
end
section
variable {n : Nat} {w0 : World} {mu : List Nat} {l : Fm} {hp : Hp} {Q : Exit → Fm → Hp → Prop} {all : Array Oper} {rest : List Oper} {ty : TypeId} {pos : String} {af : Array Edge}
def uz (w0:World) (mu:List Nat) (hp:Hp) (v:Value) (ys:List (List Value)):Prop:=∃ q c,v=.slice q ys.length c∧(ys=[]∨∃ a o,q=some ⟨a,o,none⟩∧lH w0 mu hp a o ys.flatten)
theorem uz.own {e sz:Nat} {v:Value} {ha:Hp} {ys:List (List Value)} (hA:Own e sz v ha ys) (hm:aC ha hp):uz w0 mu hp v ys:=by
 rcases hA.2 with ⟨rfl,rfl,rfl⟩ | ⟨g,cap,cur,rfl,rfl,hrow⟩
 ·exact ⟨_,_,rfl,.inl rfl⟩
 ·refine ⟨_,_,rfl,.inr ⟨g,0,rfl,?_⟩⟩
  have hb:(⟨g,cur,e⟩:aH)∈hp:=by
   obtain ⟨x,hx,_⟩:=hm
   exact hx.mem_iff.1 (List.mem_cons_self ..)
  refine bP (m:=ys.length * sz) hb ?_
  rw [List.drop_zero];exact hrow.take
theorem uz.old {sz:Nat} {w0:World} {hp:Hp} {v:Value} {α:Type} {f:α→List Value} {ys:List α} (h:aB w0 v sz (ys.map f)) (hall:∀ c∈ys.map f,c.length=sz):uz w0 [] hp v (ys.map f):=by
 obtain ⟨⟨p,c,rfl,hne⟩,_⟩:=h
 refine ⟨p,c,rfl,?_⟩
 by_cases h0:ys.map f=[]
 ·exact .inl h0
 ·obtain ⟨b,o,rfl,hr⟩:=hne h0
  exact .inr ⟨b,o,rfl,FV (vz _ o hall hr) au3⟩
theorem aB.Y9 {w:World} {α:Type} {f:α→List Value} {p:Option Addr} {n c i sz:Nat} {xs:List α} (h:aB w (.slice p n c) sz (xs.map f)) (hn:n=xs.length) (hc:n≤c) (hi:i≤n):∃ p',sliced p i n c sz=.slice p' (xs.drop i).length (c - i)∧(xs.drop i).length≤c - i∧aB w (.slice p' (xs.drop i).length (c - i)) sz ((xs.drop i).map f):=by
 subst hn
 obtain ⟨⟨q,cap,e,hne⟩,hle⟩:=h
 injection e with e1 e2 e3
 subst e1 e3
 have hdl:(xs.drop i).length=xs.length - i:=List.length_drop
 refine ⟨_,by unfold sliced;rw [hdl],by omega,⟨⟨_,_,by rw [List.length_map],fun hx=>?_⟩,by rw [List.length_map] at hle ⊢;omega⟩⟩
 have hlt:i<xs.length:=by
  rcases Nat.lt_or_ge i xs.length with h | h
  ·exact h
  ·rw [List.drop_eq_nil_of_le h] at hx;exact absurd rfl hx
 obtain ⟨b,o,rfl,hr⟩:=hne (by intro e;simp at e;subst e;simp at hlt)
 refine ⟨b,o + i * sz,?_,fun j cc hj=>?_⟩
 ·rw [if_neg at7];simp [lY]
 ·rw [List.map_drop,List.getElem?_drop] at hj
  have:=hr (i + j) cc hj
  rwa [Nat.add_mul,← Nat.add_assoc] at this
theorem pG {t d e sz jD:Nat} {x y:Operand} {z v yv:Value} {ha:Hp} {xs:List (List Value)} (ys:List (List Value)) (hp':Hp) (hA:Own e sz v ha xs) (hS:uz w0 mu hp yv ys) (h:∀ v' ha',Own e sz v' ha' (xs++ys)→Ops Tryz.prog n w0 mu all rest ((d,v')::l) (ha'++hp') Q) (h63:xs.length + ys.length<1000000) (hall:∀ c∈ys,c.length=sz∧c.all (·.oneCell')=true)
  (hperm:(ha++hp').Perm hp) (hd:Nat.blt d n=true:=by rfl) (hx:ev l x=some v:=by rfl) (hy:ev l y=some yv:=by rfl) (ht:lk Tb.sl t=some (e,sz):=by rfl)
  (hz:lk Tb.zs e=some z:=by rfl) (hzs:z.cells.size=sz:=by rfl) (hb:lk Tb.eb e=some jD:=by rfl) (hby:Nat.ble jD 4096=true:=by rfl):Ops Tryz.prog n w0 mu all (⟨some d,.call { callee:=.builtin .append,args:=#[x,y],argTypes:=#[t,t] },ty,pos,af,none⟩::rest) l hp Q:=by
 have uU:jD≤4096:=Nat.le_of_ble_eq_true hby
 have hfl:=dF ys (fun c hc=>(hall c hc).1)
 obtain ⟨q,c,rfl,hsrc⟩:=hS
 have VK:∀ c∈xs++ys,c.length=sz∧c.all (·.oneCell')=true:=fun c hc=>by
  rcases List.mem_append.1 hc with hc | hc
  ·exact hA.1 c hc
  ·exact hall c hc
 by_cases h0:ys=[]
 ·subst h0
  rw [List.append_nil] at h
  have hsh:∃ p cap,v=.slice p xs.length cap∧xs.length≤cap:=by
   rcases hA.2 with ⟨rfl,rfl,rfl⟩ | ⟨g,cap,cur,rfl,rfl,hrow⟩
   ·exact ⟨_,_,rfl,Nat.le_refl _⟩
   ·exact ⟨_,_,rfl,hrow.le⟩
  obtain ⟨p,cap,rfl,hle⟩:=hsh
  refine CW ay hd hx hle hy ht hz ?_
  exact jl _ hperm (h _ ha hA)
 ·obtain ⟨a,o,rfl,hnews⟩:=hsrc.resolve_left h0
  have hpos:0<ys.length:=List.length_pos_iff.2 h0
  rcases hA.2 with ⟨rfl,rfl,rfl⟩ | ⟨g,cap,cur,rfl,rfl,hrow⟩
  ·refine yA ay hd hx hy ht hz hzs hb hpos hfl hnews (by simp at h63;omega) ?_ fun g cap cur hr=>?_
   ·calc _≤1000000 * jD:=Nat.mul_le_mul_right _ (by simp at h63;omega)
     _≤1000000 * 4096:=Nat.mul_le_mul_left _ uU
     _≤_:=by decide
   ·have:=h (.slice (some ⟨g,0,none⟩) ys.length cap) [⟨g,cur,e⟩] ⟨VK,.inr ⟨g,cap,cur,rfl,rfl,by simpa using hr⟩⟩
    refine jl _ ?_ this
    exact (hperm.cons _:(⟨g,cur,e⟩::([]++hp')).Perm (⟨g,cur,e⟩::hp))
  ·refine qw ay hd hx hy ht hz hzs hb hperm hrow (news:=ys.flatten) hfl hnews ?_ at7 ?_ fun g cap cur hr=>?_
   ·rw [List.all_flatten,List.all_eq_true]
    exact fun c hc=>(hall c hc).2
   ·have h2:(xs.length + ys.length + (xs.length + ys.length) / 4 + 192)≤2000000:=by omega
    calc _≤2000000 * jD:=Nat.mul_le_mul_right _ h2
     _≤2000000 * 4096:=Nat.mul_le_mul_left _ uU
     _≤_:=by decide
   ·have:=h (.slice (some ⟨g,0,none⟩) (xs.length + ys.length) cap) [⟨g,cur,e⟩] ⟨VK,.inr ⟨g,cap,cur,by rw [List.length_append],rfl,by rw [List.length_append,List.flatten_append];exact hr⟩⟩
    exact this
end
end
def bf.Xg (e:bf) (V A:Int):Bool:=decide (e.jh=V) && (e.all || decide (e.jW=A))
def bf.lets (e:bf) (acc:Int):Bool:=uY e.r e.w e.x acc
def jX (V A P acc:Int) (e:bf):Bool:=decide (e.kind=1) && e.Xg V A && decide (e.page=P) && e.lets acc
def rJ (V P acc:Int) (e:bf):Bool:=decide (e.kind=2) && decide (e.jh=V) && decide (e.page=P) && e.lets acc
def nZ (V A:Int) (P:Nat) (e:bf):Bool:=decide (e.kind=3) && e.Xg V A && decide (e.page=((kH (e.level.toNat - 1) P:Nat):Int))
def eH (es:List bf) (q:bf→Bool):Nat→Int
 | 0=>-1
 | k + 1=>bif q (es.getD k default) && (decide (eH es q k<0) || decide ((es.getD (eH es q k).toNat default).level<(es.getD k default).level)) then (k:Int) else eH es q k
theorem uA {es:List bf} {q:bf→Bool}:∀ k,-1≤eH es q k∧eH es q k<(k:Int):=by
 intro k
 induction k with
 | zero=>rw [eH];omega
 | succ k ih=>
  rw [eH]
  cases (q (es.getD k default) && (decide (eH es q k<0) || decide ((es.getD (eH es q k).toNat default).level<(es.getD k default).level))) with
  | true=>rw [cond_true];omega
  | false=>rw [cond_false];omega
def fF (es:List bf) (e:bf):List bf:=bif !(es.any fun t=>decide (t=e)) && decide (es.length<8) then es++[e] else es
section
attribute [local irreducible] Hy St Ops DH gq iK iD fQ DS fB
theorem vF {w:World} (xs:List bf) (v:Value) (h:aB w v 14 (xs.map bG)) (hl:xs.length<1000000):Fn Tryz.prog 58 [v].toArray w [] (fun u hp=>Acc 114 14 u hp (xs.map bG)):=by
 obtain ⟨q,cap,rfl,hne,hle⟩:=h.opened
 refine enter Tryz.func58 ?_
 refine run ?_
 refine cu (σ:=Nat × Value × Hp) (fun s=>[(3,s.2.1),(4,.int .i64 (s.1:Int))]) (fun s=>s.2.2) (fun s=>s.1≤xs.length∧Acc 114 14 s.2.1 s.2.2 ((xs.take s.1).map bG)) (fun s=>xs.length - s.1) (0,_,[]) ⟨by omega,Acc.nil _ _⟩ ?_
 rintro ⟨k,v,ha⟩ m hm ⟨hk,hA⟩
 dsimp only at hm hk hA ⊢
 refine run ?_
 refine aj _ rfl (fun hc=>?_) (fun hc=>?_)
 ·have hlt:k<xs.length:=by simp at hc;omega
  obtain ⟨b,o,rfl⟩:=hne au4
  have h1:=(h.row hlt)
  refine run ?_
  intro T
  refine jA (c:=bG (xs.getD k default)) hA (fun v' ha' hA'=>?_) au' (bP (m:=14) mh rfl)
  refine run ?_
  refine bI (k + 1,v',ha') ⟨hlt,?_⟩
  dsimp only
  rw [gz hlt,List.map_append]
  exact hA'
 ·have:k=xs.length:=by simp at hc;omega
  subst this
  refine run ?_
  refine fin1 ?_
  simpa using hA
theorem rM {w:World} (xs:List dh) (v:Value) (h:aB w v 4 (xs.map dG)) (hl:xs.length<1000000):Fn Tryz.prog 59 [v].toArray w [] (fun u hp=>Acc 121 4 u hp (xs.map dG)):=by
 obtain ⟨q,cap,rfl,hne,hle⟩:=h.opened
 refine enter Tryz.func59 ?_
 refine run ?_
 refine cu (σ:=Nat × Value × Hp) (fun s=>[(3,s.2.1),(4,.int .i64 (s.1:Int))]) (fun s=>s.2.2) (fun s=>s.1≤xs.length∧Acc 121 4 s.2.1 s.2.2 ((xs.take s.1).map dG)) (fun s=>xs.length - s.1) (0,_,[]) ⟨by omega,Acc.nil _ _⟩ ?_
 rintro ⟨k,v,ha⟩ m hm ⟨hk,hA⟩
 dsimp only at hm hk hA ⊢
 refine run ?_
 refine aj _ rfl (fun hc=>?_) (fun hc=>?_)
 ·have hlt:k<xs.length:=by simp at hc;omega
  obtain ⟨b,o,rfl⟩:=hne au4
  have h1:=(h.row hlt)
  refine run ?_
  intro T
  refine jA (c:=dG (xs.getD k default)) hA (fun v' ha' hA'=>?_) au' (bP (m:=4) mh rfl)
  refine run ?_
  refine bI (k + 1,v',ha') ⟨hlt,?_⟩
  dsimp only
  rw [gz hlt,List.map_append]
  exact hA'
 ·have:k=xs.length:=by simp at hc;omega
  subst this
  refine run ?_
  refine fin1 ?_
  simpa using hA
theorem uQ {w:World} (es:List bf) (ds:List dh) (v u:Value) (h:aB w v 14 (es.map bG)) (hd:aB w u 4 (ds.map dG)) (hl:es.length<1000000) (hl2:ds.length<1000000):Fn Tryz.prog 36 [.agg #[v,u]].toArray w [] (fun r hn=>∃ v1 h1 v2 h2,r=.agg #[v1,v2]∧Acc 114 14 v1 h1 (es.map bG)∧Acc 121 4 v2 h2 (ds.map dG)∧aC (h1++h2) hn):=by
 have h':=h
 have hd':=hd
 obtain ⟨q,cap,rfl,_,_⟩:=h.opened
 obtain ⟨q2,cap2,rfl,_,_⟩:=hd.opened
 refine enter Tryz.func36 ?_
 refine run ?_
 intro B R X
 refine run ?_
 refine gY (fun wc hG=>vF es _ (h'.good hG) hl) (fun v1 h1 hA=>?_)
 obtain ⟨q3,c3,e3⟩:=hA.own.opened
 rw [List.length_map] at e3
 subst e3
 refine jl (_++h1) List.perm_append_comm ?_
 simp only [List.cons_append,List.nil_append]
 refine run ?_
 refine gY (fun wc hG=>rM ds _ (hd'.good hG) hl2) (fun v2 h2 hA2=>?_)
 obtain ⟨q4,c4,e4⟩:=hA2.own.opened
 rw [List.length_map] at e4
 subst e4
 refine jl (_++h2) List.perm_append_comm ?_
 simp only [List.cons_append,List.nil_append]
 refine run ?_
 exact gI (cs:=#[.slice q3 es.length c3,.slice q4 ds.length c4]) ⟨_,h1,_,h2,rfl,hA,hA2,by (exact ak)⟩
theorem VL (e:bf) (V A:Int) (w:World):Fn Tryz.prog 184 [.agg (bG e).toArray,.int .i64 V,.int .i64 A].toArray w [] (fun u _=>u=.bool (e.Xg V A)):=by
 refine enter Tryz.func184 ?_
 refine az ?_
 intro B
 exact fin1 rfl
theorem Qi {w:World} (es:List bf) (V A P acc:Int) (v u:Value) (h:aB w v 14 (es.map bG)) (hu:∃ p n c,u=.slice p n c):Fn Tryz.prog 154 [.agg #[v,u],.int .i64 V,.int .i64 A,.int .i64 P,.int .i64 acc].toArray w [] (fun r _=>r=.int .i64 (fJ (jX V A P acc) es)):=by
 obtain ⟨q,cap,rfl,hne,hle⟩:=h.opened
 obtain ⟨q2,n2,c2,rfl⟩:=hu
 refine enter Tryz.func154 ?_
 refine run ?_
 intro B
 refine cu (σ:=Nat) (fun k=>[(11,.int .i64 (k:Int))]) (fun _=>[⟨B,#[.slice q es.length cap,.slice q2 n2 c2],77⟩]) (fun k=>k≤es.length∧∀ j,j<k→jX V A P acc (es.getD j default)=false) (fun k=>es.length - k) 0 ⟨Nat.zero_le _,fun j hj=>absurd hj at7⟩ ?_
 rintro k m hm ⟨hk,hno⟩
 refine run ?_
 refine aj _ rfl (fun hc=>?_) (fun hc=>?_)
 ·have hlt:k<es.length:=by simp at hc;omega
  obtain ⟨b,o,rfl⟩:=hne au4
  have hr:=h.row hlt
  generalize hge:es.getD k default=e at hr
  refine run ?_
  intro X
  refine az ?_
  refine aZ (fun _ wc hG=>VL e V A wc) ?_
  refine az ?_
  refine aZ (fun _ wc hG=>Ew e.r e.w e.x e.af e.ng e.soft acc wc) ?_
  refine az ?_
  refine aj _ rfl (fun hp=>?_) (fun hp=>?_)
  ·refine run ?_
   refine fin1 ?_
   rw [iL hlt (by rw [hge];exact hp) hno]
  ·refine run ?_
   refine bI (k + 1) ⟨hlt,fun j hj=>?_⟩ (h2:=by (exact ak))
   rcases Nat.lt_succ_iff_lt_or_eq.1 hj with hj | rfl
   ·exact hno j hj
   ·rw [hge];exact hp
 ·have hge:k=es.length:=by simp at hc;omega
  subst hge
  refine run ?_
  refine fin1 ?_
  rw [fK hno]
theorem Xh {w:World} (es:List bf) (V P acc:Int) (v u:Value) (h:aB w v 14 (es.map bG)) (hu:∃ p n c,u=.slice p n c):Fn Tryz.prog 180 [.agg #[v,u],.int .i64 V,.int .i64 P,.int .i64 acc].toArray w [] (fun r _=>r=.int .i64 (fJ (rJ V P acc) es)):=by
 obtain ⟨q,cap,rfl,hne,hle⟩:=h.opened
 obtain ⟨q2,n2,c2,rfl⟩:=hu
 refine enter Tryz.func180 ?_
 refine run ?_
 intro B
 refine cu (σ:=Nat) (fun k=>[(9,.int .i64 (k:Int))]) (fun _=>[⟨B,#[.slice q es.length cap,.slice q2 n2 c2],77⟩]) (fun k=>k≤es.length∧∀ j,j<k→rJ V P acc (es.getD j default)=false) (fun k=>es.length - k) 0 ⟨Nat.zero_le _,fun j hj=>absurd hj at7⟩ ?_
 rintro k m hm ⟨hk,hno⟩
 refine run ?_
 refine aj _ rfl (fun hc=>?_) (fun hc=>?_)
 ·have hlt:k<es.length:=by simp at hc;omega
  obtain ⟨b,o,rfl⟩:=hne au4
  have hr:=h.row hlt
  generalize hge:es.getD k default=e at hr
  refine run ?_
  intro X
  refine az ?_
  refine aZ (fun _ wc hG=>Ew e.r e.w e.x e.af e.ng e.soft acc wc) ?_
  refine az ?_
  refine aj _ rfl (fun hp=>?_) (fun hp=>?_)
  ·refine run ?_
   refine fin1 ?_
   rw [iL hlt (by rw [hge];exact hp) hno]
  ·refine run ?_
   refine bI (k + 1) ⟨hlt,fun j hj=>?_⟩ (h2:=by (exact ak))
   rcases Nat.lt_succ_iff_lt_or_eq.1 hj with hj | rfl
   ·exact hno j hj
   ·rw [hge];exact hp
 ·have hge:k=es.length:=by simp at hc;omega
  subst hge
  refine run ?_
  refine fin1 ?_
  rw [fK hno]
theorem Qj {e:bf} (h:e.may=true) (hk:e.kind=3):((e.level.toNat:Nat):Int)=e.level∧1≤e.level.toNat∧e.level.toNat<4∧e.nums=true:=by
 simp only [bf.may,hk,Bool.and_eq_true,show decide ((3:Int)=1)=false from rfl,show decide ((3:Int)=2)=false from rfl,decide_true,cond_true,cond_false,PtD.bV,decide_eq_true_eq] at h
 obtain ⟨h1,⟨⟨⟨h2,h3⟩,_⟩,_⟩⟩:=h
 exact ⟨by omega,by omega,by omega,h1⟩
theorem Ub {V A:Int} (e:bf) (h:e.may=true) (hk:e.kind=3∧e.Xg V A=true) (P:Nat) (hP:P≤4095) (w:World):Fn Tryz.prog 150 [.int .i64 e.level,.int .i64 (P:Int)].toArray w [] (fun u _=>u=.int .i64 ((kH (e.level.toNat - 1) P:Nat):Int)):=by
 obtain ⟨h1,h2,h3,_⟩:=Qj h hk.1
 have:=Eo e.level.toNat h2 h3 P hP w
 rwa [h1] at this
theorem Uc {w:World} (es:List bf) (hmay:∀ e∈es,e.may=true) (V A:Int) (P:Nat) (hP:P≤4095) (v u:Value) (h:aB w v 14 (es.map bG)) (hu:∃ p n c,u=.slice p n c):Fn Tryz.prog 155 [.agg #[v,u],.int .i64 V,.int .i64 A,.int .i64 (P:Int)].toArray w [] (fun r _=>r=.int .i64 (eH es (nZ V A P) es.length)):=by
 obtain ⟨q,cap,rfl,hne,hle⟩:=h.opened
 obtain ⟨q2,n2,c2,rfl⟩:=hu
 refine enter Tryz.func155 ?_
 refine run ?_
 intro B
 refine cu (σ:=Nat × Int) (fun s=>[(10,.int .i64 (s.1:Int)),(9,.int .i64 s.2)]) (fun _=>[⟨B,#[.slice q es.length cap,.slice q2 n2 c2],77⟩]) (fun s=>s.1≤es.length∧eH es (nZ V A P) s.1=s.2) (fun s=>es.length - s.1) (0,-1) ⟨Nat.zero_le _,rfl⟩ ?_
 rintro ⟨k,z⟩ m hm ⟨hk,hz⟩
 dsimp only at hm hk hz ⊢
 have hbl:=uA (es:=es) (q:=nZ V A P) k
 rw [hz] at hbl
 have hbs:eH es (nZ V A P) (k + 1)=bif nZ V A P (es.getD k default) && (decide (z<0) || decide ((es.getD z.toNat default).level<(es.getD k default).level)) then (k:Int) else z:=by rw [eH,hz]
 refine run ?_
 refine aj _ rfl (fun hc=>?_) (fun hc=>?_)
 ·have hlt:k<es.length:=by simp at hc;omega
  obtain ⟨b,o,rfl⟩:=hne au4
  have hr:=h.row hlt
  have hra:=qY (k:=5) (h.row (show z.toNat<es.length by omega)) rfl
  have hem:=hmay _ (getD_mem hlt)
  generalize es.getD k default=e at hr hem hbs
  generalize es.getD z.toNat default=y at hra hbs
  refine run ?_
  intro X
  refine az ?_
  refine eG ?_
  refine iR ?_
  refine kQ (fun _ wc hG=>VL e V A wc) ?_
  refine iR ?_
  refine kQ (b:=decide (e.kind=3) && e.Xg V A) (want:=true) (v:=.int .i64 ((kH (e.level.toNat - 1) P:Nat):Int)) (fun hg wc hG=>Ub (V:=V) (A:=A) e hem ay' P hP wc) ?_
  refine iR ?_
  refine run ?_
  refine aj _ rfl (fun hp=>?_) (fun hp=>?_)
  ·refine run ?_
   refine bI (k + 1,(k:Int)) ⟨hlt,by dsimp only;rw [hbs];exact congrArg (fun c=>bif c then (k:Int) else z) hp⟩ (hm:=by dsimp only;omega) (h2:=by (exact ak))
  ·refine run ?_
   refine bI (k + 1,z) ⟨hlt,by dsimp only;rw [hbs];exact congrArg (fun c=>bif c then (k:Int) else z) hp⟩ (hm:=by dsimp only;omega) (h2:=by (exact ak))
 ·have hge:k=es.length:=by simp at hc;omega
  subst hge
  refine run ?_
  refine fin1 ?_
  rw [hz]
theorem GK {α:Type} [Inhabited α] (p:α→Bool) (l:List α):decide (fJ p l<0)=!l.any p:=by
 cases h:l.any p with
 | false=>
  have:fJ p l=-1:=fK fun j hj=>by
   rw [List.any_eq_false] at h
   have:=h _ (getD_mem hj)
   simpa using this
  rw [this];rfl
 | true=>
  obtain ⟨x,hx,hp⟩:=List.any_eq_true.1 h
  obtain ⟨j,hj,rfl⟩:=List.getElem_of_mem hx
  have hjp:p (l.getD j default)=true:=by rw [List.getD_eq_getElem?_getD,List.getElem?_eq_getElem hj];exact hp
  obtain ⟨j0,h0,h1,h2⟩:=oD p l j hjp
  rw [iL (k:=j0) at7 h1 h2]
  simp
theorem Ey {w:World} (es:List bf) (ds:List dh) (e:bf) (v u:Value) (h:aB w v 14 (es.map bG)) (hd:aB w u 4 (ds.map dG)) (hl:es.length<1000000) (hl2:ds.length<1000000):Fn Tryz.prog 182 [.agg #[v,u],.agg (bG e).toArray].toArray w [] (fun r hn=>∃ v1 h1 v2 h2,r=.agg #[v1,v2]∧Acc 114 14 v1 h1 ((fF es e).map bG)∧Acc 121 4 v2 h2 (ds.map dG)∧aC (h1++h2) hn):=by
 have h':=h
 have hd':=hd
 obtain ⟨q,cap,rfl,_,_⟩:=h.opened
 obtain ⟨q2,cap2,rfl,_,_⟩:=hd.opened
 refine enter Tryz.func182 ?_
 refine run ?_
 intro B C R
 refine run ?_
 refine gY (fun wc hG=>uQ es ds _ _ (h'.good hG) (hd'.good hG) hl hl2) ?_
 rintro r hn ⟨v1,h1,v2,h2,rfl,hA1,hA2,hle⟩
 obtain ⟨q3,c3,e3⟩:=hA1.own.opened
 rw [List.length_map] at e3
 subst e3
 obtain ⟨q4,c4,e4⟩:=hA2.own.opened
 rw [List.length_map] at e4
 subst e4
 refine En hle ?_
 refine jl (_++(h1++h2)) List.perm_append_comm ?_
 simp only [List.cons_append,List.nil_append]
 refine run ?_
 intro X
 refine ax (fun wc hG=>PX e es _ (h'.good hG)) ?_
 refine az ?_
 rw [GK]
 have e8:decide ((es.length:Int)<8)=decide (es.length<8):=by rw [Bool.eq_iff_iff,decide_eq_true_eq,decide_eq_true_eq];omega
 rw [e8]
 refine aj _ rfl (fun hc=>?_) (fun hc=>?_)
 ·have hf:fF es e=es++[e]:=by simp only [fF,hc,cond_true]
  rw [hf]
  refine run ?_
  intro T
  refine jA (c:=bG e) (hp':=[⟨T,#[.int .i64 e.kind,.int .i64 e.jh,.int .i64 e.jW,.bool e.all,.int .i64 e.page,.int .i64 e.level,.int .i64 e.frame,.int .i64 e.mid,.bool e.r,.bool e.w,.bool e.x,.bool e.af,.bool e.ng,.int .i64 e.soft],114⟩,⟨X,#[.slice q3 es.length c3,.slice q4 ds.length c4],77⟩,⟨R,#[.slice none 0 0,.slice none 0 0],77⟩,⟨C,(bG e).toArray,114⟩,⟨B,#[.slice q es.length cap,.slice q2 ds.length cap2],77⟩]++h2) hA1 (fun v' ha' hA'=>?_) au1 (bP (m:=14) mh rfl) (hperm:=by (exact au))
  rw [show es.map bG++[bG e]=(es++[e]).map bG by simp] at hA'
  obtain ⟨q5,c5,e5⟩:=hA'.own.opened
  rw [List.length_map] at e5
  subst e5
  refine aI (⟨X,#[.slice q3 es.length c3,.slice q4 ds.length c4],77⟩::⟨R,#[.slice none 0 0,.slice none 0 0],77⟩::(ha'++h2)) ak ?_
  refine run ?_
  exact gI (cs:=#[.slice q5 (es++[e]).length c5,.slice q4 ds.length c4]) ⟨_,ha',_,h2,rfl,hA',hA2,by (exact ak)⟩
 ·have hf:fF es e=es:=by simp only [fF,hc,cond_false]
  rw [hf]
  refine run ?_
  exact gI (cs:=#[.slice q3 es.length c3,.slice q4 ds.length c4]) ⟨_,h1,_,h2,rfl,hA1,hA2,by (exact ak)⟩
theorem Ud {w:World} (es:List bf) (ds:List dh) (i:Nat) (hi:i<es.length) (v u:Value) (h:aB w v 14 (es.map bG)) (hcap:∃ q c,v=.slice q es.length c∧es.length≤c) (hd:aB w u 4 (ds.map dG)) (hl:es.length<1000000) (hl2:ds.length<1000000):Fn Tryz.prog 152 [.agg #[v,u],.int .i64 (i:Int)].toArray w [] (fun r hn=>∃ v1 h1 v2 h2,r=.agg #[v1,v2]∧Own 114 14 v1 h1 ((es.eraseIdx i).map bG)∧Acc 121 4 v2 h2 (ds.map dG)∧aC (h1++h2) hn):=by
 have h':=h
 have hd':=hd
 obtain ⟨q,cap,rfl,hle0⟩:=hcap
 obtain ⟨q',cap',eq',hne,_⟩:=h.opened
 injection eq' with eq1 _ eq3
 subst eq1 eq3
 obtain ⟨b,o,rfl⟩:=hne (by intro e;subst e;simp at hi)
 obtain ⟨q2,cap2,rfl,_,_⟩:=hd.opened
 refine enter Tryz.func152 ?_
 refine run ?_
 intro B R
 refine run ?_
 refine gY (fun wc hG=>uQ es ds _ _ (h'.good hG) (hd'.good hG) hl hl2) ?_
 rintro r hn ⟨v1,h1,v2,h2,rfl,hA1,hA2,hle⟩
 obtain ⟨q3,c3,e3⟩:=hA1.own.opened
 rw [List.length_map] at e3
 subst e3
 obtain ⟨q4,c4,e4⟩:=hA2.own.opened
 rw [List.length_map] at e4
 subst e4
 refine En hle ?_
 refine jl (_++(h1++h2)) List.perm_append_comm ?_
 simp only [List.cons_append,List.nil_append]
 refine run ?_
 intro X
 refine run ?_
 refine dI 10 4 [0,1,2,3,5,6,7,8,9] [4] (⟨X,#[.slice q3 es.length c3,.slice q4 ds.length c4],77⟩::⟨R,#[.slice none 0 0,.slice none 0 0],77⟩::⟨B,#[.slice (some ⟨b,o,none⟩) es.length cap,.slice q2 ds.length cap2],77⟩::(h1++h2)) ?_
 refine bY ?_
 refine Ed au2 aw3 (fun hx=>xx ay rfl rfl au2 at7 at7 (m':=i) au3 (.inr ⟨_,_,rfl⟩)) ?_
 refine bY ?_
 refine YL au2 aw3 (fun hx=>CJ ay rfl rfl au2 at7 at7) ?_
 obtain ⟨p',e7,hc7,ae2⟩:=h'.Y9 (i:=i + 1) rfl hle0 at7
 rw [show sliced (some ⟨b,o,none⟩) (((i + 1:Nat):Int)).toNat es.length cap 14=_ from e7]
 refine bY ?_
 refine ug (fun wc hG=>vF (es.take i) _ ((h'.good hG).takeN (k:=i) at7) (by rw [List.length_take];omega)) ?_
 intro v5 h5 AB
 obtain ⟨q5,c5,e5⟩:=AB.own.opened
 subst e5
 refine aG ?_
 refine cO ?_
 have hall:∀ c∈(es.drop (i + 1)).map bG,c.length=14∧c.all (·.oneCell')=true:=fun c hc=>by
  obtain ⟨x,_,rfl⟩:=List.mem_map.1 hc
  exact ⟨rfl,rfl⟩
 refine pG ((es.drop (i + 1)).map bG) (⟨X,#[.slice q3 es.length c3,.slice q4 ds.length c4],77⟩::⟨R,#[.slice none 0 0,.slice none 0 0],77⟩::⟨B,#[.slice (some ⟨b,o,none⟩) es.length cap,.slice q2 ds.length cap2],77⟩::(h1++h2)) AB.own (by have:=uz.old (hp:=h5++(⟨X,#[.slice q3 es.length c3,.slice q4 ds.length c4],77⟩::⟨R,#[.slice none 0 0,.slice none 0 0],77⟩::⟨B,#[.slice (some ⟨b,o,none⟩) es.length cap,.slice q2 ds.length cap2],77⟩::(h1++h2))) ae2 (fun c hc=>(hall c hc).1);exact this) (fun v6 h6 hO6=>?_) (by simp only [List.length_map,List.length_take,List.length_drop];omega) hall (List.Perm.refl _)
 rw [← List.map_append,show es.take i++es.drop (i + 1)=es.eraseIdx i from (List.eraseIdx_eq_take_drop_succ ..).symm] at hO6
 obtain ⟨q6,c6,e6⟩:=hO6.opened
 rw [List.length_map] at e6
 subst e6
 refine jl (_++h6) List.perm_append_comm ?_
 simp only [List.cons_append,List.nil_append]
 refine run ?_
 refine gI (cs:=#[.slice q6 (es.eraseIdx i).length c6,.slice q4 ds.length c4]) ⟨_,h6,_,h2,rfl,hO6,hA2,by (exact ak)⟩
end
structure BJ where
 cpu:Int
 fill:Bool
 aN:Bool
 walk:Bool
 drop:Int
 use:Bool
instance : Inhabited BJ := ⟨⟨0, false, false, false, 0, false⟩⟩
abbrev l7 (p:BJ):List Value:=[.int .i64 p.cpu,.bool p.fill,.bool p.aN,.bool p.walk,.int .i64 p.drop,.bool p.use]
structure eu where
 on:Bool
 frame:Int
 tag:Int
instance : Inhabited eu := ⟨⟨false, 0, 0⟩⟩
abbrev iI (r:eu):List Value:=[.bool r.on,.int .i64 r.frame,.int .i64 r.tag]
def eu.may (r:eu):Bool:=PtD.bV r.frame 0 4095 && PtD.bV r.tag 0 15
structure qh where
 es:List bf
 rd:List Int
structure AtD where
 r:Bool
 w:Bool
 x:Bool
 af:Bool
 ng:Bool
def Ez:AtD:=⟨false,false,false,false,false⟩
abbrev Za (a:AtD):List Value:=[.bool a.r,.bool a.w,.bool a.x,.bool a.af,.bool a.ng,.int .i64 0]
structure Yd where
 s:qh
 n:Int
 a:AtD
 f:mW
structure zo where
 s:qh
 n:Int
 f:mW
structure kU where
 ws:List Nat
 one:eu
 two:eu
 pk:BJ
 page:Nat
 acc:Int
def uB (tag:Int) (mid:Nat) (h:kT):bf:=⟨2,tag,0,true,mid,0,h.frame,0,h.r,h.w,h.x,h.af,h.ng,0⟩
def xR (c:kU) (level:Nat) (frame:Int):bf:=⟨3,c.two.tag,c.one.tag,false,((kH (level - 1) c.page:Nat):Int),level,frame,0,false,false,false,false,false,0⟩
def yP (c:kU) (n:Int) (mid:Nat) (d:DsD) (a:AtD):bf:=⟨1,c.two.tag,c.one.tag,!(d.ng || a.ng),c.page,0,n,mid,d.r && a.r,d.w && a.w,d.x && a.x,d.af && a.af,d.ng || a.ng,0⟩
def ve (c:kU) (s:qh) (mid:Nat) (W:NS):Yd:=
 bif !decide (W.f.kind=0) then ⟨⟨s.es,s.rd++W.rd⟩,0,Ez,W.f⟩
 else ⟨⟨bif c.pk.aN then fF s.es (uB c.two.tag mid W.h) else s.es,s.rd++W.rd⟩,W.h.frame,⟨W.h.r,W.h.w,W.h.x,W.h.af,W.h.ng⟩,W.f⟩
def nH (c:kU) (s:qh) (mid:Nat) (acc:Int):Int:=fJ (rJ c.two.tag mid acc) s.es
def Zb (e:bf):AtD:=⟨e.r,e.w,e.x,e.af,e.ng⟩
def dQ (c:kU) (s:qh) (mid:Nat) (acc:Int):Yd:=
 bif c.pk.use && decide (0≤nH c s mid acc) then ⟨s,(s.es.getD (nH c s mid acc).toNat default).frame,Zb (s.es.getD (nH c s mid acc).toNat default),jO⟩
 else ve c s mid (ji c.ws true c.two.frame mid acc)
def jE (c:kU) (s:qh) (mid level:Nat):zo:=
 bif !decide ((dQ c s mid 0).f.kind=0) then ⟨(dQ c s mid 0).s,0,{ (dQ c s mid 0).f with walk:=true }⟩
 else ⟨⟨bif decide (0<level) && c.pk.walk then fF (dQ c s mid 0).s.es (xR c level (dQ c s mid 0).n) else (dQ c s mid 0).s.es,(dQ c s mid 0).s.rd⟩,(dQ c s mid 0).n,jO⟩
def iE (c:kU) (level:Nat) (d:DsD):Nat:=d.frame.toNat + c.page % aO level
def vG (c:kU) (s:qh) (level:Nat) (d:DsD):zo:=
 bif !decide ((gJ d.r d.w d.x d.af c.acc 1 level c.page).kind=0) then ⟨s,0,gJ d.r d.w d.x d.af c.acc 1 level c.page⟩
 else bif !decide ((dQ c s (iE c level d) c.acc).f.kind=0) then ⟨(dQ c s (iE c level d) c.acc).s,0,(dQ c s (iE c level d) c.acc).f⟩
 else ⟨⟨bif c.pk.fill then fF (dQ c s (iE c level d) c.acc).s.es (yP c (dQ c s (iE c level d) c.acc).n (iE c level d) d (dQ c s (iE c level d) c.acc).a) else (dQ c s (iE c level d) c.acc).s.es,(dQ c s (iE c level d) c.acc).s.rd⟩,(dQ c s (iE c level d) c.acc).n,jO⟩
def rO (c:kU):Nat→Nat→Int→qh→zo
 | 0,level,frame,s=>⟨s,0,jO⟩
 | k + 1,level,frame,s=>
  let d:=BI c.ws 1 (rZ frame level c.page) level
  let s1:qh:=⟨s.es,s.rd++[frame]⟩
  bif decide (d.kind=1) then (bif !decide ((jE c s1 d.frame.toNat (level + 1)).f.kind=0) then ⟨(jE c s1 d.frame.toNat (level + 1)).s,0,(jE c s1 d.frame.toNat (level + 1)).f⟩ else rO c k (level + 1) (jE c s1 d.frame.toNat (level + 1)).n (jE c s1 d.frame.toNat (level + 1)).s)
  else bif decide (d.kind=0) then ⟨s1,0,⟨2,1,level,false,c.page⟩⟩
  else vG c s1 level d
def vH (c:kU) (s:qh):zo:=bif !decide ((jE c s c.one.frame.toNat 0).f.kind=0) then ⟨(jE c s c.one.frame.toNat 0).s,0,(jE c s c.one.frame.toNat 0).f⟩ else rO c 4 0 (jE c s c.one.frame.toNat 0).n (jE c s c.one.frame.toNat 0).s
def iw (c:kU) (es:List bf):Int:=fJ (jX c.two.tag c.one.tag c.page c.acc) es
def fC (c:kU) (es:List bf):Int:=eH es (nZ c.two.tag c.one.tag c.page) es.length
def kK (es:List bf) (i:Int):List bf:=bif decide (0≤i) && decide (i<(es.length:Int)) then es.eraseIdx i.toNat else es
def vI (c:kU) (es:List bf):zo:=
 bif c.pk.use && decide (0≤fC c es) then rO c (4 - (es.getD (fC c es).toNat default).level.toNat) (es.getD (fC c es).toNat default).level.toNat (es.getD (fC c es).toNat default).frame ⟨es,[]⟩
 else vH c ⟨es,[]⟩
def lS (c:kU) (es:List bf):zo:=
 bif !c.one.on then ⟨(dQ c ⟨es,[]⟩ c.page c.acc).s,(dQ c ⟨es,[]⟩ c.page c.acc).n,(dQ c ⟨es,[]⟩ c.page c.acc).f⟩
 else bif c.pk.use && decide (0≤iw c es) then ⟨⟨es,[]⟩,(es.getD (iw c es).toNat default).frame,jO⟩
 else vI c es
def nR (c:kU) (es:List bf):zo:=lS c (kK es c.pk.drop)
structure gK (n:Nat) (es:List bf) (ds:List dh):Prop where
 vg:bJ es ds=true
 held:∀ e∈es,dM n e.frame=true
theorem dJ {es:List bf} {ds:List dh} (h:bJ es ds=true):(∀ e∈es,e.may=true)∧es.length≤8∧ds.length≤8:=by
 simp only [bJ,Bool.and_eq_true,decide_eq_true_eq] at h
 refine ⟨fun e he=>?_,h.1.2,h.2⟩
 obtain ⟨j,hj,rfl⟩:=List.getElem_of_mem he
 have:=List.all_eq_true.1 h.1.1.1 j (List.mem_range.2 hj)
 simp only [xM,Bool.and_eq_true] at this
 rw [List.getD_eq_getElem?_getD,List.getElem?_eq_getElem hj] at this
 exact this.1
theorem gK.may {n:Nat} {es:List bf} {ds:List dh} (h:gK n es ds):(∀ e∈es,e.may=true)∧es.length≤8∧ds.length≤8:=dJ h.vg
theorem zN {n:Nat} {es:List bf} {ds:List dh} {e:bf} (h:gK n es ds) (hm:e.may=true) (hf:dM n e.frame=true):gK n (fF es e) ds:=by
 unfold fF
 cases hc:(!(es.any fun t=>decide (t=e)) && decide (es.length<8)) with
 | false=>exact h
 | true=>
  rw [Bool.and_eq_true,Bool.not_eq_true',decide_eq_true_eq] at hc
  obtain ⟨hno,h8⟩:=hc
  rw [cond_true]
  refine ⟨?_,fun x hx=>?_⟩
  ·have ht:=h.vg
   simp only [bJ,Bool.and_eq_true,decide_eq_true_eq] at ht ⊢
   obtain ⟨⟨⟨h1,h2⟩,h3⟩,h4⟩:=ht
   refine ⟨⟨⟨xN fun j hj=>?_,h2⟩,by simp;omega⟩,h4⟩
   simp only [List.length_append,List.length_singleton] at hj
   by_cases hje:j<es.length
   ·have:=List.all_eq_true.1 h1 j (List.mem_range.2 hje)
    unfold xM at this ⊢
    rw [List.take_append_of_le_length at7,show (es++[e]).getD j default=es.getD j default by simp [List.getD_eq_getElem?_getD,List.getElem?_append_left hje]]
    exact this
   ·have ae4:j=es.length:=by omega
    subst ae4
    unfold xM
    rw [List.take_left,show (es++[e]).getD es.length default=e by simp [List.getD_eq_getElem?_getD]]
    rw [hm,hno];rfl
  ·rcases List.mem_append.1 hx with hx | hx
   ·exact h.held x hx
   ·obtain rfl:=List.mem_singleton.1 hx;exact hf
theorem rP {es:List bf} {ds:List dh}:bJ es ds=true↔(∀ e∈es,e.may=true)∧es.Nodup∧ds.all dh.may=true∧es.length≤8∧ds.length≤8:=by
 constructor
 ·intro h
  have hm:=dJ h
  simp only [bJ,Bool.and_eq_true,decide_eq_true_eq] at h
  refine ⟨hm.1,?_,h.1.1.2,hm.2⟩
  rw [List.nodup_iff_pairwise_ne,List.pairwise_iff_getElem]
  intro i j hi hj hij
  have h1:=List.all_eq_true.1 h.1.1.1 j (List.mem_range.2 hj)
  simp only [xM,Bool.and_eq_true,Bool.not_eq_true',List.any_eq_false] at h1
  have h2:=h1.2 es[i] (List.mem_take_iff_getElem.2 ⟨i,by omega,rfl⟩)
  rw [List.getD_eq_getElem?_getD,List.getElem?_eq_getElem hj] at h2
  simpa using h2
 ·rintro ⟨h1,h2,h3,h4,h5⟩
  simp only [bJ,Bool.and_eq_true,decide_eq_true_eq]
  refine ⟨⟨⟨xN fun j hj=>?_,h3⟩,h4⟩,h5⟩
  simp only [xM,Bool.and_eq_true,Bool.not_eq_true',List.any_eq_false]
  refine ⟨h1 _ (getD_mem hj),fun x hx=>?_⟩
  obtain ⟨i,hi,rfl⟩:=List.mem_take_iff_getElem.1 hx
  rw [List.nodup_iff_pairwise_ne,List.pairwise_iff_getElem] at h2
  have:=h2 i j at7 hj at7
  rw [List.getD_eq_getElem?_getD,List.getElem?_eq_getElem hj]
  simpa using this
theorem MM {es:List bf} {ds:List dh} (h:bJ es ds=true) (i:Nat):bJ (es.eraseIdx i) ds=true:=by
 obtain ⟨h1,h2,h3,h4,h5⟩:=rP.1 h
 refine rP.2 ⟨fun e he=>h1 e (List.mem_of_mem_eraseIdx he),h2.sublist (List.eraseIdx_sublist ..),h3,Nat.le_trans (List.eraseIdx_sublist ..).length_le h4,h5⟩
theorem zO {n:Nat} {es:List bf} {ds:List dh} (h:gK n es ds) (i:Int):gK n (kK es i) ds:=by
 unfold kK
 cases hc:(decide (0≤i) && decide (i<(es.length:Int))) with
 | false=>exact h
 | true=>
  rw [cond_true]
  refine ⟨MM h.vg _,fun x hx=>h.held x (List.mem_of_mem_eraseIdx hx)⟩
theorem Xi {level:Nat} {d:DsD} (hd:d.may 2 level=true):d.ng=false:=by
 unfold DsD.may at hd
 cases h0:decide (d.kind=0) with
 | true=>
  rw [h0] at hd
  simp only [cond_true,DsD.bare,Bool.and_eq_true,Bool.not_eq_true'] at hd
  simp_all
 | false=>
  rw [h0] at hd
  cases h1:decide (d.kind=1) with
  | true=>
   rw [h1] at hd
   simp only [cond_true,cond_false,DsD.bare,Bool.and_eq_true,Bool.not_eq_true'] at hd
   simp_all
  | false=>
   rw [h1] at hd
   simp only [cond_false] at hd
   simp_all
theorem Ue {n:Nat} {stage:Int} {page level:Nat} {d:DsD} {rd:List Int} (hd:d.may stage level=true) (hk:(rH n stage page level d rd).f.kind=0):dM n (rH n stage page level d rd).h.frame=true∧(rH n stage page level d rd).f=jO∧(stage=2→(rH n stage page level d rd).h.ng=false):=by
 unfold rH at hk ⊢
 cases h0:decide (d.kind=0) with
 | true=>rw [h0] at hk;simp at hk
 | false=>
  rw [h0] at hk
  simp only [cond_false] at hk ⊢
  cases h1:dM n (d.frame + ((page % aO level:Nat):Int)) with
  | false=>rw [h1] at hk;simp at hk
  | true=>
   refine ⟨h1,rfl,fun hs=>?_⟩
   subst hs
   exact Xi hd
theorem Xj {ws:List Nat} {stage:Int} {page:Nat}:∀ (k level:Nat) (f:Int) (rd:List Int),(GI ws stage page k level f rd).f.kind=0→dM ws.length (GI ws stage page k level f rd).h.frame=true∧(GI ws stage page k level f rd).f=jO∧(stage=2→(GI ws stage page k level f rd).h.ng=false):=by
 intro k
 induction k with
 | zero=>intro level f rd h;simp [GI] at h
 | succ k ih=>
  intro level f rd h
  rw [GI] at h ⊢
  cases hh:dM ws.length f with
  | false=>rw [hh] at h;simp at h
  | true=>
   rw [hh] at h
   simp only [cond_true] at h ⊢
   cases h1:decide ((BI ws stage (rZ f level page) level).kind=1) with
   | true=>rw [h1] at h;exact ih _ _ _ h
   | false=>rw [h1] at h;exact Ue (rG _ _ _ _) h
theorem MN {r w x af:Bool} {acc stage level page:Int} (h:(gJ r w x af acc stage level page).kind=0):gJ r w x af acc stage level page=jO:=by
 unfold gJ at h ⊢
 cases af with
 | false=>simp at h
 | true=>
  cases hm:uY r w x acc with
  | false=>rw [hm] at h;simp at h
  | true=>rfl
theorem EC {ws:List Nat} {frame:Int} {mid:Nat} {acc:Int} (h:(ji ws true frame mid acc).f.kind=0):dM ws.length (ji ws true frame mid acc).h.frame=true∧(ji ws true frame mid acc).f=jO∧(ji ws true frame mid acc).h.ng=false:=by
 simp only [ji,Bool.not_true,cond_false,Jj] at h ⊢
 cases hg:decide ((uZ (jq ws 2 frame mid) mid acc).kind=0) with
 | false=>
  rw [hg] at h
  simp only [Bool.not_false,cond_true] at h
  simp [h] at hg
 | true=>
  simp only [Bool.not_true,cond_false]
  have hk:(uZ (jq ws 2 frame mid) mid acc).kind=0:=by simpa using hg
  unfold uZ at hk ⊢
  cases hw:decide ((jq ws 2 frame mid).f.kind=0) with
  | false=>rw [hw] at hk;simp only [cond_false] at hk;simp [hk] at hw
  | true=>
   rw [hw] at hk
   simp only [cond_true] at hk ⊢
   obtain ⟨h1,h2,h3⟩:=Xj 4 0 frame [] (of_decide_eq_true hw)
   exact ⟨h1,MN hk,h3 rfl⟩
section
attribute [local irreducible] Hy St Ops DH gq iK iD fQ DS fB kz
def uW (z:Int):Nat:=(IntKind.u64.wrap z).toNat
theorem AL (z:Int):IntKind.u64.wrap z=(uW z:Int):=(Int.toNat_of_nonneg (wrap_u64_nonneg z)).symm
def Qk (p:Nat) (n:Int):Nat:=uW ((p:Int) + IntKind.u64.wrap (IntKind.u64.wrap n * 4))
def dB.next (r:dB) (l:List Int):dB:={ r with pc:=l.foldl Qk (uW ((r.pc:Int) + 4)) }
theorem AO {α β:Type} [Inhabited β] {f:α→β→α} {a:α} {l:List β} {k:Nat} (hk:k<l.length):(l.take (k + 1)).foldl f a=f ((l.take k).foldl f a) (l.getD k default):=by
 rw [List.take_add_one,List.foldl_append,List.getElem?_eq_getElem hk,List.getD_eq_getElem?_getD,List.getElem?_eq_getElem hk]
 rfl
theorem Uf (r:dB) (xs:List Int) {w:World} {v:Value} (h:aB w v 1 (xs.map dN)):Fn Tryz.prog 42 [.agg (di r).toArray,v].toArray w [] (fun u _=>u=.agg (di (r.next xs)).toArray):=by
 obtain ⟨q,cap,rfl,hne,hle⟩:=h.opened
 refine enter Tryz.func42 ?_
 refine run ?_
 intro X R
 rw [AL]
 refine run ?_
 refine cu (σ:=Nat) (fun k=>[(13,.int .i64 (k:Int))]) (fun k=>[⟨X,#[.int .u64 (r.x0:Int),.int .u64 (r.x1:Int),.int .u64 (r.x2:Int),.int .u64 (r.x3:Int),.int .u64 (r.x4:Int),.int .u64 (r.x5:Int),.int .u64 (r.x6:Int),.int .u64 (r.x7:Int),.int .u64 ((((xs.take k).foldl Qk (uW ((r.pc:Int) + 4))):Nat):Int),.int .u64 (r.jM:Int),.int .u64 (r.eU:Int),.int .u64 (r.oQ:Int),.int .u64 (r.zM:Int),.int .u64 (r.sJ:Int),.int .u64 (r.far:Int)],30⟩,⟨R,#[.int .u64 0,.int .u64 0,.int .u64 0,.int .u64 0,.int .u64 0,.int .u64 0,.int .u64 0,.int .u64 0,.int .u64 0,.int .u64 0,.int .u64 0,.int .u64 0,.int .u64 0,.int .u64 0,.int .u64 0],30⟩]) (fun k=>k≤xs.length) (fun k=>xs.length - k) 0 (Nat.zero_le _) (hh:=by simp only [List.take_zero,List.foldl_nil];(exact ak)) ?_
 rintro k m hm hk
 refine run ?_
 refine aj _ rfl (fun hc=>?_) (fun hc=>?_)
 ·have hlt:k<xs.length:=by simp at hc;omega
  obtain ⟨b,o,rfl⟩:=hne av7
  have hr:=dm (h.row hlt)
  simp only [Nat.mul_one] at hr
  refine run ?_
  refine fA au2 (jr ay rfl rfl rfl) ?_
  refine fA au2 (P9 rfl rfl) ?_
  refine run ?_
  rw [show IntKind.u64.wrap _=((Qk ((xs.take k).foldl Qk (uW ((r.pc:Int) + 4))) (xs.getD k default):Nat):Int) from AL _,← AO (f:=Qk) hlt]
  refine run ?_
  exact bI (k + 1) hlt
 ·obtain rfl:k=xs.length:=by simp at hc;omega
  rw [List.take_length]
  refine run ?_
  refine gI ?_
  rfl
theorem jb (r:dB) (xs:List Int) {w:World} {v:Value} (h:aB w v 1 (xs.map dN)):Fn Tryz.prog 86 [.agg (di r).toArray,v].toArray w [] (fun u _=>u=.agg (di (r.next xs)).toArray):=by
 obtain ⟨q,cap,rfl,hne,hle⟩:=h.opened
 refine enter Tryz.func86 ?_
 refine run ?_
 intro X R
 rw [AL]
 refine run ?_
 refine cu (σ:=Nat) (fun k=>[(5,.int .i64 (k:Int))]) (fun k=>[⟨X,#[.int .u64 (r.x0:Int),.int .u64 (r.x1:Int),.int .u64 (r.x2:Int),.int .u64 (r.x3:Int),.int .u64 (r.x4:Int),.int .u64 (r.x5:Int),.int .u64 (r.x6:Int),.int .u64 (r.x7:Int),.int .u64 ((((xs.take k).foldl Qk (uW ((r.pc:Int) + 4))):Nat):Int),.int .u64 (r.jM:Int),.int .u64 (r.eU:Int),.int .u64 (r.oQ:Int),.int .u64 (r.zM:Int),.int .u64 (r.sJ:Int),.int .u64 (r.far:Int)],30⟩,⟨R,#[.int .u64 0,.int .u64 0,.int .u64 0,.int .u64 0,.int .u64 0,.int .u64 0,.int .u64 0,.int .u64 0,.int .u64 0,.int .u64 0,.int .u64 0,.int .u64 0,.int .u64 0,.int .u64 0,.int .u64 0],30⟩]) (fun k=>k≤xs.length) (fun k=>xs.length - k) 0 (Nat.zero_le _) (hh:=by simp only [List.take_zero,List.foldl_nil];(exact ak)) ?_
 rintro k m hm hk
 refine run ?_
 refine aj _ rfl (fun hc=>?_) (fun hc=>?_)
 ·have hlt:k<xs.length:=by simp at hc;omega
  obtain ⟨b,o,rfl⟩:=hne av7
  have hr:=dm (h.row hlt)
  simp only [Nat.mul_one] at hr
  refine run ?_
  refine iT 10 ?_
  refine bW ?_
  refine qf (jr ay rfl rfl rfl) ?_
  refine qf (P9 rfl rfl) ?_
  refine bW ?_
  refine run ?_
  rw [show IntKind.u64.wrap _=((Qk ((xs.take k).foldl Qk (uW ((r.pc:Int) + 4))) (xs.getD k default):Nat):Int) from (by rw [Int.mul_comm];exact AL _),← AO (f:=Qk) hlt]
  refine run ?_
  exact bI (k + 1) hlt
 ·obtain rfl:k=xs.length:=by simp at hc;omega
  rw [List.take_length]
  refine run ?_
  refine gI ?_
  rfl
def Ql (on:Bool) (f t:Nat):List qg:=[⟨0,1,bif on then 1 else 0⟩,⟨12,12,f⟩,⟨48,4,t⟩]
def Ye (on:Bool) (f t:Nat):Nat:=um (joinL (Ql on f t) 0 0)
def lT (w:Nat):eu:=bif decide (Ye (decide (aS w 0 1=1)) (aS w 12 12) (aS w 48 4)=w) then ⟨decide (aS w 0 1=1),aS w 12 12,aS w 48 4⟩ else ⟨false,0,0⟩
def CX (w:Nat):Bool:=decide (Ye (decide (aS w 0 1=1)) (aS w 12 12) (aS w 48 4)=w)
theorem og (w a n:Nat):aS w a n≤ig n:=Nat.and_le_right
theorem Qm (on : Bool) (f t : Nat) (hf : f ≤ 4095) (ht : t ≤ 15) : ∀ x ∈ Ql on f t, x.Ok := by
  intro x hx
  simp only [Ql, List.mem_cons, List.not_mem_nil, or_false] at hx
  rcases hx with rfl | rfl | rfl
  · exact ⟨by dsimp only; decide, by dsimp only; decide, by cases on <;> decide⟩
  · exact ⟨by dsimp only; decide, by dsimp only; decide, by have : ig 12 = 4095 := by decide
                                                            dsimp only; omega⟩
  · exact ⟨by dsimp only; decide, by dsimp only; decide, by have : ig 4 = 15 := by decide
                                                            dsimp only; omega⟩
theorem Jk (on:Bool) (f t:Nat) (hf:f≤4095) (ht:t≤15) (w:World):Fn Tryz.prog 201 [.agg #[.bool on,.int .i64 (f:Int),.int .i64 (t:Int)]].toArray w [] (fun u hn=>∃ h1,Own 149 3 u h1 ((Ql on f t).map Eg)∧aC h1 hn):=by
 refine enter Tryz.func201 ?_
 refine run ?_
 intro B F
 refine dW (σ:=Unit) (fun _=>[]) (fun _=>⟨F,#[.int .i64 0,.int .i64 1,.int .u64 (bif on then (1:Int) else 0)],149⟩::⟨B,#[.bool on,.int .i64 (f:Int),.int .i64 (t:Int)],277⟩::[]) (fun _=>True) ?_ ?_
 ·refine aj _ rfl (fun hc=>?_) (fun hc=>?_)
  ·rw [hc,cond_true]
   refine run ?_
   exact dA () trivial (h2:=by (exact ak))
  ·rw [hc,cond_false]
   refine run ?_
   exact dA () trivial (h2:=by (exact ak))
 rintro ⟨⟩ -
 rw [show (bif on then (1:Int) else 0)=((bif on then 1 else 0:Nat):Int) by cases on<;>rfl]
 refine run ?_
 intro T
 exact fin1 ⟨[⟨T,#[.int .i64 0,.int .i64 1,.int .u64 ((bif on then 1 else 0:Nat):Int),.int .i64 12,.int .i64 12,.int .u64 (f:Int),.int .i64 48,.int .i64 4,.int .u64 (t:Int)],149⟩],pF T 3 (Ql on f t),by (exact ak)⟩
theorem Qn (on:Bool) (f t:Nat) (hf:f≤4095) (ht:t≤15) (w:World):Fn Tryz.prog 169 [.agg #[.bool on,.int .i64 (f:Int),.int .i64 (t:Int)]].toArray w [] (fun u _=>∃ e,u=.tuple #[.int .u64 (Ye on f t:Nat),.int .i64 e]):=by
 refine enter Tryz.func169 ?_
 refine az ?_
 intro B
 refine aj _ rfl (fun hc=>absurd hc au') (fun hc=>?_)
 refine run ?_
 refine gY (fun wc hG=>Jk on f t hf ht wc) ?_
 rintro u hn ⟨h1,hO,hle⟩
 obtain ⟨q,c,e⟩:=hO.opened
 subst e
 refine aI h1 (cnt1 hle) ?_
 refine run ?_
 refine ax (fun wc hG=>zG (Ql on f t) (Qm on f t hf ht) (hO.lie (fun b hb=>hG.here b hb) (by simp [Ql]))) ?_
 refine run ?_
 exact fin2 ⟨_,rfl⟩
theorem Xk (v:Nat) (hv:v<18446744073709551616) (w:World):Fn Tryz.prog 139 [.int .u64 (v:Int)].toArray w [] (fun u _=>∃ e,u=.tuple #[.agg (iI (lT v)).toArray,.int .i64 e]):=by
 have g12:aS v 12 12≤4095:=og v 12 12
 have g48:aS v 48 4≤15:=og v 48 4
 refine enter Tryz.func139 ?_
 refine run ?_
 intro B
 refine ax (fun wc hG=>Eh v 12 12 au0 au0 hv wc) ?_
 refine run ?_
 refine ax (fun wc hG=>Eh v 48 4 au0 au0 hv wc) ?_
 refine run ?_
 refine fA au2 (kR rfl rfl v 1 rfl rfl hv au0) ?_
 rw [show v &&& 1=aS v 0 1 from rfl]
 refine run ?_
 intro R
 rw [show decide (((aS v 0 1:Nat):Int)=1)=decide (aS v 0 1=1) by rw [Bool.eq_iff_iff];simp;omega]
 refine JZ (fun wc hG=>Qn _ _ _ g12 g48 wc) ?_
 rintro _ ⟨e,rfl⟩
 refine run ?_
 refine aj _ rfl (fun hc=>?_) (fun hc=>?_)
 ·have hr:lT v=⟨false,0,0⟩:=by
   unfold lT
   rw [decide_eq_false aw5];rfl
  rw [hr]
  refine run ?_
  refine gy ?_
  exact ⟨_,rfl⟩
 ·have hr:lT v=⟨decide (aS v 0 1=1),aS v 12 12,aS v 48 4⟩:=by
   unfold lT
   rw [decide_eq_true aw5];rfl
  rw [hr]
  refine run ?_
  refine gy ?_
  exact ⟨_,rfl⟩
theorem GL (on:Bool) (f t:Nat) (hf:f≤4095) (ht:t≤15) (w:World):Fn Tryz.prog 191 [.agg #[.bool on,.int .i64 (f:Int),.int .i64 (t:Int)]].toArray w [] (fun u _=>u=.int .u64 (Ye on f t:Nat)):=by
 refine enter Tryz.func191 ?_
 refine run ?_
 intro B
 refine run ?_
 refine Eu 20 11 [0,1,2,3,4,5,6,7,8,9,10] [(11,false),(12,false),(13,true),(14,true),(15,true),(16,true),(17,false),(18,false),(19,false)] _ ?_ (aC.refl _)
 refine bY ?_
 refine Ed rfl aw3 (fun hx2=>fH (fP 179 rfl) rfl (fun wc hG=>pX 0 on wc)) ?_
 refine bY ?_
 refine xC ?_
 refine vY (zJ (Ql on f t)) (fun T=>?_) (hn:=by cases on<;>rfl)
 refine aG ?_
 refine xC ?_
 refine ug (fun wc hG=>xH (Ql on f t) (Qm on f t hf ht) ((pF T 3 (Ql on f t)).lie (fun b hb=>hG.here b ax8) (by simp [Ql]))) (fun u hn hR=>?_)
 obtain ⟨rfl,rfl⟩:=hR
 refine aG ?_
 refine VJ ?_
 refine qC ?_
 refine qC ?_
 refine qC ?_
 refine xC ?_
 refine sH (fun hx=>eP rfl) ?_
 refine aG ?_
 refine xC ?_
 refine sH (fun hx=>eP rfl) ?_
 refine aG ?_
 refine xC ?_
 refine sH (fun hx=>eP rfl) ?_
 refine aG ?_
 refine TY ?_
 refine zk ?_
 simp only [List.cons_append,List.nil_append,List.append_nil]
 refine run ?_
 exact fin1 rfl
theorem MO (v:Nat) (hv:v<18446744073709551616) (w:World):Fn Tryz.prog 157 [.int .u64 (v:Int)].toArray w [] (fun u _=>u=.tuple #[.agg (iI (lT v)).toArray,.bool (CX v)]):=by
 have g12:aS v 12 12≤4095:=og v 12 12
 have g48:aS v 48 4≤15:=og v 48 4
 refine enter Tryz.func157 ?_
 refine run ?_
 intro B
 refine ax (fun wc hG=>ry v 0 au0 hv wc) ?_
 refine run ?_
 refine ax (fun wc hG=>oO v 12 12 au0 au0 hv wc) ?_
 refine run ?_
 refine ax (fun wc hG=>oO v 48 4 au0 au0 hv wc) ?_
 refine run ?_
 intro R
 refine ax (fun wc hG=>GL _ _ _ g12 g48 wc) ?_
 refine run ?_
 refine aj _ rfl (fun hc=>?_) (fun hc=>?_)
 ·have hb:CX v=false:=by unfold CX;exact decide_eq_false aw5
  have hr:lT v=⟨false,0,0⟩:=by
   unfold lT
   rw [decide_eq_false aw5];rfl
  rw [hr,hb]
  refine run ?_
  refine gy ?_
  rfl
 ·have hb:CX v=true:=by unfold CX;exact decide_eq_true aw5
  have hr:lT v=⟨decide (aS v 0 1=1),aS v 12 12,aS v 48 4⟩:=by
   unfold lT
   rw [decide_eq_true aw5];rfl
  rw [hr,hb]
  refine run ?_
  refine gy ?_
  rfl
def dB.one (r:dB):eu:={ lT (r.jM &&& (18446744073709551615 - 1)) with on:=decide (aS r.eU 0 1=1) }
structure dB.Ok (r:dB):Prop where
 x0:gm r.x0
 x1:gm r.x1
 x2:gm r.x2
 x3:gm r.x3
 x4:gm r.x4
 x5:gm r.x5
 x6:gm r.x6
 x7:gm r.x7
 pc:gm r.pc
 jM:gm r.jM
 eU:gm r.eU
 oQ:gm r.oQ
 zM:gm r.zM
 sJ:gm r.sJ
 far:gm r.far
theorem Xl (r:dB) (h1:r.jM<18446744073709551616) (h2:r.eU<18446744073709551616) (w:World):Fn Tryz.prog 107 [.agg (di r).toArray].toArray w [] (fun u _=>u=.agg (iI r.one).toArray):=by
 refine enter Tryz.func107 ?_
 refine run ?_
 intro R X
 refine run ?_
 refine fA au2 (oz rfl rfl r.jM 1 rfl rfl h1 au0) ?_
 refine run ?_
 refine JZ (fun wc hG=>Xk _ (Nat.lt_of_le_of_lt Nat.and_le_left h1) wc) ?_
 rintro _ ⟨e,rfl⟩
 refine run ?_
 intro Y
 refine fA au2 (kR rfl rfl r.eU 1 rfl rfl h2 au0) ?_
 rw [show r.eU &&& 1=aS r.eU 0 1 from rfl]
 refine run ?_
 rw [show decide (((aS r.eU 0 1:Nat):Int)=1)=decide (aS r.eU 0 1=1) by rw [Bool.eq_iff_iff];simp;omega]
 refine run ?_
 refine gI ?_
 rfl
theorem Qo (r:dB) (h1:r.jM<18446744073709551616) (h2:r.eU<18446744073709551616) (w:World):Fn Tryz.prog 128 [.agg (di r).toArray].toArray w [] (fun u _=>u=.agg (iI r.one).toArray):=by
 refine enter Tryz.func128 ?_
 refine run ?_
 intro R X
 refine run ?_
 refine fA au2 (oz rfl rfl r.jM 1 rfl rfl h1 au0) ?_
 refine run ?_
 refine ax (fun wc hG=>MO _ (Nat.lt_of_le_of_lt Nat.and_le_left h1) wc) ?_
 refine run ?_
 intro Y
 refine aj _ rfl (fun hc=>?_) (fun hc=>?_)
 ·have hr:lT (r.jM &&& (18446744073709551615 - 1))=⟨false,0,0⟩:=by
   unfold lT
   rw [show decide (Ye (decide (aS (r.jM &&& (18446744073709551615 - 1)) 0 1=1)) (aS (r.jM &&& (18446744073709551615 - 1)) 12 12) (aS (r.jM &&& (18446744073709551615 - 1)) 48 4)=r.jM &&& (18446744073709551615 - 1))=false by simpa [CX] using hc];rfl
  have ho:r.one=⟨decide (aS r.eU 0 1=1),0,0⟩:=by unfold dB.one;rw [hr]
  rw [ho]
  refine run ?_
  refine ax (fun wc hG=>oO r.eU 0 1 au0 au0 h2 wc) ?_
  refine run ?_
  rw [show decide (((aS r.eU 0 1:Nat):Int)=1)=decide (aS r.eU 0 1=1) by rw [Bool.eq_iff_iff];simp;omega]
  refine run ?_
  refine gI ?_
  rfl
 ·refine run ?_
  refine ax (fun wc hG=>oO r.eU 0 1 au0 au0 h2 wc) ?_
  refine run ?_
  rw [show decide (((aS r.eU 0 1:Nat):Int)=1)=decide (aS r.eU 0 1=1) by rw [Bool.eq_iff_iff];simp;omega]
  refine run ?_
  refine gI ?_
  rfl
end
section
attribute [local irreducible] Hy St Ops DH gq
theorem Zc {G R:Prop} (k:R) (h:tV R→G:=by (intro kF;(repeat (first | (with_reducible apply zQ) | (with_reducible apply sU) | (with_reducible apply qj) | (with_reducible apply qo) | (with_reducible apply zV) | (with_reducible apply wS) | (with_reducible apply qy) | (with_reducible apply oH) | (with_reducible apply wU) | (with_reducible apply tu) | (with_reducible apply wM) | (with_reducible apply zS) | (with_reducible apply wK) | (with_reducible apply wL) | ((with_reducible apply tC);rfl) | ((with_reducible apply fA);rfl;(first | exact LK)) | ((with_reducible apply FP);rfl;rfl;(exact jI);intro blk) | ((with_reducible apply wW ay);rfl;rfl;(exact jI);intro blk) | ((with_reducible apply qL ay);rfl;rfl;(exact jI);rfl;rfl;(exact vW);(exact IP);(exact IQ);(exact pU))));(repeat revert blk);exact kF.get)):G:=h ⟨k⟩
section
variable {n : Nat} {w0 : World} {mu : List Nat} {l : Fm} {hp : Hp} {Q : Exit → Fm → Hp → Prop} {all : Array Oper} {rest : List Oper} {ty : TypeId} {pos : String} {af : Array Edge}
theorem Ug {t d len e sz:Nat} {z:Value} {ps:List (Nat × Operand)} {vs:List (Nat × Value)} {zl:List Value} (out:Array Value) (out':List Value) (h:∀ b,Ops Tryz.prog n w0 mu all rest ((d,.slice (some ⟨b,0,none⟩) len len)::l) (⟨b,out'.toArray,e⟩::hp) Q) (hn:out=out'.toArray)
  (hd:Nat.blt d n=true:=by rfl) (ht:lk Tb.sl t=some (e,sz):=by rfl) (hz:lk Tb.zs e=some z:=by rfl) (hzc:z.cells=zl.toArray:=by (first | ((simp only [Value.cells])<;>rfl) | rfl)) (hzs:Nat.beq zl.length sz=true:=by rfl) (hpos:(Nat.blt 0 (len * sz) && Nat.ble (len * sz) 16777216)=true:=by rfl) (hv:Fz l ps=some vs:=by rfl) (hf:Vs sz (rep zl len).toArray vs=some out:=by kernel_rfl):Ops Tryz.prog n w0 mu all (⟨some d,.buildSlice t len ps.toArray,ty,pos,af,none⟩::rest) l hp Q:=
 qp ay hd ht hz hzc hzs hpos hv hf hn h
end
section
variable {P : Program} {T : Tab} {n : Nat} {w0 : World} {mu : List Nat} {l : Fm} {hp : Hp} {dd : Option Nat} {ty : TypeId} {pos : String} {af : Array Edge} {gg : Option (Nat × Bool)} {t u : TypeId} {x y : Operand}
theorem xU {pi qi:Int} (hx:ev l x=some (.int .u32 pi)) (hy:ev l y=some (.int .u32 qi)) (p q:Nat) (hpi:pi=(p:Int)) (hqi:qi=(q:Int)) (h1:p<4294967296) (h2:q<4294967296):Hy P n w0 mu l hp ⟨dd,.binOp .and t x y u,ty,pos,af,gg⟩ (.int .u32 ((p &&& q:Nat):Int)):=
 bz fun ac w hk _=>by
  subst hpi hqi
  have:=u32_and_nat p q h1 h2
  simp only [execOp,hk.ev hx,hk.ev hy]
  simp [eqGuard_and,binOp_and,intBits_and,this]
theorem ED {pi qi:Int} (hx:ev l x=some (.int .u32 pi)) (hy:ev l y=some (.int .u32 qi)) (p q:Nat) (hpi:pi=(p:Int)) (hqi:qi=(q:Int)) (h1:p<4294967296) (h2:q<4294967296):Hy P n w0 mu l hp ⟨dd,.binOp .or t x y u,ty,pos,af,gg⟩ (.int .u32 ((p ||| q:Nat):Int)):=
 bz fun ac w hk _=>by
  subst hpi hqi
  have:=u32_or_nat p q h1 h2
  simp only [execOp,hk.ev hx,hk.ev hy]
  simp [eqGuard_or,binOp_or,intBits_or,this]
theorem AP {k ky:IntKind} {p c:Int} (hx:ev l x=some (.int k p)) (hy:ev l y=some (.int ky c)) (h0:0≤c) (h1:c≤k.bits):Hy P n w0 mu l hp ⟨dd,.binOp .shr t x y u,ty,pos,af,gg⟩ (.int k (p / 2 ^ c.toNat)):=
 bz fun ac w hk _=>by
  have hs:=shift_shr k ky p c h0 h1
  simp only [execOp,hk.ev hx,hk.ev hy]
  simp only [eqGuard_shr,binOp_shr,hs]
  simp
theorem wu {k ky:IntKind} {p c:Int} (hx:ev l x=some (.int k p)) (hy:ev l y=some (.int ky c)) (h0:0≤c) (h1:c≤k.bits):Hy P n w0 mu l hp ⟨dd,.binOp .shl t x y u,ty,pos,af,gg⟩ (.int k (k.wrap (p * 2 ^ c.toNat))):=
 bz fun ac w hk _=>by
  have hs:=shift_shl k ky p c h0 h1
  simp only [execOp,hk.ev hx,hk.ev hy]
  simp only [eqGuard_shl,binOp_shl,hs]
  simp
theorem Xm {pi qi:Int} (hx:ev l x=some (.int .u64 pi)) (hy:ev l y=some (.int .u64 qi)) (p q:Nat) (hpi:pi=(p:Int)) (hqi:qi=(q:Int)) (hq:0<q) (hb:p<18446744073709551616):Hy P n w0 mu l hp ⟨dd,.binOp .quo t x y u,ty,pos,af,gg⟩ (.int .u64 ((p / q:Nat):Int)):=
 bz fun ac w hk _=>by
  subst hpi hqi
  have h1:(p:Int).tdiv q=((p / q:Nat):Int):=by rw [Int.tdiv_eq_ediv_of_nonneg at7];simp
  have h2:¬ (q=0):=by omega
  have h3:p / q≤p:=Nat.div_le_self _ _
  have h4:IntKind.u64.wrap ((p / q:Nat):Int)=((p / q:Nat):Int):=by
   generalize p / q=z at h3
   rw [IntKind.wrap_u64];omega
  simp only [execOp,hk.ev hx,hk.ev hy]
  rw [show ((p / q:Nat):Int)=(p:Int) / (q:Int) by simp] at h4
  simp [eqGuard_quo,binOp_quo,Op.intDiv,h1,h2,h4]
theorem Qp {k:IntKind} {p:Int} (hx:ev l x=some (.int k p)):Hy P n w0 mu l hp ⟨dd,.unOp .neg t x,ty,pos,af,gg⟩ (.int k (k.wrap (-p))):=
 bz fun a w hk _=>by simp only [execOp,hk.ev hx];simp [go_sem]
end
end
section
attribute [local irreducible] Hy St Ops DH gq iK iD fQ DS fB kz
structure bF where
 op:Int
 d:Int
 n:Int
 m:Int
 aV:Int
instance : Inhabited bF := ⟨⟨0, 0, 0, 0, 0⟩⟩
abbrev Kr (x:bF):List Value:=[.int .i64 x.op,.int .i64 x.d,.int .i64 x.n,.int .i64 x.m,.int .i64 x.aV]
def bF.base (x:bF):Bool:=PtD.bV x.op 1 16 && (PtD.bV x.d 0 7 && (PtD.bV x.n 0 7 && (PtD.bV x.m 0 7 && PtD.bV x.aV (-2048) 2047)))
def bF.kind (x:bF):Bool:=
 bif decide (x.op=7) || decide (x.op=8) then decide (x.m≤3)
 else bif decide (x.op=11) || decide (x.op=12) then PtD.bV x.aV 0 5
 else bif decide (x.op=13) then PtD.bV x.aV 3 5 else true
def bF.may (x:bF):Bool:=x.base && x.kind
theorem uC (n lo hi:Int) (w:World):Fn Tryz.prog 176 [.int .i64 n,.int .i64 lo,.int .i64 hi].toArray w [] (fun u _=>u=.bool (PtD.bV n lo hi)):=by
 refine enter Tryz.func176 ?_
 refine aW ?_
 exact fin1 rfl
theorem Xn (x:bF) (w:World):Fn Tryz.prog 148 [.agg (Kr x).toArray].toArray w [] (fun u _=>u=.bool x.may):=by
 refine enter Tryz.func148 ?_
 refine run ?_
 intro B
 refine run ?_
 refine ax (fun wc hG=>uC x.op 1 16 wc) ?_
 refine az ?_
 refine aZ (fun _ wc hG=>uC x.d 0 7 wc) ?_
 refine az ?_
 refine aZ (fun _ wc hG=>uC x.n 0 7 wc) ?_
 refine az ?_
 refine aZ (fun _ wc hG=>uC x.m 0 7 wc) ?_
 refine az ?_
 refine aZ (fun _ wc hG=>uC x.aV (-2048) 2047 wc) ?_
 refine az ?_
 refine aj _ rfl (fun hc=>?_) (fun hc=>?_)
 ·have hm:x.may=false:=by
   unfold bF.may bF.base
   simp only [Bool.or_eq_true,Bool.not_eq_true'] at hc
   rcases hc with (((h | h) | h) | h) | h<;>simp [h]
  rw [hm]
  refine run ?_
  exact fin1 rfl
 ·have hm:x.may=x.kind:=by
   unfold bF.may bF.base
   simp only [Bool.or_eq_false_iff,Bool.not_eq_false'] at hc
   obtain ⟨⟨⟨⟨h1,h2⟩,h3⟩,h4⟩,h5⟩:=hc
   simp [h1,h2,h3,h4,h5]
  rw [hm]
  obtain ⟨op,d,n,m,aV⟩:=x
  by_cases h7:op=7
  ·have hk:(⟨op,d,n,m,aV⟩:bF).kind=decide (m≤3):=by
    unfold bF.kind
    simp [h7]
   rw [hk]
   refine az ?_
   refine aj _ rfl (fun _=>?_) (fun hc=>absurd h7 (of_decide_eq_false hc))
   refine az ?_
   refine aj _ rfl (fun _=>?_) (fun hc=>absurd h7 (of_decide_eq_false hc))
   refine az ?_
   exact fin1 rfl
  by_cases h8:op=8
  ·have hk:(⟨op,d,n,m,aV⟩:bF).kind=decide (m≤3):=by
    unfold bF.kind
    simp [h8]
   rw [hk]
   refine az ?_
   refine aj _ rfl (fun hc=>absurd (of_decide_eq_true hc) h7) (fun _=>?_)
   refine az ?_
   refine aj _ rfl (fun _=>?_) (fun hc=>absurd h8 (of_decide_eq_false hc))
   refine az ?_
   exact fin1 rfl
  by_cases h11:op=11
  ·have hk:(⟨op,d,n,m,aV⟩:bF).kind=PtD.bV aV 0 5:=by
    unfold bF.kind
    simp [h11]
   rw [hk]
   refine az ?_
   refine aj _ rfl (fun hc=>absurd (of_decide_eq_true hc) h7) (fun _=>?_)
   refine az ?_
   refine aj _ rfl (fun hc=>absurd (of_decide_eq_true hc) h8) (fun _=>?_)
   refine az ?_
   refine aj _ rfl (fun _=>?_) (fun hc=>absurd h11 (of_decide_eq_false hc))
   refine az ?_
   refine aj _ rfl (fun _=>?_) (fun hc=>absurd h11 (of_decide_eq_false hc))
   refine az ?_
   refine ax (fun wc hG=>uC aV 0 5 wc) ?_
   refine run ?_
   exact fin1 rfl
  by_cases h12:op=12
  ·have hk:(⟨op,d,n,m,aV⟩:bF).kind=PtD.bV aV 0 5:=by
    unfold bF.kind
    simp [h12]
   rw [hk]
   refine az ?_
   refine aj _ rfl (fun hc=>absurd (of_decide_eq_true hc) h7) (fun _=>?_)
   refine az ?_
   refine aj _ rfl (fun hc=>absurd (of_decide_eq_true hc) h8) (fun _=>?_)
   refine az ?_
   refine aj _ rfl (fun hc=>absurd (of_decide_eq_true hc) h11) (fun _=>?_)
   refine az ?_
   refine aj _ rfl (fun _=>?_) (fun hc=>absurd h12 (of_decide_eq_false hc))
   refine az ?_
   refine ax (fun wc hG=>uC aV 0 5 wc) ?_
   refine run ?_
   exact fin1 rfl
  by_cases h13:op=13
  ·have hk:(⟨op,d,n,m,aV⟩:bF).kind=PtD.bV aV 3 5:=by
    unfold bF.kind
    simp [h13]
   rw [hk]
   refine az ?_
   refine aj _ rfl (fun hc=>absurd (of_decide_eq_true hc) h7) (fun _=>?_)
   refine az ?_
   refine aj _ rfl (fun hc=>absurd (of_decide_eq_true hc) h8) (fun _=>?_)
   refine az ?_
   refine aj _ rfl (fun hc=>absurd (of_decide_eq_true hc) h11) (fun _=>?_)
   refine az ?_
   refine aj _ rfl (fun hc=>absurd (of_decide_eq_true hc) h12) (fun _=>?_)
   refine az ?_
   refine aj _ rfl (fun _=>?_) (fun hc=>absurd h13 (of_decide_eq_false hc))
   refine az ?_
   refine ax (fun wc hG=>uC aV 3 5 wc) ?_
   refine run ?_
   exact fin1 rfl
  have hk:(⟨op,d,n,m,aV⟩:bF).kind=true:=by
   unfold bF.kind
   simp [h7,h8,h11,h12,h13]
  rw [hk]
  refine run ?_
  refine aj _ rfl (fun hc=>absurd (of_decide_eq_true hc) h7) (fun _=>?_)
  refine run ?_
  refine aj _ rfl (fun hc=>absurd (of_decide_eq_true hc) h8) (fun _=>?_)
  refine run ?_
  refine aj _ rfl (fun hc=>absurd (of_decide_eq_true hc) h11) (fun _=>?_)
  refine run ?_
  refine aj _ rfl (fun hc=>absurd (of_decide_eq_true hc) h12) (fun _=>?_)
  refine run ?_
  refine aj _ rfl (fun hc=>absurd (of_decide_eq_true hc) h13) (fun _=>?_)
  refine run ?_
  exact fin1 rfl
theorem Kt (x:bF) (w:World):Fn Tryz.prog 52 [.agg (Kr x).toArray].toArray w [] (fun u _=>u=.bool x.may):=by
 refine enter Tryz.func52 ?_
 refine run ?_
 intro B
 refine az ?_
 refine aZ (fun _ wc hG=>uw x.d 7 wc) ?_
 refine az ?_
 refine aZ (fun _ wc hG=>uw x.n 7 wc) ?_
 refine az ?_
 refine aZ (fun _ wc hG=>uw x.m 7 wc) ?_
 refine az ?_
 refine aj _ rfl (fun hc=>?_) (fun hc=>?_)
 ·have hm:x.may=false:=by
   cases he:x.may with
   | false=>rfl
   | true=>
    exfalso
    unfold bF.may bF.base at he
    simp [PtD.bV] at he
    simp at hc
    omega
  rw [hm]
  refine run ?_
  exact fin1 rfl
 ·have hm:x.may=x.kind:=by
   have:x.base=true:=by
    unfold bF.base
    simp [PtD.bV]
    simp at hc
    omega
   unfold bF.may
   rw [this];rfl
  rw [hm]
  obtain ⟨op,d,n,m,aV⟩:=x
  by_cases h7:op=7
  ·have hk:(⟨op,d,n,m,aV⟩:bF).kind=decide (m≤3):=by
    unfold bF.kind
    simp [h7]
   rw [hk]
   refine az ?_
   refine aj _ rfl (fun _=>?_) (fun hc=>absurd h7 (of_decide_eq_false hc))
   refine az ?_
   refine aj _ rfl (fun _=>?_) (fun hc=>absurd h7 (of_decide_eq_false hc))
   refine az ?_
   exact fin1 rfl
  by_cases h8:op=8
  ·have hk:(⟨op,d,n,m,aV⟩:bF).kind=decide (m≤3):=by
    unfold bF.kind
    simp [h8]
   rw [hk]
   refine az ?_
   refine aj _ rfl (fun hc=>absurd (of_decide_eq_true hc) h7) (fun _=>?_)
   refine az ?_
   refine aj _ rfl (fun _=>?_) (fun hc=>absurd h8 (of_decide_eq_false hc))
   refine az ?_
   exact fin1 rfl
  by_cases h11:op=11
  ·have hk:(⟨op,d,n,m,aV⟩:bF).kind=PtD.bV aV 0 5:=by
    unfold bF.kind
    simp [h11]
   rw [hk]
   refine az ?_
   refine aj _ rfl (fun hc=>absurd (of_decide_eq_true hc) h7) (fun _=>?_)
   refine az ?_
   refine aj _ rfl (fun hc=>absurd (of_decide_eq_true hc) h8) (fun _=>?_)
   refine az ?_
   refine aj _ rfl (fun _=>?_) (fun hc=>absurd h11 (of_decide_eq_false hc))
   refine az ?_
   refine aj _ rfl (fun _=>?_) (fun hc=>absurd h11 (of_decide_eq_false hc))
   refine az ?_
   refine ax (fun wc hG=>uw aV 5 wc) ?_
   refine run ?_
   exact fin1 rfl
  by_cases h12:op=12
  ·have hk:(⟨op,d,n,m,aV⟩:bF).kind=PtD.bV aV 0 5:=by
    unfold bF.kind
    simp [h12]
   rw [hk]
   refine az ?_
   refine aj _ rfl (fun hc=>absurd (of_decide_eq_true hc) h7) (fun _=>?_)
   refine az ?_
   refine aj _ rfl (fun hc=>absurd (of_decide_eq_true hc) h8) (fun _=>?_)
   refine az ?_
   refine aj _ rfl (fun hc=>absurd (of_decide_eq_true hc) h11) (fun _=>?_)
   refine az ?_
   refine aj _ rfl (fun _=>?_) (fun hc=>absurd h12 (of_decide_eq_false hc))
   refine az ?_
   refine ax (fun wc hG=>uw aV 5 wc) ?_
   refine run ?_
   exact fin1 rfl
  by_cases h13:op=13
  ·have hk:(⟨op,d,n,m,aV⟩:bF).kind=PtD.bV aV 3 5:=by
    unfold bF.kind
    simp [h13]
   rw [hk]
   refine az ?_
   refine aj _ rfl (fun hc=>absurd (of_decide_eq_true hc) h7) (fun _=>?_)
   refine az ?_
   refine aj _ rfl (fun hc=>absurd (of_decide_eq_true hc) h8) (fun _=>?_)
   refine az ?_
   refine aj _ rfl (fun hc=>absurd (of_decide_eq_true hc) h11) (fun _=>?_)
   refine az ?_
   refine aj _ rfl (fun hc=>absurd (of_decide_eq_true hc) h12) (fun _=>?_)
   refine az ?_
   refine aj _ rfl (fun _=>?_) (fun hc=>absurd h13 (of_decide_eq_false hc))
   refine az ?_
   exact fin1 rfl
  have hk:(⟨op,d,n,m,aV⟩:bF).kind=true:=by
   unfold bF.kind
   simp [h7,h8,h11,h12,h13]
  rw [hk]
  refine run ?_
  refine aj _ rfl (fun hc=>absurd (of_decide_eq_true hc) h7) (fun _=>?_)
  refine run ?_
  refine aj _ rfl (fun hc=>absurd (of_decide_eq_true hc) h8) (fun _=>?_)
  refine run ?_
  refine aj _ rfl (fun hc=>absurd (of_decide_eq_true hc) h11) (fun _=>?_)
  refine run ?_
  refine aj _ rfl (fun hc=>absurd (of_decide_eq_true hc) h12) (fun _=>?_)
  refine run ?_
  refine aj _ rfl (fun hc=>absurd (of_decide_eq_true hc) h13) (fun _=>?_)
  refine run ?_
  exact fin1 rfl
def qE (i:Int):Nat:=(i % 4096).toNat
theorem uD (i:Int):qE i<4096:=by unfold qE;omega
def nS (n:Nat):Int:=bif decide (2047<n) then (n:Int) - 4096 else n
theorem Qq (n:Nat) (h:n<4096):-2048≤nS n∧nS n≤2047:=by
 unfold nS
 cases hd:decide (2047<n) with
 | true=>have:=of_decide_eq_true hd;rw [cond_true];omega
 | false=>have:=of_decide_eq_false hd;rw [cond_false];omega
def bF.fds (x:bF):List qg:=[⟨27,5,x.op.toNat⟩,⟨24,3,x.d.toNat⟩,⟨21,3,x.n.toNat⟩,⟨18,3,x.m.toNat⟩,⟨0,12,qE x.aV⟩]
def bF.wd (x:bF):Nat:=(((x.op.toNat <<< 27 ||| x.d.toNat <<< 24) ||| x.n.toNat <<< 21) ||| x.m.toNat <<< 18) ||| qE x.aV
structure bF.Fit (x:bF):Prop where
 op:0≤x.op∧x.op<32
 d:0≤x.d∧x.d<8
 n:0≤x.n∧x.n<8
 m:0≤x.m∧x.m<8
 aV:-9223372036854775808≤x.aV∧x.aV<9223372036854775808
theorem bF.EE {x:bF} (h:x.may=true):x.Fit:=by
 unfold bF.may bF.base at h
 simp [PtD.bV] at h
 constructor<;>omega
theorem bF.EF {x:bF} (h:x.Fit):∀ f∈x.fds,f.Ok:=by
 obtain ⟨h1,h2,h3,h4,h5⟩:=h
 have:=uD x.aV
 intro f hf
 simp only [bF.fds,List.mem_cons,List.mem_nil_iff,or_false] at hf
 rcases hf with rfl | rfl | rfl | rfl | rfl<;>exact ⟨by simp,by simp,by simp;omega⟩
theorem bF.join {x:bF} (h:x.Fit):joinL x.fds 0 0=some (x.wd,4294967295 - 258048):=by
 obtain ⟨h1,h2,h3,h4,h5⟩:=h
 have:=uD x.aV
 have e:joinL x.fds 0 0=some (((((0 ||| (x.op.toNat <<< 27) % 18446744073709551616) ||| (x.d.toNat <<< 24) % 18446744073709551616) ||| (x.n.toNat <<< 21) % 18446744073709551616) ||| (x.m.toNat <<< 18) % 18446744073709551616) ||| (qE x.aV <<< 0) % 18446744073709551616,4294709247):=by
  have m1:∀ v,qg.mask ⟨27,5,v⟩=4160749568:=fun v=>by show (ig 5 <<< 27) % 18446744073709551616=_;decide
  have m2:∀ v,qg.mask ⟨24,3,v⟩=117440512:=fun v=>by show (ig 3 <<< 24) % 18446744073709551616=_;decide
  have m3:∀ v,qg.mask ⟨21,3,v⟩=14680064:=fun v=>by show (ig 3 <<< 21) % 18446744073709551616=_;decide
  have m4:∀ v,qg.mask ⟨18,3,v⟩=1835008:=fun v=>by show (ig 3 <<< 18) % 18446744073709551616=_;decide
  have m5:∀ v,qg.mask ⟨0,12,v⟩=4095:=fun v=>by show (ig 12 <<< 0) % 18446744073709551616=_;decide
  simp only [bF.fds,joinL,m1,m2,m3,m4,m5,qg.bits,Nat.zero_and,Nat.reduceAnd,Nat.reduceOr,decide_true,cond_true]
 rw [e]
 unfold bF.wd
 simp only [Nat.shiftLeft_eq,Nat.zero_or,Nat.reducePow,Nat.pow_zero,Nat.mul_one]
 rw [Nat.mod_eq_of_lt at7,Nat.mod_eq_of_lt at7,Nat.mod_eq_of_lt at7,Nat.mod_eq_of_lt at7,Nat.mod_eq_of_lt at7]
theorem GM (x:bF) (w:World):Fn Tryz.prog 119 [.agg (Kr x).toArray].toArray w [] (fun u _=>u=.int .i64 (bif x.may then 0 else 1)):=by
 refine enter Tryz.func119 ?_
 refine run ?_
 intro B
 refine run ?_
 refine ax (fun wc hG=>Xn x wc) ?_
 refine run ?_
 refine aj _ rfl (fun hc=>?_) (fun hc=>?_)
 ·rw [show x.may=false by simpa using hc]
  refine run ?_
  exact fin1 rfl
 ·rw [show x.may=true by simpa using hc]
  refine run ?_
  exact fin1 rfl
theorem MP (x:bF) (h:x.Fit) (w:World):Fn Tryz.prog 143 [.agg (Kr x).toArray].toArray w [] (fun u hn=>∃ h1,Own 149 3 u h1 (x.fds.map Eg)∧aC h1 hn):=by
 obtain ⟨h1,h2,h3,h4,h5⟩:=id h
 have h12:=uD x.aV
 refine enter Tryz.func143 ?_
 refine run ?_
 intro B
 refine fA au2 (jr ay rfl rfl rfl) ?_
 refine fA au2 (kR rfl rfl (IntKind.u64.wrap x.aV).toNat 4095 (by rw [IntKind.wrap_u64];omega) rfl (by rw [IntKind.wrap_u64];omega) au0) ?_
 rw [show (IntKind.u64.wrap x.aV).toNat &&& 4095=qE x.aV by rw [show (4095:Nat)=2 ^ 12 - 1 from rfl,Nat.and_two_pow_sub_one_eq_mod,IntKind.wrap_u64];unfold qE;omega]
 refine Es #[.int .i64 0,.int .i64 12,.int .u64 (qE x.aV:Nat)] ?_
 have e:zJ x.fds=[.int .i64 27,.int .i64 5,.int .u64 x.op,.int .i64 24,.int .i64 3,.int .u64 x.d,.int .i64 21,.int .i64 3,.int .u64 x.n,.int .i64 18,.int .i64 3,.int .u64 x.m,.int .i64 0,.int .i64 12,.int .u64 (qE x.aV:Nat)]:=by
  simp [zJ,bF.fds,Int.toNat_of_nonneg,h1.1,h2.1,h3.1,h4.1]
  omega
 refine qp ay (zl:=[.int .i64 0,.int .i64 0,.int .u64 0]) (out:=#[.int .i64 27,.int .i64 5,.int .u64 x.op,.int .i64 24,.int .i64 3,.int .u64 x.d,.int .i64 21,.int .i64 3,.int .u64 x.n,.int .i64 18,.int .i64 3,.int .u64 x.m,.int .i64 0,.int .i64 12,.int .u64 (qE x.aV:Nat)]) (out':=zJ x.fds) au2 au2 au2 (by (first | ((simp only [Value.cells])<;>rfl) | rfl)) au2 au2 au2 av6 (by rw [e]) (fun T=>?_)
 refine run ?_
 exact fin1 ⟨_,pF T 5 x.fds,by (exact ak)⟩
theorem CY (x:bF) (h:x.Fit) (w:World):Fn Tryz.prog 55 [.agg (Kr x).toArray].toArray w [] (fun u _=>u=.int .u32 (x.wd:Nat)):=by
 obtain ⟨h1,h2,h3,h4,h5⟩:=id h
 have h12:=uD x.aV
 refine enter Tryz.func55 ?_
 refine run ?_
 intro B
 refine run ?_
 refine fA au2 (jr ay rfl rfl rfl) ?_
 rw [show IntKind.u32.wrap x.op=(x.op.toNat:Int) by rw [IntKind.wrap_u32'];omega]
 refine fA au2 (wu rfl rfl au0 au0) ?_
 rw [show IntKind.u32.wrap ((x.op.toNat:Int) * 2 ^ (27:Int).toNat)=((x.op.toNat <<< 27:Nat):Int) by rw [IntKind.wrap_u32',Nat.shiftLeft_eq];simp;omega]
 refine run ?_
 refine fA au2 (jr ay rfl rfl rfl) ?_
 rw [show IntKind.u32.wrap x.d=(x.d.toNat:Int) by rw [IntKind.wrap_u32'];omega]
 refine fA au2 (wu rfl rfl au0 au0) ?_
 rw [show IntKind.u32.wrap ((x.d.toNat:Int) * 2 ^ (24:Int).toNat)=((x.d.toNat <<< 24:Nat):Int) by rw [IntKind.wrap_u32',Nat.shiftLeft_eq];simp;omega]
 refine run ?_
 refine fA au2 (ED rfl rfl (x.op.toNat <<< 27) (x.d.toNat <<< 24) rfl rfl au9 au9) ?_
 refine run ?_
 refine fA au2 (jr ay rfl rfl rfl) ?_
 rw [show IntKind.u32.wrap x.n=(x.n.toNat:Int) by rw [IntKind.wrap_u32'];omega]
 refine fA au2 (wu rfl rfl au0 au0) ?_
 rw [show IntKind.u32.wrap ((x.n.toNat:Int) * 2 ^ (21:Int).toNat)=((x.n.toNat <<< 21:Nat):Int) by rw [IntKind.wrap_u32',Nat.shiftLeft_eq];simp;omega]
 refine fA au2 (ED rfl rfl (x.op.toNat <<< 27 ||| x.d.toNat <<< 24) (x.n.toNat <<< 21) rfl rfl (Nat.or_lt_two_pow (n:=32) au9 au9) au9) ?_
 refine run ?_
 refine fA au2 (jr ay rfl rfl rfl) ?_
 rw [show IntKind.u32.wrap x.m=(x.m.toNat:Int) by rw [IntKind.wrap_u32'];omega]
 refine fA au2 (wu rfl rfl au0 au0) ?_
 rw [show IntKind.u32.wrap ((x.m.toNat:Int) * 2 ^ (18:Int).toNat)=((x.m.toNat <<< 18:Nat):Int) by rw [IntKind.wrap_u32',Nat.shiftLeft_eq];simp;omega]
 refine fA au2 (ED rfl rfl ((x.op.toNat <<< 27 ||| x.d.toNat <<< 24) ||| x.n.toNat <<< 21) (x.m.toNat <<< 18) rfl rfl (Nat.or_lt_two_pow (n:=32) (Nat.or_lt_two_pow (n:=32) au9 au9) au9) au9) ?_
 refine run ?_
 refine fA au2 (jr ay rfl rfl rfl) ?_
 refine fA au2 (xU rfl rfl (IntKind.u32.wrap x.aV).toNat 4095 (by rw [IntKind.wrap_u32'];omega) rfl (by rw [IntKind.wrap_u32'];omega) au0) ?_
 rw [show (IntKind.u32.wrap x.aV).toNat &&& 4095=qE x.aV by rw [show (4095:Nat)=2 ^ 12 - 1 from rfl,Nat.and_two_pow_sub_one_eq_mod,IntKind.wrap_u32'];unfold qE;omega]
 refine fA au2 (ED rfl rfl (((x.op.toNat <<< 27 ||| x.d.toNat <<< 24) ||| x.n.toNat <<< 21) ||| x.m.toNat <<< 18) (qE x.aV) rfl rfl (Nat.or_lt_two_pow (n:=32) (Nat.or_lt_two_pow (n:=32) (Nat.or_lt_two_pow (n:=32) au9 au9) au9) au9) at7) ?_
 refine run ?_
 exact fin1 rfl
theorem bF.VM {x:bF} (h:x.Fit):x.wd<4294967296:=by
 obtain ⟨h1,h2,h3,h4,h5⟩:=h
 have h12:=uD x.aV
 unfold bF.wd
 exact Nat.or_lt_two_pow (n:=32) (Nat.or_lt_two_pow (n:=32) (Nat.or_lt_two_pow (n:=32) (Nat.or_lt_two_pow (n:=32) au9 au9) au9) au9) at7
theorem Ku (x:bF) (w:World):Fn Tryz.prog 113 [.agg (Kr x).toArray].toArray w [] (fun u _=>u=bif x.may then .tuple #[.int .u32 (x.wd:Nat),.int .i64 0] else .tuple #[.int .u32 0,.int .i64 1]):=by
 refine enter Tryz.func113 ?_
 refine run ?_
 intro B
 refine run ?_
 refine ax (fun wc hG=>GM x wc) ?_
 cases hm:x.may with
 | false=>
  refine aW ?_
  exact fin2 rfl
 | true=>
  have hF:=bF.EE hm
  refine aW ?_
  refine gY (fun wc hG=>MP x hF wc) ?_
  rintro u hn ⟨h1,hO,hle⟩
  obtain ⟨q,c,e⟩:=hO.opened
  subst e
  refine aI h1 (cnt1 hle) ?_
  refine run ?_
  refine ax (fun wc hG=>zG x.fds (bF.EF hF) (hO.lie (fun b hb=>hG.here b hb) (by simp [bF.fds]))) ?_
  rw [bF.join hF]
  refine run ?_
  refine fA au2 (jr ay rfl rfl rfl) ?_
  rw [show IntKind.u32.wrap ((um (some (x.wd,4294967295 - 258048)):Nat):Int)=(x.wd:Int) by rw [IntKind.wrap_u32'];have:=bF.VM hF;simp only [um];omega]
  refine run ?_
  exact fin2 rfl
theorem Uh (v:Nat) (hv:v<4294967296) (w:World):Fn Tryz.prog 112 [.int .u64 (v:Nat),.int .i64 12].toArray w [] (fun u _=>u=.tuple #[.int .u64 (IntKind.u64.wrap (nS (v % 4096))),.int .i64 0]):=by
 refine enter Tryz.func112 ?_
 refine aW ?_
 refine fA au2 (wu rfl rfl au0 au0) ?_
 refine fA au2 (jr ay rfl rfl rfl) ?_
 refine aW ?_
 refine fA au2 (AP rfl rfl au0 au0) ?_
 have e:IntKind.i64.wrap (IntKind.u64.wrap ((v:Int) * 2 ^ ((64:Int) - 12).toNat)) / 2 ^ ((64:Int) - 12).toNat=nS (v % 4096):=by
  rw [IntKind.wrap_u64,IntKind.wrap_i64]
  have h2:(2:Int) ^ ((64:Int) - 12).toNat=4503599627370496:=rfl
  rw [h2]
  unfold nS
  cases hd:decide (2047<v % 4096) with
  | true=>
   have:=of_decide_eq_true hd
   rw [cond_true]
   omega
  | false=>
   have:=of_decide_eq_false hd
   rw [cond_false]
   omega
 rw [e]
 refine fA au2 (jr ay rfl rfl rfl) ?_
 refine run ?_
 exact fin2 rfl
def bF.MQ (v:Nat):bF:=⟨(aS v 27 5:Nat),(aS v 24 3:Nat),(aS v 21 3:Nat),(aS v 18 3:Nat),nS (v % 4096)⟩
def bF.BK (v:Nat):Bool:=(bF.MQ v).may && decide ((bF.MQ v).wd=v)
def bF.of (v:Nat):bF:=bif bF.BK v then bF.MQ v else default
theorem EG (v:Nat) (hv:v<4294967296) (a n:Nat) (hn:1≤n) (Yb:a + n≤32) (B:Nat) (w:World) (hB:w.cell? ⟨B,0,none⟩=some (.int .u32 (v:Nat))):Fn Tryz.prog 110 ([]++[Value.int .i64 (a:Nat),Value.int .i64 (n:Nat)]++[Value.pointer (some ⟨B,0,none⟩)]).toArray w [] (fun u _=>u=.int .i64 (aS v a n:Nat)):=by
 have hg:aS v a n<4294967296:=Nat.lt_of_le_of_lt (Nat.le_trans Nat.and_le_left aw1) hv
 refine enter Tryz.func110 ?_
 refine run ?_
 refine run ?_
 refine ax (fun wc hG=>Eh v a n hn at7 at7 wc) ?_
 refine run ?_
 exact fin1 rfl
theorem Zd (v:Nat) (hv:v<4294967296) (w:World):Fn Tryz.prog 71 [.int .u32 (v:Nat)].toArray w [] (fun u _=>u=.tuple #[.agg (Kr (bF.of v)).toArray,.int .i64 (bif bF.BK v then 0 else 9)]):=by
 refine enter Tryz.func71 ?_
 refine run ?_
 intro B X
 refine ax (fun wc hG=>Uh v hv wc) ?_
 refine run ?_
 refine oK (fun wc hG=>EG v hv 27 5 au0 au0 B wc av8) ?_
 refine run ?_
 refine oK (fun wc hG=>EG v hv 24 3 au0 au0 B wc av8) ?_
 refine run ?_
 refine oK (fun wc hG=>EG v hv 21 3 au0 au0 B wc av8) ?_
 refine run ?_
 refine oK (fun wc hG=>EG v hv 18 3 au0 au0 B wc av8) ?_
 refine run ?_
 have hs:-2048≤nS (v % 4096)∧nS (v % 4096)≤2047:=Qq _ (Nat.mod_lt _ au0)
 refine fA au2 (jr ay rfl rfl rfl) ?_
 rw [show IntKind.i64.wrap (IntKind.u64.wrap (nS (v % 4096)))=nS (v % 4096) by rw [IntKind.wrap_u64,IntKind.wrap_i64];omega]
 refine run ?_
 intro Y
 cases hm:(bF.MQ v).may with
 | false=>
  have e1:bF.BK v=false:=by unfold bF.BK;rw [hm];rfl
  have e2:bF.of v=default:=by unfold bF.of;rw [e1];rfl
  rw [e1,e2]
  refine ax (v:=.tuple #[.int .u32 0,.int .i64 1]) (fun wc hG=>by have:=Ku (bF.MQ v) wc;rw [hm] at this;exact this) ?_
  refine az ?_
  refine aj _ rfl (fun hc=>?_) (fun hc=>absurd hc au3)
  refine run ?_
  refine gy ?_
  rfl
 | true=>
  refine ax (v:=.tuple #[.int .u32 ((bF.MQ v).wd:Nat),.int .i64 0]) (fun wc hG=>by have:=Ku (bF.MQ v) wc;rw [hm] at this;exact this) ?_
  refine az ?_
  refine aj _ rfl (fun hc=>?_) (fun hc=>?_)
  ·have e1:bF.BK v=false:=by unfold bF.BK;rw [hm,Bool.true_and];exact decide_eq_false aw5
   have e2:bF.of v=default:=by unfold bF.of;rw [e1];rfl
   rw [e1,e2]
   refine run ?_
   refine gy ?_
   rfl
  ·have e1:bF.BK v=true:=by unfold bF.BK;rw [hm,Bool.true_and];exact decide_eq_true aw5
   have e2:bF.of v=bF.MQ v:=by unfold bF.of;rw [e1];rfl
   rw [e1,e2]
   refine run ?_
   refine gy ?_
   rfl
theorem Ui (v:Nat) (hv:v<4294967296) (w:World):Fn Tryz.prog 57 [.int .u32 (v:Nat)].toArray w [] (fun u _=>u=.tuple #[.agg (Kr (bF.of v)).toArray,.bool (bF.BK v)]):=by
 have g1:aS v 27 5≤31:=og v 27 5
 have g2:aS v 24 3≤7:=og v 24 3
 have g3:aS v 21 3≤7:=og v 21 3
 have g4:aS v 18 3≤7:=og v 18 3
 refine enter Tryz.func57 ?_
 refine run ?_
 intro X
 refine fA au2 (AP rfl rfl au0 au0) ?_
 rw [show (v:Int) / (2:Int) ^ (27:Int).toNat=(aS v 27 5:Nat) by unfold aS;rw [Nat.shiftRight_eq_div_pow,show ig 5=2 ^ 5 - 1 from rfl,Nat.and_two_pow_sub_one_eq_mod];simp;omega]
 refine fA au2 (nU ay rfl rfl rfl at7 at7) ?_
 refine run ?_
 refine fA au2 (AP rfl rfl au0 au0) ?_
 rw [show (v:Int) / (2:Int) ^ (24:Int).toNat=((v >>> 24:Nat):Int) by rw [Nat.shiftRight_eq_div_pow];simp]
 refine fA au2 (xU rfl rfl (v >>> 24) 7 rfl rfl ay8 au0) ?_
 rw [show v >>> 24 &&& 7=aS v 24 3 from rfl]
 refine fA au2 (nU ay rfl rfl rfl at7 at7) ?_
 refine run ?_
 refine fA au2 (AP rfl rfl au0 au0) ?_
 rw [show (v:Int) / (2:Int) ^ (21:Int).toNat=((v >>> 21:Nat):Int) by rw [Nat.shiftRight_eq_div_pow];simp]
 refine fA au2 (xU rfl rfl (v >>> 21) 7 rfl rfl ay8 au0) ?_
 rw [show v >>> 21 &&& 7=aS v 21 3 from rfl]
 refine fA au2 (nU ay rfl rfl rfl at7 at7) ?_
 refine run ?_
 refine fA au2 (AP rfl rfl au0 au0) ?_
 rw [show (v:Int) / (2:Int) ^ (18:Int).toNat=((v >>> 18:Nat):Int) by rw [Nat.shiftRight_eq_div_pow];simp]
 refine fA au2 (xU rfl rfl (v >>> 18) 7 rfl rfl ay8 au0) ?_
 rw [show v >>> 18 &&& 7=aS v 18 3 from rfl]
 refine fA au2 (nU ay rfl rfl rfl at7 at7) ?_
 refine run ?_
 refine fA au2 (xU rfl rfl v 4095 rfl rfl hv au0) ?_
 rw [show v &&& 4095=v % 4096 from Nat.and_two_pow_sub_one_eq_mod v 12]
 refine run ?_
 intro Y
 refine dW (σ:=Unit) (fun _=>[]) (fun _=>⟨Y,#[.int .i64 (aS v 27 5:Nat),.int .i64 (aS v 24 3:Nat),.int .i64 (aS v 21 3:Nat),.int .i64 (aS v 18 3:Nat),.int .i64 (nS (v % 4096))],41⟩::⟨X,#[.int .i64 0,.int .i64 0,.int .i64 0,.int .i64 0,.int .i64 0],41⟩::[]) (fun _=>True) ?_ ?_
 ·refine aj _ rfl (fun hc=>?_) (fun hc=>?_)
  ·have e:nS (v % 4096)=((v % 4096:Nat):Int) - 4096:=by
    unfold nS
    rw [show decide (2047<v % 4096)=true by simp at hc;exact decide_eq_true at7];rfl
   rw [e]
   refine run ?_
   exact dA () trivial (h2:=by (exact ak))
  ·have e:nS (v % 4096)=((v % 4096:Nat):Int):=by
    unfold nS
    rw [show decide (2047<v % 4096)=false by simp at hc;exact decide_eq_false at7];rfl
   rw [e]
   refine run ?_
   exact dA () trivial (h2:=by (exact ak))
 rintro ⟨⟩ -
 refine run ?_
 refine ax (fun wc hG=>Kt (bF.MQ v) wc) ?_
 cases hm:(bF.MQ v).may with
 | false=>
  have e1:bF.BK v=false:=by unfold bF.BK;rw [hm];rfl
  have e2:bF.of v=default:=by unfold bF.of;rw [e1];rfl
  rw [e1,e2]
  refine az ?_
  refine aj _ rfl (fun hc=>?_) (fun hc=>absurd hc au3)
  refine run ?_
  refine gy ?_
  rfl
 | true=>
  refine az ?_
  refine aZ (fun hw wc hG=>CY (bF.MQ v) (bF.EE hm) wc) ?_
  refine az ?_
  refine aj _ rfl (fun hc=>?_) (fun hc=>?_)
  ·have e1:bF.BK v=false:=by unfold bF.BK;rw [hm,Bool.true_and];exact decide_eq_false aw5
   have e2:bF.of v=default:=by unfold bF.of;rw [e1];rfl
   rw [e1,e2]
   refine run ?_
   refine gy ?_
   rfl
  ·have e1:bF.BK v=true:=by unfold bF.BK;rw [hm,Bool.true_and];exact decide_eq_true aw5
   have e2:bF.of v=bF.MQ v:=by unfold bF.of;rw [e1];rfl
   rw [e1,e2]
   refine run ?_
   refine gy ?_
   rfl
def AQ (x:bF) (n m:Nat):Int:=
 bif decide (x.op=1) then IntKind.u64.wrap x.aV
 else bif decide (x.op=2) then ((n:Int) + m + x.aV) % 18446744073709551616
 else bif decide (x.op=3) then ((n:Int) - m - x.aV) % 18446744073709551616
 else bif decide (x.op=4) then ((n &&& m:Nat):Int)
 else bif decide (x.op=5) then ((n ||| m:Nat):Int) else ((n ^^^ m:Nat):Int)
def sumW:List Int→Int→Int
 | [],a=>a
 | x::r,a=>sumW r (IntKind.u64.wrap (a + x))
theorem MR {xs:List Int} {k:Nat} (h:k<xs.length) (a:Int):sumW (xs.drop k) a=sumW (xs.drop (k + 1)) (IntKind.u64.wrap (a + xs.getD k 0)):=by
 rw [List.drop_eq_getElem_cons h,sumW,List.getD_eq_getElem?_getD,List.getElem?_eq_getElem h];rfl
theorem Qr (xs:List Int) {w:World} {v:Value} (h:aB w v 1 (xs.map fun a=>[Value.int .u64 a])):Fn Tryz.prog 120 [v].toArray w [] (fun u _=>u=.int .u64 (sumW xs 0)):=by
 obtain ⟨q,cap,rfl,hne,hle⟩:=h.opened
 refine enter Tryz.func120 ?_
 refine run ?_
 refine cu (σ:=Nat × Int) (fun s=>[(8,.int .i64 (s.1:Int)),(3,.int .u64 s.2)]) (fun _=>[]) (fun s=>s.1≤xs.length∧sumW (xs.drop s.1) s.2=sumW xs 0) (fun s=>xs.length - s.1) (0,0) ⟨Nat.zero_le _,rfl⟩ ?_
 rintro ⟨k,a⟩ m hm ⟨hk,hj⟩
 dsimp only at hm hk hj ⊢
 refine run ?_
 refine aj _ rfl (fun hc=>?_) (fun hc=>?_)
 ·have hlt:k<xs.length:=by simpa using hc
  obtain ⟨b,o,rfl⟩:=hne au4
  have hr:=h.row hlt
  rw [MR hlt] at hj
  have h1:=dm (h.row hlt)
  simp only [Nat.mul_one] at h1
  rw [show (xs.getD k 0)=xs.getD k default from rfl] at hj
  refine run ?_
  exact bI (k + 1,IntKind.u64.wrap (a + xs.getD k default)) ⟨hlt,hj⟩
 ·have hk0:k=xs.length:=by simp at hc;omega
  subst hk0
  rw [List.drop_length] at hj
  rw [← hj]
  refine run ?_
  exact fin1 rfl
theorem Xo (op d rn rm aV:Int) (h1:1≤op) (h6:op≤6) (n m:Nat) (hn:gm n) (hm:gm m) (w:World):Fn Tryz.prog 91 [.agg #[.int .i64 op,.int .i64 d,.int .i64 rn,.int .i64 rm,.int .i64 aV],.int .u64 (n:Nat),.int .u64 (m:Nat)].toArray w [] (fun u _=>u=.int .u64 (AQ ⟨op,d,rn,rm,aV⟩ n m)):=by
 refine enter Tryz.func91 ?_
 refine run ?_
 intro B
 refine run ?_
 refine fA au2 (jr ay rfl rfl rfl) ?_
 obtain rfl | rfl | rfl | rfl | rfl | rfl:op=1∨op=2∨op=3∨op=4∨op=5∨op=6:=by omega
 all_goals refine aW ?_
 ·exact fin1 rfl
 ·refine fin1 ?_
  show _=Value.int .u64 (((n:Int) + m + aV) % 18446744073709551616)
  congr 1
  simp only [IntKind.wrap_u64]
  omega
 ·refine fin1 ?_
  show _=Value.int .u64 (((n:Int) - m - aV) % 18446744073709551616)
  congr 1
  simp only [IntKind.wrap_u64]
  omega
 ·refine fA au2 (kR rfl rfl n m rfl rfl hn hm) ?_
  refine run ?_
  exact fin1 rfl
 ·refine fA au2 (vC rfl rfl n m rfl rfl hn hm) ?_
  refine run ?_
  exact fin1 rfl
 ·refine fA au2 (Jb rfl rfl n m rfl rfl hn hm) ?_
  refine run ?_
  exact fin1 rfl
theorem Xp (op d rn rm aV:Int) (hx:(⟨op,d,rn,rm,aV⟩:bF).may=true) (h6:op≤6) (n m:Nat) (hn:gm n) (hm:gm m) (w:World):Fn Tryz.prog 79 [.agg #[.int .i64 op,.int .i64 d,.int .i64 rn,.int .i64 rm,.int .i64 aV],.int .u64 (n:Nat),.int .u64 (m:Nat)].toArray w [] (fun u _=>u=.tuple #[.int .u64 (AQ ⟨op,d,rn,rm,aV⟩ n m),.int .i64 0]):=by
 refine enter Tryz.func79 ?_
 refine run ?_
 intro B
 refine run ?_
 refine ax (fun wc hG=>GM ⟨op,d,rn,rm,aV⟩ wc) ?_
 rw [hx]
 refine aW ?_
 refine fA au2 (jr ay rfl rfl rfl) ?_
 have h1:1≤op:=by unfold bF.may bF.base at hx;simp [PtD.bV] at hx;omega
 clear hx
 obtain rfl | rfl | rfl | rfl | rfl | rfl:op=1∨op=2∨op=3∨op=4∨op=5∨op=6:=by omega
 all_goals refine aW ?_
 ·exact fin2 rfl
 ·intro T
  refine ax (fun wc hG=>Qr [(n:Int),(m:Int),IntKind.u64.wrap aV] ((rC (e:=25) (t:=25) T 3 [.int .u64 (n:Nat),.int .u64 (m:Nat),.int .u64 (IntKind.u64.wrap aV)] (xs:=[(n:Int),(m:Int),IntKind.u64.wrap aV].map fun a=>[Value.int .u64 a]) rfl rfl ay6).lie (fun b hb=>hG.here b ax8) au3)) ?_
  refine run ?_
  refine fin2 ?_
  show _=Value.tuple #[.int .u64 (((n:Int) + m + aV) % 18446744073709551616),.int .i64 0]
  have e:sumW [(n:Int),(m:Int),IntKind.u64.wrap aV] 0=((n:Int) + m + aV) % 18446744073709551616:=by
   simp only [sumW,IntKind.wrap_u64]
   omega
  rw [e]
 ·refine fA au2 (Qp rfl) ?_
  refine run ?_
  refine fA au2 (Qp rfl) ?_
  refine run ?_
  intro T
  refine ax (fun wc hG=>Qr [(n:Int),IntKind.u64.wrap (-(m:Int)),IntKind.u64.wrap (-(IntKind.u64.wrap aV))] ((rC (e:=25) (t:=25) T 3 [.int .u64 (n:Nat),.int .u64 (IntKind.u64.wrap (-(m:Int))),.int .u64 (IntKind.u64.wrap (-(IntKind.u64.wrap aV)))] (xs:=[(n:Int),IntKind.u64.wrap (-(m:Int)),IntKind.u64.wrap (-(IntKind.u64.wrap aV))].map fun a=>[Value.int .u64 a]) rfl rfl ay6).lie (fun b hb=>hG.here b ax8) au3)) ?_
  refine run ?_
  refine fin2 ?_
  show _=Value.tuple #[.int .u64 (((n:Int) - m - aV) % 18446744073709551616),.int .i64 0]
  have e:sumW [(n:Int),IntKind.u64.wrap (-(m:Int)),IntKind.u64.wrap (-(IntKind.u64.wrap aV))] 0=((n:Int) - m - aV) % 18446744073709551616:=by
   simp only [sumW,IntKind.wrap_u64]
   omega
  rw [e]
 ·refine fA au2 (kR rfl rfl n m rfl rfl hn hm) ?_
  refine run ?_
  exact fin2 rfl
 ·refine fA au2 (vC rfl rfl n m rfl rfl hn hm) ?_
  refine run ?_
  exact fin2 rfl
 ·refine fA au2 (Jb rfl rfl n m rfl rfl hn hm) ?_
  refine run ?_
  exact fin2 rfl
theorem Ze (x:bF) (h1:1≤x.op) (h6:x.op≤6) (n m:Nat) (hn:gm n) (hm:gm m) (w:World):Fn Tryz.prog 91 [.agg (Kr x).toArray,.int .u64 (n:Nat),.int .u64 (m:Nat)].toArray w [] (fun u _=>u=.int .u64 (AQ x n m)):=Xo _ _ _ _ _ h1 h6 n m hn hm w
theorem Zf (x:bF) (hx:x.may=true) (h6:x.op≤6) (n m:Nat) (hn:gm n) (hm:gm m) (w:World):Fn Tryz.prog 79 [.agg (Kr x).toArray,.int .u64 (n:Nat),.int .u64 (m:Nat)].toArray w [] (fun u _=>u=.tuple #[.int .u64 (AQ x n m),.int .i64 0]):=Xp _ _ _ _ _ hx h6 n m hn hm w
def mW.fds (f:mW):List qg:=[⟨0,3,f.kind.toNat⟩,⟨3,2,f.stage.toNat⟩,⟨5,2,f.level.toNat⟩,⟨7,1,bif f.walk then 1 else 0⟩,⟨8,12,f.page.toNat⟩]
def Jl (f:mW):Nat:=um (joinL f.fds 0 0)
structure mW.Fit (f:mW):Prop where
 kind:0≤f.kind∧f.kind≤4
 stage:0≤f.stage∧f.stage≤2
 level:0≤f.level∧f.level≤3
 page:0≤f.page∧f.page≤4095
theorem mW.EF {f:mW} (h:f.Fit):∀ g∈f.fds,g.Ok:=by
 obtain ⟨h1,h2,h3,h4⟩:=h
 intro g hg
 simp only [mW.fds,List.mem_cons,List.mem_nil_iff,or_false] at hg
 rcases hg with rfl | rfl | rfl | rfl | rfl
 ·exact ⟨by simp,by simp,by simp;omega⟩
 ·exact ⟨by simp,by simp,by simp;omega⟩
 ·exact ⟨by simp,by simp,by simp;omega⟩
 ·exact ⟨by simp,by simp,by cases f.walk<;>simp⟩
 ·exact ⟨by simp,by simp,by simp;omega⟩
theorem Qs (f:mW) (w:World):Fn Tryz.prog 161 [xQ f].toArray w [] (fun u hn=>∃ T,u=.slice (some ⟨T,0,none⟩) 5 5∧aC [⟨T,#[.int .i64 0,.int .i64 3,.int .u64 0,.int .i64 4,.int .i64 f.kind,.int .i64 3,.int .i64 2,.int .u64 0,.int .i64 2,.int .i64 f.stage,.int .i64 5,.int .i64 2,.int .u64 0,.int .i64 3,.int .i64 f.level,.int .i64 7,.int .i64 1,.int .u64 0,.int .i64 1,.int .i64 (bif f.walk then 1 else 0),.int .i64 8,.int .i64 12,.int .u64 0,.int .i64 4095,.int .i64 f.page],228⟩] hn):=by
 refine enter Tryz.func161 ?_
 refine run ?_
 intro B
 refine run ?_
 refine dW (σ:=Unit) (fun _=>[(3,.int .i64 (bif f.walk then 1 else 0))]) (fun _=>⟨B,#[.int .i64 f.kind,.int .i64 f.stage,.int .i64 f.level,.bool f.walk,.int .i64 f.page],43⟩::[]) (fun _=>True) ?_ ?_
 ·refine aj _ rfl (fun hc=>?_) (fun hc=>?_)
  ·rw [hc,cond_true]
   refine run ?_
   exact dA () trivial (h2:=by (exact ak))
  ·rw [hc,cond_false]
   refine run ?_
   exact dA () trivial (h2:=by (exact ak))
 rintro ⟨⟩ -
 refine Zc ?_
 refine Ug #[.int .i64 0,.int .i64 3,.int .u64 0,.int .i64 4,.int .i64 f.kind,.int .i64 3,.int .i64 2,.int .u64 0,.int .i64 2,.int .i64 f.stage,.int .i64 5,.int .i64 2,.int .u64 0,.int .i64 3,.int .i64 f.level,.int .i64 7,.int .i64 1,.int .u64 0,.int .i64 1,.int .i64 (bif f.walk then 1 else 0),.int .i64 8,.int .i64 12,.int .u64 0,.int .i64 4095,.int .i64 f.page] (#[.int .i64 0,.int .i64 3,.int .u64 0,.int .i64 4,.int .i64 f.kind,.int .i64 3,.int .i64 2,.int .u64 0,.int .i64 2,.int .i64 f.stage,.int .i64 5,.int .i64 2,.int .u64 0,.int .i64 3,.int .i64 f.level,.int .i64 7,.int .i64 1,.int .u64 0,.int .i64 1,.int .i64 (bif f.walk then 1 else 0),.int .i64 8,.int .i64 12,.int .u64 0,.int .i64 4095,.int .i64 f.page]).toList (fun T=>?_) au2
 refine run ?_
 exact fin1 ⟨T,rfl,by (exact ak)⟩
theorem mW.Zg {f:mW} (h:f.Fit):zJ f.fds=[.int .i64 0,.int .i64 3,.int .u64 f.kind,.int .i64 3,.int .i64 2,.int .u64 f.stage,.int .i64 5,.int .i64 2,.int .u64 f.level,.int .i64 7,.int .i64 1,.int .u64 (bif f.walk then 1 else 0),.int .i64 8,.int .i64 12,.int .u64 f.page]:=by
 obtain ⟨h1,h2,h3,h4⟩:=h
 cases hw:f.walk<;>simp [zJ,mW.fds,hw]<;>omega
theorem Xq (f:mW) (h:f.Fit) (w:World):Fn Tryz.prog 151 [xQ f].toArray w [] (fun u _=>u=.int .u64 (Jl f:Nat)):=by
 obtain ⟨h1,h2,h3,h4⟩:=id h
 have e:=mW.Zg h
 refine enter Tryz.func151 ?_
 refine run ?_
 intro B
 refine run ?_
 refine Eu 28 19 [0,1,2,3,4,5,6,7,8,9,10,11,12,13,14,15,16,17,18] [(19,false),(20,false),(21,true),(22,true),(23,true),(24,true),(25,false),(26,false),(27,false)] _ ?_ (aC.refl _)
 refine bY ?_
 refine Ed rfl aw3 (fun hx2=>fH (fP 179 rfl) rfl (fun wc hG=>pX 7 f.walk wc)) ?_
 refine bY ?_
 refine xC ?_
 refine vY (out:=#[.int .i64 0,.int .i64 3,.int .u64 f.kind,.int .i64 3,.int .i64 2,.int .u64 f.stage,.int .i64 5,.int .i64 2,.int .u64 f.level,.int .i64 7,.int .i64 1,.int .u64 (bif f.walk then 1 else 0),.int .i64 8,.int .i64 12,.int .u64 f.page]) (zJ f.fds) (fun T=>?_) (hf:=by kernel_rfl) (hn:=by rw [e])
 refine aG ?_
 refine xC ?_
 refine ug (fun wc hG=>xH f.fds (mW.EF h) ((pF T 5 f.fds).lie (fun b hb=>hG.here b ax8) (by simp [mW.fds]))) (fun u hn hR=>?_)
 obtain ⟨rfl,rfl⟩:=hR
 refine aG ?_
 refine VJ ?_
 refine qC ?_
 refine qC ?_
 refine qC ?_
 refine xC ?_
 refine sH (fun hx=>eP rfl) ?_
 refine aG ?_
 refine xC ?_
 refine sH (fun hx=>eP rfl) ?_
 refine aG ?_
 refine xC ?_
 refine sH (fun hx=>eP rfl) ?_
 refine aG ?_
 refine TY ?_
 refine zk ?_
 simp only [List.cons_append,List.nil_append,List.append_nil]
 refine run ?_
 exact fin1 rfl
def mW.rows (f:mW):List (List Value):=[[.int .i64 0,.int .i64 3,.int .u64 f.kind],[.int .i64 3,.int .i64 2,.int .u64 f.stage],[.int .i64 5,.int .i64 2,.int .u64 f.level],[.int .i64 7,.int .i64 1,.int .u64 (bif f.walk then 1 else 0)],[.int .i64 8,.int .i64 12,.int .u64 f.page]]
theorem mW.Zh {f:mW} (h:f.Fit):f.rows=f.fds.map Eg:=by
 obtain ⟨h1,h2,h3,h4⟩:=h
 cases hw:f.walk<;>simp [mW.rows,mW.fds,hw]<;>omega
theorem Uj (f:mW) (h:f.Fit) (w:World):Fn Tryz.prog 135 [xQ f].toArray w [] (fun u _=>∃ e,u=.tuple #[.int .u64 (Jl f:Nat),.int .i64 e]):=by
 obtain ⟨h1,h2,h3,h4⟩:=id h
 have hwk:(0:Int)≤(bif f.walk then 1 else 0)∧(bif f.walk then (1:Int) else 0)≤1:=by cases f.walk<;>decide
 refine enter Tryz.func135 ?_
 refine run ?_
 intro B
 refine run ?_
 refine gY (fun wc hG=>Qs f wc) ?_
 rintro u hn ⟨T,rfl,hle⟩
 refine aI (⟨T,#[.int .i64 0,.int .i64 3,.int .u64 0,.int .i64 4,.int .i64 f.kind,.int .i64 3,.int .i64 2,.int .u64 0,.int .i64 2,.int .i64 f.stage,.int .i64 5,.int .i64 2,.int .u64 0,.int .i64 3,.int .i64 f.level,.int .i64 7,.int .i64 1,.int .u64 0,.int .i64 1,.int .i64 (bif f.walk then 1 else 0),.int .i64 8,.int .i64 12,.int .u64 0,.int .i64 4095,.int .i64 f.page],228⟩::[]) (cnt1 hle) ?_
 refine run ?_
 refine cu (σ:=Nat × Value × Hp) (fun s=>[(4,s.2.1),(10,.int .i64 (s.1:Int))]) (fun s=>s.2.2++[⟨T,#[.int .i64 0,.int .i64 3,.int .u64 0,.int .i64 4,.int .i64 f.kind,.int .i64 3,.int .i64 2,.int .u64 0,.int .i64 2,.int .i64 f.stage,.int .i64 5,.int .i64 2,.int .u64 0,.int .i64 3,.int .i64 f.level,.int .i64 7,.int .i64 1,.int .u64 0,.int .i64 1,.int .i64 (bif f.walk then 1 else 0),.int .i64 8,.int .i64 12,.int .u64 0,.int .i64 4095,.int .i64 f.page],228⟩]) (fun s=>s.1≤5∧Acc 149 3 s.2.1 s.2.2 (f.rows.take s.1)) (fun s=>5 - s.1) (0,_,[]) ⟨by omega,Acc.nil _ _⟩ ?_
 rintro ⟨k,v,ha⟩ m hm ⟨hk,hA⟩
 dsimp only at hm hk hA ⊢
 refine run ?_
 refine aj _ rfl (fun hc=>?_) (fun hc=>?_)
 ·have hlt:k<5:=by simp at hc;omega
  obtain rfl | rfl | rfl | rfl | rfl:k=0∨k=1∨k=2∨k=3∨k=4:=by omega
  ·refine az ?_
   intro P
   refine aj _ rfl (fun hc=>absurd hc au') (fun _=>?_)
   refine run ?_
   intro X
   refine jA (hp':=⟨X,#[.int .i64 0,.int .i64 3,.int .u64 f.kind],149⟩::⟨P,#[.int .i64 0,.int .i64 3,.int .u64 f.kind,.int .i64 4,.int .i64 f.kind],228⟩::⟨T,#[.int .i64 0,.int .i64 3,.int .u64 0,.int .i64 4,.int .i64 f.kind,.int .i64 3,.int .i64 2,.int .u64 0,.int .i64 2,.int .i64 f.stage,.int .i64 5,.int .i64 2,.int .u64 0,.int .i64 3,.int .i64 f.level,.int .i64 7,.int .i64 1,.int .u64 0,.int .i64 1,.int .i64 (bif f.walk then 1 else 0),.int .i64 8,.int .i64 12,.int .u64 0,.int .i64 4095,.int .i64 f.page],228⟩::[]) (c:=[.int .i64 0,.int .i64 3,.int .u64 f.kind]) hA (fun v' ha' hA'=>?_) az1 (bP (m:=3) mh rfl) (hperm:=by (exact au))
   refine run ?_
   exact bI (1,v',ha') ⟨by omega,hA'⟩ (h2:=by (exact ak))
  ·refine az ?_
   intro P
   refine aj _ rfl (fun hc=>absurd hc au') (fun _=>?_)
   refine run ?_
   intro X
   refine jA (hp':=⟨X,#[.int .i64 3,.int .i64 2,.int .u64 f.stage],149⟩::⟨P,#[.int .i64 3,.int .i64 2,.int .u64 f.stage,.int .i64 2,.int .i64 f.stage],228⟩::⟨T,#[.int .i64 0,.int .i64 3,.int .u64 0,.int .i64 4,.int .i64 f.kind,.int .i64 3,.int .i64 2,.int .u64 0,.int .i64 2,.int .i64 f.stage,.int .i64 5,.int .i64 2,.int .u64 0,.int .i64 3,.int .i64 f.level,.int .i64 7,.int .i64 1,.int .u64 0,.int .i64 1,.int .i64 (bif f.walk then 1 else 0),.int .i64 8,.int .i64 12,.int .u64 0,.int .i64 4095,.int .i64 f.page],228⟩::[]) (c:=[.int .i64 3,.int .i64 2,.int .u64 f.stage]) hA (fun v' ha' hA'=>?_) az1 (bP (m:=3) mh rfl) (hperm:=by (exact au))
   refine run ?_
   exact bI (2,v',ha') ⟨by omega,hA'⟩ (h2:=by (exact ak))
  ·refine az ?_
   intro P
   refine aj _ rfl (fun hc=>absurd hc au') (fun _=>?_)
   refine run ?_
   intro X
   refine jA (hp':=⟨X,#[.int .i64 5,.int .i64 2,.int .u64 f.level],149⟩::⟨P,#[.int .i64 5,.int .i64 2,.int .u64 f.level,.int .i64 3,.int .i64 f.level],228⟩::⟨T,#[.int .i64 0,.int .i64 3,.int .u64 0,.int .i64 4,.int .i64 f.kind,.int .i64 3,.int .i64 2,.int .u64 0,.int .i64 2,.int .i64 f.stage,.int .i64 5,.int .i64 2,.int .u64 0,.int .i64 3,.int .i64 f.level,.int .i64 7,.int .i64 1,.int .u64 0,.int .i64 1,.int .i64 (bif f.walk then 1 else 0),.int .i64 8,.int .i64 12,.int .u64 0,.int .i64 4095,.int .i64 f.page],228⟩::[]) (c:=[.int .i64 5,.int .i64 2,.int .u64 f.level]) hA (fun v' ha' hA'=>?_) az1 (bP (m:=3) mh rfl) (hperm:=by (exact au))
   refine run ?_
   exact bI (3,v',ha') ⟨by omega,hA'⟩ (h2:=by (exact ak))
  ·refine az ?_
   intro P
   refine aj _ rfl (fun hc=>absurd hc au') (fun _=>?_)
   refine run ?_
   intro X
   refine jA (hp':=⟨X,#[.int .i64 7,.int .i64 1,.int .u64 (bif f.walk then 1 else 0)],149⟩::⟨P,#[.int .i64 7,.int .i64 1,.int .u64 (bif f.walk then 1 else 0),.int .i64 1,.int .i64 (bif f.walk then 1 else 0)],228⟩::⟨T,#[.int .i64 0,.int .i64 3,.int .u64 0,.int .i64 4,.int .i64 f.kind,.int .i64 3,.int .i64 2,.int .u64 0,.int .i64 2,.int .i64 f.stage,.int .i64 5,.int .i64 2,.int .u64 0,.int .i64 3,.int .i64 f.level,.int .i64 7,.int .i64 1,.int .u64 0,.int .i64 1,.int .i64 (bif f.walk then 1 else 0),.int .i64 8,.int .i64 12,.int .u64 0,.int .i64 4095,.int .i64 f.page],228⟩::[]) (c:=[.int .i64 7,.int .i64 1,.int .u64 (bif f.walk then 1 else 0)]) hA (fun v' ha' hA'=>?_) az1 (bP (m:=3) mh rfl) (hperm:=by (exact au))
   refine run ?_
   exact bI (4,v',ha') ⟨by omega,hA'⟩ (h2:=by (exact ak))
  ·refine az ?_
   intro P
   refine aj _ rfl (fun hc=>absurd hc au') (fun _=>?_)
   refine run ?_
   intro X
   refine jA (hp':=⟨X,#[.int .i64 8,.int .i64 12,.int .u64 f.page],149⟩::⟨P,#[.int .i64 8,.int .i64 12,.int .u64 f.page,.int .i64 4095,.int .i64 f.page],228⟩::⟨T,#[.int .i64 0,.int .i64 3,.int .u64 0,.int .i64 4,.int .i64 f.kind,.int .i64 3,.int .i64 2,.int .u64 0,.int .i64 2,.int .i64 f.stage,.int .i64 5,.int .i64 2,.int .u64 0,.int .i64 3,.int .i64 f.level,.int .i64 7,.int .i64 1,.int .u64 0,.int .i64 1,.int .i64 (bif f.walk then 1 else 0),.int .i64 8,.int .i64 12,.int .u64 0,.int .i64 4095,.int .i64 f.page],228⟩::[]) (c:=[.int .i64 8,.int .i64 12,.int .u64 f.page]) hA (fun v' ha' hA'=>?_) az1 (bP (m:=3) mh rfl) (hperm:=by (exact au))
   refine run ?_
   exact bI (5,v',ha') ⟨by omega,hA'⟩ (h2:=by (exact ak))
 ·have:k=5:=by simp at hc;omega
  subst this
  refine run ?_
  rw [List.take_of_length_le az1,mW.Zh h] at hA
  refine ax (fun wc hG=>zG f.fds (mW.EF h) (hA.ab7 hG (fun b hb=>List.mem_append_left _ hb) (by simp [mW.fds]))) ?_
  refine run ?_
  exact fin2 ⟨_,rfl⟩
end
abbrev GN (w w':World):Prop:=∃ hp,Good w [] hp w'
section
attribute [local irreducible] Hy St Ops DH gq
theorem GR {w:World} {F:Nat} {us:List Value} (p:Int→Bool) (xs:List (Int)) (v:Value) (h:aB w v 1 (xs.map dN)) (hF:∀ x,x∈xs→∀ w',GN w w'→Fn Tryz.prog F ([]++[Value.int .i64 x]++us).toArray w' [] (fun u _=>u=.bool (p x))) (dU:mem mM F=true:=by rfl):
  Fn Tryz.prog 192 [v,.func (.func F) [].toArray us.toArray].toArray w [] (fun u _=>u=.int .i64 (fJ p xs)):=by
 obtain ⟨q,cap,rfl,hne,hle⟩:=h.opened
 refine enter Tryz.func192 ?_
 refine run ?_
 refine cu (σ:=Nat) (fun k=>[(8,.int .i64 (k:Int))]) (fun _=>[]) (fun k=>k≤xs.length∧∀ j,j<k→p (xs.getD j default)=false) (fun k=>xs.length - k) 0 ⟨Nat.zero_le _,fun j hj=>absurd hj at7⟩ ?_
 rintro k m rfl ⟨hk,hno⟩
 refine run ?_
 refine aj _ rfl (fun hc=>?_) (fun hc=>?_)
 ·have hlt:k<xs.length:=by simpa using hc
  obtain ⟨b,o,rfl⟩:=hne au4
  have hr:=dm (h.row hlt)
  simp only [Nat.mul_one] at hr
  refine run ?_
  refine oK (fun wc hG=>hF (xs.getD k default) (getD_mem hlt) wc ⟨_,hG⟩) (dU:=dU) ?_
  refine run ?_
  refine aj _ rfl (fun hp=>?_) (fun hp=>?_)
  ·refine run ?_
   refine fin1 ?_
   rw [iL hlt hp hno]
  ·refine run ?_
   refine bI (k + 1) ⟨hlt,fun j hj=>?_⟩
   rcases Nat.lt_succ_iff_lt_or_eq.1 hj with hj | rfl
   ·exact hno j hj
   ·exact hp
 ·have hge:k=xs.length:=by simp at hc;omega
  subst hge
  refine run ?_
  refine fin1 ?_
  rw [fK hno]
theorem Jm {w:World} {F:Nat} {us:List Value} (p:dh→Bool) (xs:List (dh)) (v:Value) (h:aB w v 4 (xs.map dG)) (hF:∀ x,x∈xs→∀ w',GN w w'→Fn Tryz.prog F ([]++[Value.agg (dG x).toArray]++us).toArray w' [] (fun u _=>u=.bool (p x))) (dU:mem mM F=true:=by rfl):
  Fn Tryz.prog 134 [v,.func (.func F) [].toArray us.toArray].toArray w [] (fun u _=>u=.int .i64 (fJ p xs)):=by
 obtain ⟨q,cap,rfl,hne,hle⟩:=h.opened
 refine enter Tryz.func134 ?_
 refine run ?_
 refine cu (σ:=Nat) (fun k=>[(8,.int .i64 (k:Int))]) (fun _=>[]) (fun k=>k≤xs.length∧∀ j,j<k→p (xs.getD j default)=false) (fun k=>xs.length - k) 0 ⟨Nat.zero_le _,fun j hj=>absurd hj at7⟩ ?_
 rintro k m rfl ⟨hk,hno⟩
 refine run ?_
 refine aj _ rfl (fun hc=>?_) (fun hc=>?_)
 ·have hlt:k<xs.length:=by simpa using hc
  obtain ⟨b,o,rfl⟩:=hne au4
  have hr:=h.row hlt
  refine run ?_
  refine oK (fun wc hG=>hF (xs.getD k default) (getD_mem hlt) wc ⟨_,hG⟩) (dU:=dU) ?_
  refine run ?_
  refine aj _ rfl (fun hp=>?_) (fun hp=>?_)
  ·refine run ?_
   refine fin1 ?_
   rw [iL hlt hp hno]
  ·refine run ?_
   refine bI (k + 1) ⟨hlt,fun j hj=>?_⟩
   rcases Nat.lt_succ_iff_lt_or_eq.1 hj with hj | rfl
   ·exact hno j hj
   ·exact hp
 ·have hge:k=xs.length:=by simp at hc;omega
  subst hge
  refine run ?_
  refine fin1 ?_
  rw [fK hno]
theorem AU {w:World} {F:Nat} {us:List Value} (p:bf→Bool) (xs:List (bf)) (v:Value) (h:aB w v 14 (xs.map bG)) (hF:∀ x,x∈xs→∀ w',GN w w'→Fn Tryz.prog F ([]++[Value.agg (bG x).toArray]++us).toArray w' [] (fun u _=>u=.bool (p x))) (dU:mem mM F=true:=by rfl):
  Fn Tryz.prog 104 [v,.func (.func F) [].toArray us.toArray].toArray w [] (fun u _=>u=.int .i64 (fJ p xs)):=by
 obtain ⟨q,cap,rfl,hne,hle⟩:=h.opened
 refine enter Tryz.func104 ?_
 refine run ?_
 refine cu (σ:=Nat) (fun k=>[(8,.int .i64 (k:Int))]) (fun _=>[]) (fun k=>k≤xs.length∧∀ j,j<k→p (xs.getD j default)=false) (fun k=>xs.length - k) 0 ⟨Nat.zero_le _,fun j hj=>absurd hj at7⟩ ?_
 rintro k m rfl ⟨hk,hno⟩
 refine run ?_
 refine aj _ rfl (fun hc=>?_) (fun hc=>?_)
 ·have hlt:k<xs.length:=by simpa using hc
  obtain ⟨b,o,rfl⟩:=hne au4
  have hr:=h.row hlt
  refine run ?_
  refine oK (fun wc hG=>hF (xs.getD k default) (getD_mem hlt) wc ⟨_,hG⟩) (dU:=dU) ?_
  refine run ?_
  refine aj _ rfl (fun hp=>?_) (fun hp=>?_)
  ·refine run ?_
   refine fin1 ?_
   rw [iL hlt hp hno]
  ·refine run ?_
   refine bI (k + 1) ⟨hlt,fun j hj=>?_⟩
   rcases Nat.lt_succ_iff_lt_or_eq.1 hj with hj | rfl
   ·exact hno j hj
   ·exact hp
 ·have hge:k=xs.length:=by simp at hc;omega
  subst hge
  refine run ?_
  refine fin1 ?_
  rw [fK hno]
theorem uF {w:World} {F:Nat} {us:List Value} (p:Int→Bool) (xs:List (Int)) (v:Value) (h:aB w v 1 (xs.map dN)) (hF:∀ x,x∈xs→∀ w',GN w w'→Fn Tryz.prog F ([]++[Value.int .i64 x]++us).toArray w' [] (fun u _=>u=.bool (p x))) (dU:mem mM F=true:=by rfl):
  Fn Tryz.prog 159 [v,.func (.func F) [].toArray us.toArray].toArray w [] (fun u _=>u=.bool (xs.any p)):=by
 refine enter Tryz.func159 ?_
 refine run ?_
 refine ax (fun wc hG=>GR p xs v (h.good hG) (fun x hx w' ha=>hF x hx w' ?_) dU) ?_
 ·obtain ⟨hp,hg⟩:=ha
  exact ⟨_,hG.trans hg⟩
 refine run ?_
 refine fin1 ?_
 rw [← xw]
theorem pY {w:World} {F:Nat} {us:List Value} (p:dh→Bool) (xs:List (dh)) (v:Value) (h:aB w v 4 (xs.map dG)) (hF:∀ x,x∈xs→∀ w',GN w w'→Fn Tryz.prog F ([]++[Value.agg (dG x).toArray]++us).toArray w' [] (fun u _=>u=.bool (p x))) (dU:mem mM F=true:=by rfl):
  Fn Tryz.prog 101 [v,.func (.func F) [].toArray us.toArray].toArray w [] (fun u _=>u=.bool (xs.any p)):=by
 refine enter Tryz.func101 ?_
 refine run ?_
 refine ax (fun wc hG=>Jm p xs v (h.good hG) (fun x hx w' ha=>hF x hx w' ?_) dU) ?_
 ·obtain ⟨hp,hg⟩:=ha
  exact ⟨_,hG.trans hg⟩
 refine run ?_
 refine fin1 ?_
 rw [← xw]
theorem uG {w:World} (v:Value) (xs:List (List Value)) (h:aB w v 14 xs) (hall:∀ c∈xs,c.length=14∧c.all (·.oneCell')=true) (hl:xs.length<1000000):Fn Tryz.prog 66 [v].toArray w [] (fun u hn=>Own 114 14 u hn xs):=by
 obtain ⟨⟨q,cap,rfl,hne⟩,_⟩:=h
 refine enter Tryz.func66 ?_
 refine run ?_
 refine fA au2 (IV ay rfl rfl) ?_
 refine run ?_
 refine aj _ rfl (fun hp=>?_) (fun hp=>?_)
 ·obtain rfl:xs=[]:=by
   rcases Classical.em (xs=[]) with h | h
   ·exact h
   ·obtain ⟨b,o,rfl,_⟩:=hne h;cases hp
  refine run ?_
  refine fin1 ?_
  exact ⟨by simp,.inl ⟨rfl,rfl,rfl⟩⟩
 refine run ?_
 refine yI ay au2 au2 (fun g=>?_)
 refine run ?_
 rcases Classical.em (xs=[]) with rfl | hx
 ·cases q with
  | none=>cases hp
  | some q=>
  refine fA au2 (yH ay (jD:=0) rfl rfl rfl (Nat.le_refl _)) ?_
  refine run ?_
  refine fin1 ?_
  exact ⟨by simp,.inr ⟨g,0,#[],rfl,rfl,⟨rfl,Nat.le_refl _,by decide,rfl,rfl⟩⟩⟩
 ·obtain ⟨b,o,rfl,hr⟩:=hne hx
  refine uf ay au2 rfl ⟨rfl,Nat.le_refl _,by decide,rfl,rfl⟩ rfl rfl rfl rfl rfl rfl (.refl _) rfl hall hr au3 hl (fun v' ha' hA=>?_)
  refine run ?_
  refine fin1 ?_
  rw [List.append_nil]
  exact hA
theorem vJ {w:World} (v:Value) (xs:List (List Value)) (h:aB w v 4 xs) (hall:∀ c∈xs,c.length=4∧c.all (·.oneCell')=true) (hl:xs.length<1000000):Fn Tryz.prog 67 [v].toArray w [] (fun u hn=>Own 121 4 u hn xs):=by
 obtain ⟨⟨q,cap,rfl,hne⟩,_⟩:=h
 refine enter Tryz.func67 ?_
 refine run ?_
 refine fA au2 (IV ay rfl rfl) ?_
 refine run ?_
 refine aj _ rfl (fun hp=>?_) (fun hp=>?_)
 ·obtain rfl:xs=[]:=by
   rcases Classical.em (xs=[]) with h | h
   ·exact h
   ·obtain ⟨b,o,rfl,_⟩:=hne h;cases hp
  refine run ?_
  refine fin1 ?_
  exact ⟨by simp,.inl ⟨rfl,rfl,rfl⟩⟩
 refine run ?_
 refine yI ay au2 au2 (fun g=>?_)
 refine run ?_
 rcases Classical.em (xs=[]) with rfl | hx
 ·cases q with
  | none=>cases hp
  | some q=>
  refine fA au2 (yH ay (jD:=0) rfl rfl rfl (Nat.le_refl _)) ?_
  refine run ?_
  refine fin1 ?_
  exact ⟨by simp,.inr ⟨g,0,#[],rfl,rfl,⟨rfl,Nat.le_refl _,by decide,rfl,rfl⟩⟩⟩
 ·obtain ⟨b,o,rfl,hr⟩:=hne hx
  refine uf ay au2 rfl ⟨rfl,Nat.le_refl _,by decide,rfl,rfl⟩ rfl rfl rfl rfl rfl rfl (.refl _) rfl hall hr au3 hl (fun v' ha' hA=>?_)
  refine run ?_
  refine fin1 ?_
  rw [List.append_nil]
  exact hA
theorem MS {w:World} (a:bf) (xs:List bf) (v:Value) (h:aB w v 14 (xs.map bG)):
  Fn Tryz.prog 133 [v,.agg (bG a).toArray].toArray w [] (fun u _=>u=.int .i64 (fJ (fun t=>decide (t=a)) xs)):=by
 obtain ⟨q,cap,rfl,hne,hle⟩:=h.opened
 refine enter Tryz.func133 ?_
 refine run ?_
 intro B
 refine run ?_
 refine cu (σ:=Nat) (fun k=>[(8,.int .i64 (k:Int))]) (fun _=>[⟨B,(bG a).toArray,114⟩]) (fun k=>k≤xs.length∧∀ j,j<k→decide (xs.getD j default=a)=false) (fun k=>xs.length - k) 0 ⟨Nat.zero_le _,fun j hj=>absurd hj at7⟩ ?_
 rintro k m rfl ⟨hk,hno⟩
 refine run ?_
 refine aj _ rfl (fun hc=>?_) (fun hc=>?_)
 ·have hlt:k<xs.length:=by simpa using hc
  obtain ⟨b,o,rfl⟩:=hne au4
  have hr:=h.row hlt
  refine run ?_
  refine eG ?_
  refine bW ?_
  refine run ?_
  have hq:∀ x:bf,bD (bG a) (bG x)=decide (x=a):=fun x=>by rw [TJ,Bool.eq_iff_iff,decide_eq_true_eq,decide_eq_true_eq];exact eq_comm
  try rw [hq]
  try rw [TJ]
  refine aj _ rfl (fun hp=>?_) (fun hp=>?_)
  ·refine run ?_
   refine fin1 ?_
   rw [iL hlt hp hno]
  ·refine run ?_
   refine bI (k + 1) ⟨hlt,fun j hj=>?_⟩
   rcases Nat.lt_succ_iff_lt_or_eq.1 hj with hj | rfl
   ·exact hno j hj
   ·exact hp
 ·have hge:k=xs.length:=by simp at hc;omega
  subst hge
  refine run ?_
  refine fin1 ?_
  rw [fK hno]
theorem xW {w:World} (a:bf) (xs:List bf) (v:Value) (h:aB w v 14 (xs.map bG)):
  Fn Tryz.prog 100 [v,.agg (bG a).toArray].toArray w [] (fun u _=>u=.bool (xs.any fun t=>decide (t=a))):=by
 refine enter Tryz.func100 ?_
 refine run ?_
 intro B
 refine run ?_
 refine ax (fun wc hG=>MS a xs v (h.good hG)) ?_
 refine run ?_
 refine fin1 ?_
 rw [← xw]
end
end Go.Proofs.YtndklbjnofdgeaaGreat
