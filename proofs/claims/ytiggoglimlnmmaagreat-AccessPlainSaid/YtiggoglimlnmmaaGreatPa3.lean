/- Texts of one's own, merged: the engine, what the functions do, plain laws. -/
import Derived.Test.YtiggoglimlnmmaaGreatPa2
namespace Go.Proofs.YtiggoglimlnmmaaGreat
open Go.RowKit
set_option linter.unusedVariables false
set_option linter.unusedSimpArgs false
set_option maxRecDepth 20000
section
attribute [local irreducible] Hy St Ops DH fE
theorem lT (p:Int) (w:World):Fn Tryz.prog 53 [.int .i64 p].toArray w [] (fun u _=>u=.bool (PtD.bH p 0 4095)):=by
 refine enter Tryz.func53 ?_
 refine run ?_
 refine ax (fun wc hG=>zD p 4095 wc) ?_
 refine run ?_
 exact fin1 rfl
theorem tZ (stage:Int) (hs:stage=1∨stage=2) (level:Nat) (hl:level<4) (d:DsD) (w:World):Fn Tryz.prog 106 [.int .i64 stage,.int .i64 (level:Int),FH d].toArray w [] (fun u _=>u=.bool (d.may stage level)):=by
 have hlv:decide ((level:Int)<3)=decide (level<3):=by rw [Bool.eq_iff_iff,decide_eq_true_eq,decide_eq_true_eq];omega
 have hlp:decide ((0:Int)<(level:Int))=decide (0<level):=by rw [Bool.eq_iff_iff,decide_eq_true_eq,decide_eq_true_eq];omega
 have h9:=fP hl
 refine enter Tryz.func106 ?_
 refine run ?_
 intro B
 refine run ?_
 refine ah _ rfl (fun hk=>?_) (fun hk=>?_)
 ·have hk0:d.kind=0:=by simpa using hk
  refine aG ?_
  refine bz (fun hg wc hG=>zD d.note 15 wc) ?_
  refine aG ?_
  refine fin1 ?_
  rw [uZ d 0 0 d.note hk0]
  rcases hs with rfl | rfl<;>simp only [DsD.may,hk0,decide_true,cond_true,PtD.bH,Bool.and_true]
  ·cases d.bare<;>cases hz:decide (d.note=0)<;>simp_all
  ·cases d.bare<;>cases hz:decide (d.note=0)<;>simp_all
 ·have hk0:decide (d.kind=0)=false:=by simpa using hk
  refine run ?_
  refine ah _ rfl (fun hk1=>?_) (fun hk1=>?_)
  ·have jB:d.kind=1:=by simpa using hk1
   refine aG ?_
   refine bz (fun hg wc hG=>lT d.frame wc) ?_
   refine aG ?_
   refine fin1 ?_
   rw [uZ d 1 d.frame 0 jB,hlv]
   simp only [DsD.may,jB,decide_true,cond_true,show decide ((1:Int)=0)=false from rfl,cond_false,Bool.true_and]
   cases decide (level<3)<;>cases d.bare<;>cases decide (d.note=0)<;>rfl
  ·have jB:decide (d.kind=1)=false:=by simpa using hk1
   refine run ?_
   refine ah _ rfl (fun hk2=>?_) (fun hk2=>?_)
   ·have zu:d.kind=2:=by simpa using hk2
    refine run ?_
    intro A
    refine ja 47 ?_
    refine gy ?_
    refine ji (fun hg wc hG=>lT d.frame wc) ?_
    refine gy ?_
    refine ji (fun hg wc hG=>kV level hl wc) ?_
    refine Ej (hy:=fun hg=>jM UH UH d.frame.toNat (ay level) (by simp [eX,PtD.bH] at hg;omega) UB Uz) (h:=?_)
    refine gy ?_
    refine J9 (fun hg0 hg1 wc hG=>zD d.soft 15 wc) ?_
    refine gy ?_
    refine run ?_
    refine run ?_
    refine fin1 ?_
    rw [hlp]
    have hz:decide (((d.frame.toNat % ay level:Nat):Int)=0)=decide (d.frame.toNat % ay level=0):=by rw [Bool.eq_iff_iff,decide_eq_true_eq,decide_eq_true_eq];omega
    rw [hz]
    simp only [DsD.may,zu,decide_true,cond_true,show decide ((2:Int)=0)=false from rfl,show decide ((2:Int)=1)=false from rfl,cond_false]
    rcases hs with rfl | rfl
    ·cases decide (0<level)<;>cases PtD.bH d.frame 0 4095<;>cases decide (d.frame.toNat % ay level=0)<;>cases decide (d.note=0)<;>cases d.r<;>cases decide (d.soft=0)<;>rfl
    ·simp only [PtD.bH]
     cases decide (0<level)<;>cases decide (d.frame.toNat % ay level=0)<;>cases decide (d.note=0)<;>cases d.ng<;>cases decide (0≤d.soft)<;>cases decide (d.soft≤15)<;>cases decide (0≤d.frame)<;>cases decide (d.frame≤4095)<;>rfl
   ·refine run ?_
    refine fin1 ?_
    have zu:decide (d.kind=2)=false:=by simpa using hk2
    simp [DsD.may,hk0,jB,zu]
theorem uf (stage:Int) (hs:stage=1∨stage=2) (level:Nat) (hl:level<4) (d:DsD) (hm:d.may stage level=true) (w:World):Fn Tryz.prog 107 [.int .i64 stage,.int .i64 (level:Int),FH d].toArray w [] (fun u _=>u=.int .u64 (d.word stage level:Int)):=by
 have hlv:decide ((level:Int)=3)=decide (level=3):=by rw [Bool.eq_iff_iff,decide_eq_true_eq,decide_eq_true_eq];omega
 obtain ⟨k1,k2,k3,k4⟩:=fA hm
 have hf:0≤d.frame∧d.frame≤4095:=by
  rcases k1 with e | e | e
  ·have:=k2 e;omega
  ·have:=k3 e;omega
  ·have:=k4 e;omega
 have hf0:=hf.1
 have hf1:=hf.2
 have hfz:((d.frame.toNat:Nat):Int)=d.frame:=by omega
 refine enter Tryz.func107 ?_
 refine run ?_
 intro B
 refine run ?_
 refine ah _ rfl (fun hk=>?_) (fun hk=>?_)
 ·have hk0:d.kind=0:=by simpa using hk
  have hn0:=(k2 hk0).2.1
  have hn1:=(k2 hk0).2.2
  have hnz:((d.note.toNat:Nat):Int)=d.note:=by omega
  refine run ?_
  refine lU UB (qY rfl rfl d.note.toNat 4 hnz.symm UB UA) ?_
  refine run ?_
  refine fin1 ?_
  rw [DsD.Et stage level d hk0]
 ·have hk0:decide (d.kind=0)=false:=by simpa using hk
  refine run ?_
  refine drawM 14 [0,1,2,3,4,5,6,7,8,9,10,11,12] [13] [] ?_
  refine fB rfl (fun hx2=>cZ (di 163 rfl) rfl (fun wc hG=>ni 0 true wc)) ?_
  refine fJ ?_
  refine NK (hy:=fun hx2 hg=>uw rfl) (h:=?_)
  refine NK (v:=.bool (decide ((level:Int)=3))) (hy:=fun hx2 hg=>?_) (h:=?_)
  ·exact Ce UH rfl
  refine fJ ?_
  refine fB rfl (fun hx2=>cZ (di 163 rfl) rfl (fun wc hG=>ni 1 _ wc)) ?_
  refine fJ ?_
  refine L6 (zy [⟨0,1,1⟩,⟨1,1,b1 (decide (d.kind=1) || decide (level=3))⟩,⟨12,12,d.frame.toNat⟩]) (h:=?_) (hn:=?_)
  ·refine kM ?_
   simp only [DN]
   rintro _ hn ⟨T,rfl,rfl⟩
   refine lK ?_
   refine xO ?_
   simp only [List.cons_append,List.nil_append,List.append_nil]
   refine run ?_
   refine ah _ rfl (fun hk1=>?_) (fun hk1=>?_)
   ·have hk2:d.kind=2:=by simpa using hk1
    have jB:decide (d.kind=1)=false:=by rw [hk2];rfl
    simp only [jB,Bool.false_or]
    refine run ?_
    refine drawM 11 [0,1,2,3,4,5,6,7,8,9] [10] [] ?_
    refine fJ ?_
    refine fB rfl (fun hx2=>cZ (di 163 rfl) rfl (fun wc hG=>ni 10 _ wc)) ?_
    refine fJ ?_
    refine fB rfl (fun hx2=>cZ (di 163 rfl) rfl (fun wc hG=>ni 54 _ wc)) ?_
    refine fJ ?_
    refine L6 (zy [⟨10,1,b1 d.af⟩,⟨54,1,b1 (!d.x)⟩]) (h:=?_) (hn:=by cases d.af<;>cases d.x<;>rfl)
    refine kM ?_
    simp only [DN]
    rintro _ hn ⟨T2,rfl,rfl⟩
    refine lK ?_
    refine xO ?_
    simp only [List.cons_append,List.nil_append,List.append_nil]
    refine nO (m:=2) ([⟨10,1,b1 d.af⟩,⟨54,1,b1 (!d.x)⟩].map Ad) [⟨T2,(zy [⟨10,1,b1 d.af⟩,⟨54,1,b1 (!d.x)⟩]).toArray,283⟩,⟨B,#[.int .i64 d.kind,.int .i64 d.frame,.bool d.r,.bool d.w,.bool d.x,.bool d.af,.bool d.ng,.int .i64 d.soft,.int .i64 d.note],93⟩] (tY T 3 [⟨0,1,1⟩,⟨1,1,b1 (decide (level=3))⟩,⟨12,12,d.frame.toNat⟩]) UC (fun v' ha' hA'=>?_) UC rfl (kC _) (dP (m:=6) mh rfl) (hperm:=by (exact az))
    refine aZ (⟨B,#[.int .i64 d.kind,.int .i64 d.frame,.bool d.r,.bool d.w,.bool d.x,.bool d.af,.bool d.ng,.int .i64 d.soft,.int .i64 d.note],93⟩::ha') ak ?_
    obtain ⟨q,cap,rfl⟩:=hA'.opened
    refine run ?_
    refine ah _ rfl (fun h1=>?_) (fun h1=>?_)
    ·have h1':decide (stage=1)=true:=h1
     refine run ?_
     refine drawM 11 [0,1,2,3,4,5,6,7,8,9] [10] [] ?_
     refine fJ ?_
     refine fB rfl (fun hx2=>cZ (di 163 rfl) rfl (fun wc hG=>ni 7 _ wc)) ?_
     refine fJ ?_
     refine fB rfl (fun hx2=>cZ (di 163 rfl) rfl (fun wc hG=>ni 11 _ wc)) ?_
     refine fJ ?_
     refine L6 (zy [⟨7,1,b1 (!d.w)⟩,⟨11,1,b1 d.ng⟩]) (h:=?_) (hn:=by cases d.w<;>cases d.ng<;>rfl)
     refine kM ?_
     simp only [DN]
     rintro _ hn ⟨T3,rfl,rfl⟩
     refine lK ?_
     refine xO ?_
     simp only [List.cons_append,List.nil_append,List.append_nil]
     refine nO (m:=2) ([⟨7,1,b1 (!d.w)⟩,⟨11,1,b1 d.ng⟩].map Ad) [⟨T3,(zy [⟨7,1,b1 (!d.w)⟩,⟨11,1,b1 d.ng⟩]).toArray,283⟩,⟨B,#[.int .i64 d.kind,.int .i64 d.frame,.bool d.r,.bool d.w,.bool d.x,.bool d.af,.bool d.ng,.int .i64 d.soft,.int .i64 d.note],93⟩] hA' UC (fun v2 ha2 hA2=>?_) UC rfl (kC _) (dP (m:=6) mh rfl) (hperm:=by (exact az))
     refine run ?_
     have e:d.fields stage level=[⟨0,1,1⟩,⟨1,1,b1 (decide (level=3))⟩,⟨12,12,d.frame.toNat⟩,⟨10,1,b1 d.af⟩,⟨54,1,b1 (!d.x)⟩,⟨7,1,b1 (!d.w)⟩,⟨11,1,b1 d.ng⟩]:=by simp only [DsD.fields,hk0,jB,h1',cond_false,cond_true]
     obtain ⟨q2,cap2,rfl⟩:=hA2.opened
     have hfo:=DsD.nS hm
     rw [e] at hfo
     refine ax (fun wc hG=>x8 _ hfo (hA2.lie (fun b hb=>hG.here _ (List.mem_append_left _ hb)) UC)) ?_
     refine run ?_
     refine fin1 ?_
     rw [DsD.word,e]
    ·have h1':decide (stage=1)=false:=by simpa using h1
     have hso:=zA hm hk2 h1'
     have hs0:=hso.1
     have hs1:=hso.2
     have hsz:((d.soft.toNat:Nat):Int)=d.soft:=by omega
     refine run ?_
     refine drawM 15 [0,1,2,3,4,5,6,7,8,9,10,11,12,13] [14] [] ?_
     refine fJ ?_
     refine fB rfl (fun hx2=>cZ (di 163 rfl) rfl (fun wc hG=>ni 6 _ wc)) ?_
     refine fJ ?_
     refine fB rfl (fun hx2=>cZ (di 163 rfl) rfl (fun wc hG=>ni 7 _ wc)) ?_
     refine fJ ?_
     refine L6 (zy [⟨6,1,b1 d.r⟩,⟨7,1,b1 d.w⟩,⟨55,4,d.soft.toNat⟩]) (h:=?_) (hn:=by rw [← hsz];cases d.r<;>cases d.w<;>rfl)
     refine kM ?_
     simp only [DN]
     rintro _ hn ⟨T3,rfl,rfl⟩
     refine lK ?_
     refine xO ?_
     simp only [List.cons_append,List.nil_append,List.append_nil]
     refine nO (m:=3) ([⟨6,1,b1 d.r⟩,⟨7,1,b1 d.w⟩,⟨55,4,d.soft.toNat⟩].map Ad) [⟨T3,(zy [⟨6,1,b1 d.r⟩,⟨7,1,b1 d.w⟩,⟨55,4,d.soft.toNat⟩]).toArray,283⟩,⟨B,#[.int .i64 d.kind,.int .i64 d.frame,.bool d.r,.bool d.w,.bool d.x,.bool d.af,.bool d.ng,.int .i64 d.soft,.int .i64 d.note],93⟩] hA' UC (fun v2 ha2 hA2=>?_) UC rfl (kC _) (dP (m:=9) mh rfl) (hperm:=by (exact az))
     refine run ?_
     have e:d.fields stage level=[⟨0,1,1⟩,⟨1,1,b1 (decide (level=3))⟩,⟨12,12,d.frame.toNat⟩,⟨10,1,b1 d.af⟩,⟨54,1,b1 (!d.x)⟩,⟨6,1,b1 d.r⟩,⟨7,1,b1 d.w⟩,⟨55,4,d.soft.toNat⟩]:=by simp only [DsD.fields,hk0,jB,h1',cond_false,cond_true]
     obtain ⟨q2,cap2,rfl⟩:=hA2.opened
     have hfo:=DsD.nS hm
     rw [e] at hfo
     refine ax (fun wc hG=>x8 _ hfo (hA2.lie (fun b hb=>hG.here _ (List.mem_append_left _ hb)) UC)) ?_
     refine run ?_
     refine fin1 ?_
     rw [DsD.word,e]
   ·have hk2:d.kind=1:=by
     simp at hk0 hk1
     rcases k1 with e | e | e
     ·exact absurd e hk0
     ·exact e
     ·exact absurd e hk1
    have jB:decide (d.kind=1)=true:=by rw [hk2];rfl
    simp only [jB,Bool.true_or,show b1 true=1 from rfl]
    refine run ?_
    have e:d.fields stage level=[⟨0,1,1⟩,⟨1,1,1⟩,⟨12,12,d.frame.toNat⟩]:=by simp only [DsD.fields,hk0,jB,cond_false,cond_true]
    have hfo:=DsD.nS hm
    rw [e] at hfo
    refine ax (fun wc hG=>x8 _ hfo ((tY T 3 _).lie (fun b hb=>hG.here _ (List.mem_append_left _ hb)) UC)) ?_
    refine run ?_
    refine fin1 ?_
    rw [DsD.word,e]
  ·rw [hlv,← hfz]
   cases decide (d.kind=1)<;>cases decide (level=3)<;>rfl
theorem je {stage:Int} {level v:Nat} {D:DsD} (hD:dA stage level v=D):C9 stage level v=bif (!D.may stage level || !decide ((D.word stage level:Int)=(v:Int))) then x9 else D:=by
 unfold C9
 rw [hD]
 have:decide ((D.word stage level:Int)=(v:Int))=decide (D.word stage level=v):=by rw [Bool.eq_iff_iff,decide_eq_true_eq,decide_eq_true_eq];omega
 rw [this]
 cases D.may stage level<;>cases decide (D.word stage level=v)<;>rfl
theorem PZ (stage:Int) (hs:stage=1∨stage=2) (level:Nat) (hl:level<4) (v:Nat) (hv:v<18446744073709551616) (w:World):Fn Tryz.prog 57 [.int .i64 stage,.int .i64 (level:Int),.int .u64 (v:Int)].toArray w [] (fun u _=>u=FH (C9 stage level v)):=by
 have hlv:decide ((level:Int)<3)=!decide (level=3):=by rw [Bool.eq_iff_iff,decide_eq_true_eq];simp;omega
 refine enter Tryz.func57 ?_
 refine run ?_
 intro B C
 refine run ?_
 refine ax (fun wc hG=>mZ v 0 UA hv wc) ?_
 refine run ?_
 refine ah _ rfl (fun h0=>?_) (fun h0=>?_)
 ·have h0':(!decide (bg v 0 1=1))=true:=h0
  have hD:dA stage level v=⟨0,0,false,false,false,false,false,0,(bg v 4 4:Int)⟩:=by rw [dA,h0',cond_true];rfl
  have hb:=tX v 4 4 UA
  refine run ?_
  refine ax (fun wc hG=>xZ v 4 4 UA UA hv wc) ?_
  refine run ?_
  refine ax (fun wc hG=>tZ stage hs level hl (⟨0,0,false,false,false,false,false,0,(bg v 4 4:Int)⟩) wc) ?_
  refine aG ?_
  refine bz (b:=!DsD.may stage level (⟨0,0,false,false,false,false,false,0,(bg v 4 4:Int)⟩)) (fun hg wc hG=>uf stage hs level hl (⟨0,0,false,false,false,false,false,0,(bg v 4 4:Int)⟩) Vf wc) ?_
  refine aG ?_
  refine ah _ rfl (fun hc=>?_) (fun hc=>?_)
  ·refine run ?_
   refine jh ?_
   rw [je hD,hc]
   rfl
  ·refine run ?_
   refine jh ?_
   rw [je hD,hc]
   rfl
 ·have h0':(!decide (bg v 0 1=1))=false:=by simpa using h0
  have hb:=tX v 12 12 UA
  refine run ?_
  refine ax (fun wc hG=>mZ v 1 UA hv wc) ?_
  refine aG ?_
  refine ah _ rfl (fun h1=>?_) (fun h1=>?_)
  ·rw [hlv] at h1
   have hD:dA stage level v=⟨1,(bg v 12 12:Int),false,false,false,false,false,0,0⟩:=by rw [dA,h0',cond_false,h1,cond_true];rfl
   refine run ?_
   refine ax (fun wc hG=>xZ v 12 12 UA UA hv wc) ?_
   refine run ?_
   refine ax (fun wc hG=>tZ stage hs level hl (⟨1,(bg v 12 12:Int),false,false,false,false,false,0,0⟩) wc) ?_
   refine aG ?_
   refine bz (b:=!DsD.may stage level (⟨1,(bg v 12 12:Int),false,false,false,false,false,0,0⟩)) (fun hg wc hG=>uf stage hs level hl (⟨1,(bg v 12 12:Int),false,false,false,false,false,0,0⟩) Vf wc) ?_
   refine aG ?_
   refine ah _ rfl (fun hc=>?_) (fun hc=>?_)
   ·refine run ?_
    refine jh ?_
    rw [je hD,hc]
    rfl
   ·refine run ?_
    refine jh ?_
    rw [je hD,hc]
    rfl
  ·have h1':(decide (bg v 1 1=1) && decide ((level:Int)<3))=false:=by simpa using h1
   rw [hlv] at h1'
   refine run ?_
   refine ax (fun wc hG=>xZ v 12 12 UA UA hv wc) ?_
   refine run ?_
   refine ax (fun wc hG=>mZ v 10 UA hv wc) ?_
   refine run ?_
   refine ax (fun wc hG=>mZ v 54 UA hv wc) ?_
   refine run ?_
   refine ah _ rfl (fun hst=>?_) (fun hst=>?_)
   ·have hst':decide (stage=1)=true:=hst
    have hD:dA stage level v=⟨2,(bg v 12 12:Int),true,!decide (bg v 7 1=1),!decide (bg v 54 1=1),decide (bg v 10 1=1),decide (bg v 11 1=1),0,0⟩:=by rw [dA,h0',cond_false,h1',cond_false,hst',cond_true];rfl
    refine run ?_
    refine ax (fun wc hG=>mZ v 7 UA hv wc) ?_
    refine run ?_
    refine ax (fun wc hG=>mZ v 11 UA hv wc) ?_
    refine run ?_
    refine ax (fun wc hG=>tZ stage hs level hl (⟨2,(bg v 12 12:Int),true,!decide (bg v 7 1=1),!decide (bg v 54 1=1),decide (bg v 10 1=1),decide (bg v 11 1=1),0,0⟩) wc) ?_
    refine aG ?_
    refine bz (b:=!DsD.may stage level (⟨2,(bg v 12 12:Int),true,!decide (bg v 7 1=1),!decide (bg v 54 1=1),decide (bg v 10 1=1),decide (bg v 11 1=1),0,0⟩)) (fun hg wc hG=>uf stage hs level hl (⟨2,(bg v 12 12:Int),true,!decide (bg v 7 1=1),!decide (bg v 54 1=1),decide (bg v 10 1=1),decide (bg v 11 1=1),0,0⟩) Vf wc) ?_
    refine aG ?_
    refine ah _ rfl (fun hc=>?_) (fun hc=>?_)
    ·refine run ?_
     refine jh ?_
     rw [je hD,hc]
     rfl
    ·refine run ?_
     refine jh ?_
     rw [je hD,hc]
     rfl
   ·have hst':decide (stage=1)=false:=by simpa using hst
    have hD:dA stage level v=⟨2,(bg v 12 12:Int),decide (bg v 6 1=1),decide (bg v 7 1=1),!decide (bg v 54 1=1),decide (bg v 10 1=1),false,(bg v 55 4:Int),0⟩:=by rw [dA,h0',cond_false,h1',cond_false,hst',cond_false];rfl
    have hb4:=tX v 55 4 UA
    refine run ?_
    refine ax (fun wc hG=>mZ v 6 UA hv wc) ?_
    refine run ?_
    refine ax (fun wc hG=>mZ v 7 UA hv wc) ?_
    refine run ?_
    refine ax (fun wc hG=>xZ v 55 4 UA UA hv wc) ?_
    refine run ?_
    refine ax (fun wc hG=>tZ stage hs level hl (⟨2,(bg v 12 12:Int),decide (bg v 6 1=1),decide (bg v 7 1=1),!decide (bg v 54 1=1),decide (bg v 10 1=1),false,(bg v 55 4:Int),0⟩) wc) ?_
    refine aG ?_
    refine bz (b:=!DsD.may stage level (⟨2,(bg v 12 12:Int),decide (bg v 6 1=1),decide (bg v 7 1=1),!decide (bg v 54 1=1),decide (bg v 10 1=1),false,(bg v 55 4:Int),0⟩)) (fun hg wc hG=>uf stage hs level hl (⟨2,(bg v 12 12:Int),decide (bg v 6 1=1),decide (bg v 7 1=1),!decide (bg v 54 1=1),decide (bg v 10 1=1),false,(bg v 55 4:Int),0⟩) Vf wc) ?_
    refine aG ?_
    refine ah _ rfl (fun hc=>?_) (fun hc=>?_)
    ·refine run ?_
     refine jh ?_
     rw [je hD,hc]
     rfl
    ·refine run ?_
     refine jh ?_
     rw [je hD,hc]
     rfl
end
section
def wL (ws:List Nat):Prop:=∀ x∈ws,x<18446744073709551616
theorem wL.at {ws:List Nat} (h:wL ws) (p:Nat):ws.getD p 0<18446744073709551616:=by
 rw [List.getD_eq_getElem?_getD]
 cases hp:ws[p]? with
 | none=>simp
 | some x=>exact h x (List.mem_of_getElem? hp)
theorem wL.set {ws:List Nat} (h:wL ws) {x:Nat} (hx:x<18446744073709551616) (p:Nat):wL (ws.set p x):=by
 intro y hy
 rcases List.mem_or_eq_of_mem_set hy with hy | rfl
 ·exact h y hy
 ·exact hx
attribute [local irreducible] Hy St Ops DH fE
section
variable {P : Program} {T : Tab} {n : Nat} {w0 : World} {mu : List Nat} {l : Fm} {hp : Hp} {dd : Option Nat} {ty : TypeId} {pos : String} {af : Array Edge} {gg : Option (Nat × Bool)} {t u : TypeId} {x y : Operand}
theorem Oc {pi qi:Int} (hx:ev l x=some (.int .i64 pi)) (hy:ev l y=some (.int .i64 qi)) (p q r:Nat) (hpi:pi=(p:Int)) (hqi:qi=(q:Int)) (hr:p + q=r) (hb:r<9223372036854775808):Hy P n w0 mu l hp ⟨dd,.binOp .add t x y u,ty,pos,af,gg⟩ (.int .i64 (r:Int)):=by
 subst hpi hqi hr
 have:=wY (o:=⟨dd,.binOp .add t x y u,ty,pos,af,gg⟩) (P:=P) (n:=n) (w0:=w0) (mu:=mu) (hp:=hp) rfl hx hy Uz Uz
 rwa [← Int.natCast_add] at this
end
theorem zF (ws:List Nat) (hw:wL ws) {w:World} {v:Value} (h:aF w v 1 (ws.map uV)) (stage:Int) (hs:stage=1∨stage=2) (level:Nat) (hl:level<4) (f:Int) (hf:bM ws.length f=true) (page:Nat) (hp:page≤4095) (hn:ws.length<1000000):Fn Tryz.prog 28 [.agg #[v],.int .i64 stage,.int .i64 (level:Int),.int .i64 f,.int .i64 (page:Int)].toArray w [] (fun u _=>u=FH (C9 stage level (ws.getD (fF f level page) 0))):=by
 obtain ⟨q,cap,rfl,hne,hle⟩:=h.opened
 have hfi:=kW hf
 have hpl:=Oa (level:=level) (page:=page) hf
 have Uj:=ry level page
 have hne0:ws ≠ []:=by intro e;subst e;simp at hpl
 obtain ⟨b,o,rfl⟩:=hne hne0
 have hr:=dD (h.row hpl)
 simp only [uV,Nat.mul_one] at hr
 refine enter Tryz.func28 ?_
 refine run ?_
 intro B C
 refine run ?_
 refine ja 13 ?_
 refine gp ?_
 refine nY (fun wc hG=>Il level hl page hp wc) ?_
 refine A7 (Oc rfl rfl (f.toNat * 8) (iM level page) (fF f level page) Uz rfl rfl Uz) ?_
 refine gp ?_
 refine nY (fun wc hG=>PZ stage hs level hl _ (hw.at _) wc) ?_
 refine gp ?_
 refine run ?_
 exact jh rfl
theorem kX {α:Type} [Inhabited α] (p:α→Bool) (l:List α):∀ j,p (l.getD j default)=true→∃ j0,j0≤j∧p (l.getD j0 default)=true∧∀ i,i<j0→p (l.getD i default)=false:=by
 intro j
 induction j using Nat.strongRecOn with
 | ind j ih=>
  intro h
  by_cases hx:∃ i,i<j∧p (l.getD i default)=true
  ·obtain ⟨i,hi,hp⟩:=hx
   obtain ⟨j0,h0,h1,h2⟩:=ih i hi hp
   exact ⟨j0,by omega,h1,h2⟩
  ·refine ⟨j,Nat.le_refl _,h,fun i hi=>?_⟩
   cases hp:p (l.getD i default) with
   | false=>rfl
   | true=>exact absurd ⟨i,hi,hp⟩ hx
end
theorem Own.nil (e sz:Nat):Own e sz (.slice none 0 0) [] []:=⟨by simp,.inl ⟨rfl,rfl,rfl⟩⟩
theorem kD {fn:Func} {R:Value→Hp→Prop} {l:Fm} {hp:Hp} {a t b a2 t2 b2 s2:Nat} {cs cs2:Array Value} {tb tb2:TypeId} {v2:Value} (h:R (.tuple #[.agg cs,.agg cs2,v2]) hp) (hr:fn.results=#[.cell a t,.cell a2 t2,.tmp s2]:=by rfl) (hv:look l a=some (.pointer (some ⟨b,0,none⟩)):=by rfl) (hw:look l a2=some (.pointer (some ⟨b2,0,none⟩)):=by rfl) (h2:look l s2=some v2:=by rfl) (hag:mem Tb.ag t=true:=by rfl) (hm:(⟨b,cs,tb⟩:jY)∈hp:=by (first | (with_reducible apply mh) | (focus ((repeat (first | (with_reducible apply mh) | (with_reducible apply mt) | (with_reducible apply List.mem_append_right)));done)))) (hz:lk Tb.sz t=some cs.size:=by rfl) (Bv:mem Tb.ag t2=true:=by rfl) (hm2:(⟨b2,cs2,tb2⟩:jY)∈hp:=by (first | (with_reducible apply mh) | (focus ((repeat (first | (with_reducible apply mh) | (with_reducible apply mt) | (with_reducible apply List.mem_append_right)));done)))) (hz2:lk Tb.sz t2=some cs2.size:=by rfl):Fin Tryz.prog fn R .ret l hp:=
 ⟨.inl rfl,[.agg cs,.agg cs2,v2],by rw [hr];exact ⟨⟨⟨b,cs,tb⟩,hm,hv,.inr ⟨aj.Cb hag,aj.rH hz,rfl⟩⟩,⟨⟨b2,cs2,tb2⟩,hm2,hw,.inr ⟨aj.Cb Bv,aj.rH hz2,rfl⟩⟩,h2,trivial⟩,h⟩
theorem aI.mem {r h:Hp} (hl:aI r h) {b:jY} (hb:b∈r):b∈h:=by
 obtain ⟨x,hx⟩:=hl.perm
 exact hx.mem_iff.1 (List.mem_append_left _ hb)
section
attribute [local irreducible] Hy St Ops DH fE
theorem aF.drop {w:World} {p:Option Addr} {n c i:Nat} {xs:List Int} (h:aF w (.slice p n c) 1 (xs.map dH)) (hn:n=xs.length) (hc:n≤c) (hi:i≤n):∃ p',sliced p i n c 1=.slice p' (xs.drop i).length (c - i)∧(xs.drop i).length≤c - i∧aF w (.slice p' (xs.drop i).length (c - i)) 1 ((xs.drop i).map dH):=by
 subst hn
 obtain ⟨⟨q,cap,e,hne⟩,hle⟩:=h
 injection e with e1 e2 e3
 subst e1 e3
 have hdl:(xs.drop i).length=xs.length - i:=List.length_drop
 refine ⟨_,by unfold sliced;rw [hdl],by omega,⟨⟨_,_,by rw [List.length_map],fun hx=>?_⟩,by rw [List.length_map] at hle ⊢;omega⟩⟩
 have hlt:i<xs.length:=by
  rcases Nat.lt_or_ge i xs.length with h | h
  ·exact h
  ·rw [List.drop_eq_nil_of_le h] at hx;exact absurd rfl hx
 obtain ⟨b,o,rfl,hr⟩:=hne (by intro e;simp at e;subst e;simp at hlt)
 refine ⟨b,o + i,?_,fun j cc hj=>?_⟩
 ·rw [if_neg Uz,Nat.mul_one];simp [kS]
 ·rw [List.map_drop,List.getElem?_drop] at hj
  have:=hr (i + j) cc hj
  rw [Nat.mul_one] at this ⊢
  rwa [← Nat.add_assoc] at this
end
section
section
variable {P : Program} {n : Nat} {w0 : World} {mu : List Nat} {lf : Fm} {hp : Hp} {dd : Option Tmp} {ty : TypeId} {pos : String} {af : Array Edge}
theorem Bz {x:Operand} {p:Addr} (hx:ev lf x=some (.pointer (some p))):vM P n w0 mu lf hp ⟨dd,.nilCheck x,ty,pos,af,none⟩ (.pointer (some p)):=⟨rfl,fun a w hk _=>by simp [execOp,hk.ev hx]⟩
theorem KD {T:Tab} (ok:aJ P T) {t:TypeId} {x:Operand} {k b off k' off':Nat} {os:List Nat} (hx:ev lf x=some (.pointer (some ⟨b,off,none⟩))) (ho:lk T.fo t=some os) (hk2:nth os k=some k') (he:off + k'=off'):vM P n w0 mu lf hp ⟨dd,.fieldAddr t x k,ty,pos,af,none⟩ (.pointer (some ⟨b,off',none⟩)):=by
 have hf:=ok.Sr ho (by rw [kJ] at hk2;simpa using hk2)
 subst he
 refine ⟨rfl,fun a w hk _=>?_⟩
 simp only [execOp,hk.ev hx]
 unfold FQ at hf
 cases hu:P.underlying t with
 | none=>rw [hu] at hf;cases hf
 | some dd=>
  rw [hu] at hf
  cases dd with
  | struct fs=>
   simp only at hf
   cases hq:fs[k]? with
   | none=>rw [hq] at hf;cases hf
   | some f=>
    rw [hq] at hf
    simp only [Option.bind_some] at hf
    cases hz:bU P f.type with
    | none=>rw [hz] at hf;cases hf
    | some s=>
     rw [hz] at hf
     cases s with
     | zero=>cases hf
     | succ s=>
      simp only [Option.some.injEq] at hf
      subst hf
      cases hi:P.info? f.type with
      | none=>simp [bU,hi] at hz
      | some i=>
       have hsz:i.size=s + 1:=by simpa [bU,hi] using hz
       simp [Instr.fieldAt,Instr.sureAddr,run_underlying hu w,hq,fieldPlace,sizeOf,typeInfo,hi,hsz,add_lit]
  | _=>cases hf
variable {l : Fm} {all : Array Oper} {iv : Fm} {i d : Nat} {ds : List (Nat × Nat)} {D : List Nat} {Y : Fm → Prop}
end
section
variable {n : Nat} {w0 : World} {mu : List Nat} {l : Fm} {hp : Hp} {all : Array Oper} {iv : Fm} {i d : Nat} {ds : List (Nat × Nat)} {D : List Nat} {Y : Fm → Prop} {ty : TypeId} {pos : String} {af : Array Edge}
theorem Ew {x:Operand} {p:Addr} (h:fU Tryz.prog n w0 mu all ds l hp Y D ((i,.pointer (some p))::iv)) (ho:all[i]?=some ⟨some d,.nilCheck x,ty,pos,af,none⟩:=by rfl) (hx:ev (au ds iv af.toList++l) x=some (.pointer (some p)):=by rfl):fU Tryz.prog n w0 mu all ds l hp Y (i::D) iv:=yX ho (Bz hx) h
theorem Oe {t:TypeId} {x:Operand} {k b off k' off':Nat} {os:List Nat} (h:fU Tryz.prog n w0 mu all ds l hp Y D ((i,.pointer (some ⟨b,off',none⟩))::iv)) (ho:all[i]?=some ⟨some d,.fieldAddr t x k,ty,pos,af,none⟩:=by rfl) (hx:ev (au ds iv af.toList++l) x=some (.pointer (some ⟨b,off,none⟩)):=by rfl) (hfo:lk Tb.fo t=some os:=by rfl) (hk:nth os k=some k':=by rfl) (he:off + k'=off':=by rfl):fU Tryz.prog n w0 mu all ds l hp Y (i::D) iv:=yX ho (KD aj hx hfo hk he) h
theorem Og {f:FuncId} {xs:List Operand} {vs:List Value} {tys:Array TypeId} {v:Value} {X:Fm→Prop} {S:List Nat} (hc:∀ w hx,Good w0 mu (hx++hp) w→Fn Tryz.prog f vs.toArray w [] (fun u _=>u=v)) (h:iK Tryz.prog n w0 mu all ds l hp X S ((i,v)::iv)) (ho:all[i]?=some ⟨some d,.call { callee:=.value (.func f),args:=xs.toArray,argTypes:=tys },ty,pos,af,none⟩:=by rfl) (bY:mem jT f=true:=by rfl) (hv:evs (au ds iv af.toList++l) xs=some vs:=by rfl):iK Tryz.prog n w0 mu all ds l hp X (i::S) iv:=
 fB ho (fun hx=>cZ (di f bY) hv (fun w hG=>hc w hx hG)) h
end
section
variable {P : Program} {n : Nat} {w0 : World} {mu : List Nat} {l : Fm} {h0 hp hc : Hp} {all : Array Oper} {iv aB aK : Fm} {i d t0 : Nat} {ds : List (Nat × Nat)} {S r : List Nat} {X : Fm → Prop} {Y : Fm → Hp → Prop} {op : Op} {ty : TypeId} {pos : String} {af : Array Edge} {v : Value} {j dj : Nat} {want b : Bool}
end
section
variable {n : Nat} {w0 : World} {mu : List Nat} {l : Fm} {h0 hp hc : Hp} {all : Array Oper} {iv aB aK : Fm} {i d : Nat} {ds : List (Nat × Nat)} {r : List Nat} {Y : Fm → Hp → Prop} {ty : TypeId} {pos : String} {af : Array Edge}
end
section
variable {P : Program} {n : Nat} {w0 : World} {mu : List Nat} {l : Fm} {hp : Hp} {dd : Option Tmp} {ty : TypeId} {pos : String} {af : Array Edge} {gg : Option (Nat × Bool)} {t u : TypeId} {x y : Operand}
end
section
variable {P : Program} {n : Nat} {w0 : World} {mu : List Nat} {l : Fm} {hp : Hp} {Q : Exit → Fm → Hp → Prop} {all : Array Oper} {rest : List Oper} {dst : Option Nat} {op : Op} {ty : TypeId} {pos : String} {af : Array Edge}
theorem ve {j dj:Nat} {want b:Bool} (h:Ops P n w0 mu all (⟨dst,op,ty,pos,af,none⟩::rest) l hp Q) (hw:eX b want=true) (hj:(all[j]?).bind (·.dst)=some dj:=by rfl) (hb:look l dj=some (.bool b):=by rfl) (hdj:Nat.blt dj n=true:=by rfl):Ops P n w0 mu all (⟨dst,op,ty,pos,af,some (j,want)⟩::rest) l hp Q:=by
 intro a w hk hG
 have h1:=h a w hk hG
 have h2:=dO (o:=⟨dst,op,ty,pos,af,some (j,want)⟩) (c0:=true) hk rfl hj hb hdj
 rw [hw] at h2
 replace h2:Region.wanted (⟨dst,op,ty,pos,af,some (j,want)⟩:Oper) (yielded all a.tmps)=true:=h2
 unfold wpList at h1 ⊢
 rw [if_pos h2]
 rw [if_pos (by simp [Region.wanted])] at h1
 exact h1
end
theorem aF.takeN {w:World} {α:Type} {f:α→List Value} {xs:List α} {p:Option Addr} {n cap sz k:Nat} (h:aF w (.slice p n cap) sz (xs.map f)) (hk:k≤xs.length):aF w (.slice p k cap) sz ((xs.take k).map f):=by
 obtain ⟨⟨q,c,e,hne⟩,hle⟩:=h
 injection e with e1 e2 e3
 subst e1 e3
 have hl:((xs.take k).map f).length=k:=by rw [List.length_map,List.length_take];omega
 refine ⟨⟨_,_,by rw [hl],fun hx=>?_⟩,by rw [hl];rw [List.length_map] at hle;omega⟩
 obtain ⟨b,off,rfl,hr⟩:=hne (by intro e;apply hx;rw [List.map_eq_nil_iff] at e ⊢;rw [e];simp)
 refine ⟨b,off,rfl,fun i c hi=>hr i c ?_⟩
 rw [List.map_take,List.getElem?_take] at hi
 split at hi
 ·exact hi
 ·cases hi
attribute [local irreducible] Hy St Ops DH fE iK iE fU DS fD
end
theorem yg {n:Nat} {w0:World} {mu:List Nat} {l:Fm} {hp:Hp} {all:Array Oper} {iv:Fm} {i d:Nat} {ds:List (Nat × Nat)} {D:List Nat} {Y:Fm→Prop} {ty:TypeId} {pos:String} {af:Array Edge} {x:Operand} {v:Value} (h:fU Tryz.prog n w0 mu all ds l hp Y D ((i,v)::iv)) (ho:all[i]?=some ⟨some d,.assign x,ty,pos,af,none⟩:=by rfl) (hx:ev (au ds iv af.toList++l) x=some v:=by rfl):fU Tryz.prog n w0 mu all ds l hp Y (i::D) iv:=yX ho (GV hx) h
section
attribute [local irreducible] Hy St Ops DH fE
structure aX where
 kind:Int
 iF:Int
 jf:Int
 all:Bool
 page:Int
 level:Int
 frame:Int
 mid:Int
 r:Bool
 w:Bool
 x:Bool
 af:Bool
 ng:Bool
 soft:Int
deriving DecidableEq
instance : Inhabited aX := ⟨⟨0, 0, 0, false, 0, 0, 0, 0, false, false, false, false, false, 0⟩⟩
abbrev cu (e:aX):List Value:=[.int .i64 e.kind,.int .i64 e.iF,.int .i64 e.jf,.bool e.all,.int .i64 e.page,.int .i64 e.level,.int .i64 e.frame,.int .i64 e.mid,.bool e.r,.bool e.w,.bool e.x,.bool e.af,.bool e.ng,.int .i64 e.soft]
structure eH where
 kind:Int
 iF:Int
 jf:Int
 page:Int
deriving DecidableEq
instance : Inhabited eH := ⟨⟨0, 0, 0, 0⟩⟩
abbrev iw (i:eH):List Value:=[.int .i64 i.kind,.int .i64 i.iF,.int .i64 i.jf,.int .i64 i.page]
def aX.nums (e:aX):Bool:=PtD.bH e.iF 0 15 && PtD.bH e.jf 0 15 && PtD.bH e.page 0 4095 && PtD.bH e.frame 0 4095 && PtD.bH e.mid 0 4095 && decide (e.soft=0)
def aX.bare (e:aX):Bool:=!e.r && !e.w && !e.x && !e.af && !e.ng && decide (e.soft=0)
def iq (level page:Nat):Nat:=page - page % ay level
def aX.may (e:aX):Bool:=e.nums &&
 bif decide (e.kind=1) then decide (e.level=0)
 else bif decide (e.kind=2) then decide (e.jf=0) && e.all && decide (e.level=0) && decide (e.mid=0) && !e.ng
 else bif decide (e.kind=3) then PtD.bH e.level 1 3 && decide (iq (e.level.toNat - 1) e.page.toNat=e.page.toNat) && decide (e.mid=0) && e.bare
 else false
def eH.may (i:eH):Bool:=PtD.bH i.kind 1 6 && PtD.bH i.iF 0 15 && PtD.bH i.jf 0 15 && PtD.bH i.page 0 4095
theorem Df (p:Int) (w:World):Fn Tryz.prog 72 [.int .i64 p].toArray w [] (fun u _=>u=.bool (PtD.bH p 0 15)):=by
 refine enter Tryz.func72 ?_
 refine run ?_
 refine ax (fun wc hG=>zD p 15 wc) ?_
 refine run ?_
 exact fin1 rfl
theorem P5 (level:Nat) (h:level<4) (page:Nat) (hp:page≤4095) (w:World):Fn Tryz.prog 124 [.int .i64 (level:Int),.int .i64 (page:Int)].toArray w [] (fun u _=>u=.int .i64 (iq level page:Int)):=by
 have h9:=fP h
 refine enter Tryz.func124 ?_
 refine run ?_
 refine ax (fun wc hG=>kV level h wc) ?_
 refine lU UB (jM rfl rfl page (ay level) UB UB Uz) ?_
 refine run ?_
 refine fin1 ?_
 have hmod:=Nat.mod_le page (ay level)
 rw [show ((page:Int) - ((page % ay level:Nat):Int))=((iq level page:Nat):Int) by unfold iq;omega,wrap_in Uz (by unfold iq;omega)]
theorem KE (level:Nat) (h0:1≤level) (h:level<4) (page:Nat) (hp:page≤4095) (w:World):Fn Tryz.prog 73 [.int .i64 (level:Int),.int .i64 (page:Int)].toArray w [] (fun u _=>u=.int .i64 (iq (level - 1) page:Int)):=by
 refine enter Tryz.func73 ?_
 refine run ?_
 rw [show (level:Int) - 1=((level - 1:Nat):Int) by omega]
 refine ax (fun wc hG=>P5 (level - 1) Uz page hp wc) ?_
 refine run ?_
 exact fin1 rfl
theorem KF (e:aX) (w:World):Fn Tryz.prog 35 [.agg (cu e).toArray].toArray w [] (fun u _=>u=.bool e.may):=by
 refine enter Tryz.func35 ?_
 refine run ?_
 intro B
 refine aG ?_
 refine ax (fun wc hG=>Df e.iF wc) ?_
 refine aG ?_
 refine bz (fun _ wc hG=>Df e.jf wc) ?_
 refine aG ?_
 refine bz (fun _ wc hG=>lT e.page wc) ?_
 refine aG ?_
 refine bz (fun _ wc hG=>lT e.frame wc) ?_
 refine aG ?_
 refine bz (fun _ wc hG=>lT e.mid wc) ?_
 refine aG ?_
 have hnn:(!PtD.bH e.iF 0 15 || !PtD.bH e.jf 0 15 || !PtD.bH e.page 0 4095 || !PtD.bH e.frame 0 4095 || !PtD.bH e.mid 0 4095 || !decide (e.soft=0))=!e.nums:=by
  unfold aX.nums
  simp only [Bool.not_and]
 refine ah _ rfl (fun hn=>?_) (fun hn=>?_)
 ·refine run ?_
  refine fin1 ?_
  rw [hnn] at hn
  have hn':e.nums=false:=by simpa using hn
  simp [aX.may,hn']
 ·rw [hnn] at hn
  have hn':e.nums=true:=by simpa using hn
  clear hnn
  have hb:=hn'
  simp only [aX.nums,Bool.and_eq_true,decide_eq_true_eq] at hb
  have hpz:=jF hb.1.1.1.2
  refine run ?_
  refine ah _ rfl (fun hk=>?_) (fun hk=>?_)
  ·refine run ?_
   refine fin1 ?_
   simp [aX.may,hn',hk]
  refine run ?_
  refine ah _ rfl (fun hk2=>?_) (fun hk2=>?_)
  ·refine aG ?_
   refine fin1 ?_
   simp [aX.may,hn',hk,hk2]
  refine run ?_
  refine ah _ rfl (fun hk3=>?_) (fun hk3=>?_)
  ·refine aG ?_
   refine ja 29 ?_
   refine gy ?_
   refine ji (b:=decide (1≤e.level) && decide (e.level≤3)) (want:=true) (v:=.int .i64 (iq (e.level.toNat - 1) e.page.toNat:Int)) (fun hg wc hG=>by
    simp [eX] at hg
    have h5:=KE e.level.toNat Uz Uz e.page.toNat hpz.2 wc
    rw [hpz.1,show ((e.level.toNat:Nat):Int)=e.level by omega] at h5
    exact h5) ?_
   refine gy ?_
   refine run ?_
   refine fin1 ?_
   have hz:decide (((iq (e.level.toNat - 1) e.page.toNat:Nat):Int)=e.page)=decide (iq (e.level.toNat - 1) e.page.toNat=e.page.toNat):=by
    rw [Bool.eq_iff_iff,decide_eq_true_eq,decide_eq_true_eq]
    have:=hpz.1
    omega
   rw [hz]
   simp only [aX.may,hn',hk3,show decide (e.kind=1)=false by simpa using hk,show decide (e.kind=2)=false by simpa using hk2,cond_false,cond_true,Bool.true_and,PtD.bH,aX.bare,aQ,kK]
   cases e.r<;>cases e.w<;>cases e.x<;>cases e.af<;>cases e.ng<;>simp
  ·refine run ?_
   refine fin1 ?_
   simp [aX.may,hn',hk,hk2,hk3]
theorem KG (i:eH) (w:World):Fn Tryz.prog 37 [.agg (iw i).toArray].toArray w [] (fun u _=>u=.bool i.may):=by
 refine enter Tryz.func37 ?_
 refine run ?_
 intro B
 refine aG ?_
 refine bz (fun _ wc hG=>Df i.iF wc) ?_
 refine aG ?_
 refine bz (fun _ wc hG=>Df i.jf wc) ?_
 refine aG ?_
 refine bz (fun _ wc hG=>lT i.page wc) ?_
 refine aG ?_
 refine fin1 ?_
 simp [eH.may,PtD.bH,Bool.and_assoc]
end
theorem Oh (a b:aX):aQ (cu a) (cu b)=decide (a=b):=by
 obtain ⟨a1,a2,a3,a4,a5,a6,a7,a8,a9,a10,a11,a12,SE,Uk⟩:=a
 obtain ⟨b1,b2,b3,b4,b5,b6,b7,b8,b9,b10,b11,b12,b13,b14⟩:=b
 rw [Bool.eq_iff_iff,decide_eq_true_eq]
 simp [aQ,kK]
def rD (es:List aX) (k:Nat):Bool:=(es.getD k default).may && !(es.take k).any fun t=>decide (t=es.getD k default)
def bZ (es:List aX) (ds:List eH):Bool:=((List.range es.length).all fun k=>rD es k) && ds.all eH.may && decide (es.length≤8) && decide (ds.length≤8)
theorem zG {α:Type} [Inhabited α] [DecidableEq α] (l:List α) (k:Nat) (hk:k<l.length):decide (dh (fun t=>decide (t=l.getD k default)) l=(k:Int))=!(l.take k).any (fun t=>decide (t=l.getD k default)):=by
 cases h:(l.take k).any (fun t=>decide (t=l.getD k default)) with
 | false=>
  rw [gq hk UC fun j hj=>?_]
  ·simp
  ·rw [List.any_eq_false] at h
   have h1:=h (l.getD j default) (by
    rw [List.mem_take_iff_getElem]
    exact ⟨j,by omega,by simp [show j<l.length by omega]⟩)
   simpa using h1
 | true=>
  obtain ⟨x,hx,hxe⟩:=List.any_eq_true.1 h
  obtain ⟨j,hj,rfl⟩:=List.mem_take_iff_getElem.1 hx
  have hj1:j<l.length:=by omega
  have hje:decide (l.getD j default=l.getD k default)=true:=by
   rw [List.getD_eq_getElem?_getD,List.getElem?_eq_getElem hj1];exact hxe
  obtain ⟨j0,h0,h1,h2⟩:=kX (fun t=>decide (t=l.getD k default)) l j hje
  rw [gq (k:=j0) Uz h1 h2]
  simp;omega
theorem ql {p:Nat→Bool} {n:Nat} (h:∀ j,j<n→p j=true):(List.range n).all p=true:=List.all_eq_true.2 fun j hj=>h j (List.mem_range.1 hj)
theorem KH {p:Nat→Bool} {n k:Nat} (hk:k<n) (h:p k=false):(List.range n).all p=false:=by
 cases hc:(List.range n).all p with
 | false=>rfl
 | true=>rw [List.all_eq_true.1 hc k (List.mem_range.2 hk)] at h;cases h
theorem Dh {es:List aX} {ds:List eH} {k:Nat} (hk:k<es.length) (h:rD es k=false):bZ es ds=false:=by
 unfold bZ
 rw [KH hk h];rfl
theorem KI {es:List aX} {ds:List eH} {k:Nat} (hk:k<ds.length) (h:(ds.getD k default).may=false):bZ es ds=false:=by
 have:ds.all eH.may=false:=by
  cases hc:ds.all eH.may with
  | false=>rfl
  | true=>
   rw [List.getD_eq_getElem?_getD,List.getElem?_eq_getElem hk] at h
   have:=List.all_eq_true.1 hc _ (List.getElem_mem hk)
   rw [Option.getD_some] at h
   rw [this] at h;cases h
 unfold bZ
 rw [this];simp
theorem Iu {α:Type} [Inhabited α] {l:List α} {p:α→Bool} (h:∀ j,j<l.length→p (l.getD j default)=true):l.all p=true:=by
 refine List.all_eq_true.2 fun x hx=>?_
 obtain ⟨j,hj,rfl⟩:=List.getElem_of_mem hx
 have:=h j hj
 rwa [List.getD_eq_getElem?_getD,List.getElem?_eq_getElem hj] at this
section
attribute [local irreducible] Hy St Ops DH fE
theorem Oi {w:World} (a:aX) (xs:List aX) (v:Value) (h:aF w v 14 (xs.map cu)):
  Fn Tryz.prog 36 [v,.agg (cu a).toArray].toArray w [] (fun u _=>u=.int .i64 (dh (fun t=>decide (t=a)) xs)):=by
 obtain ⟨q,cap,rfl,hne,hle⟩:=h.opened
 refine enter Tryz.func36 ?_
 refine run ?_
 intro B
 refine run ?_
 refine eF (σ:=Nat) (fun k=>[(5,.int .i64 (k:Int))]) (fun _=>[⟨B,(cu a).toArray,81⟩]) (fun k=>k≤xs.length∧∀ j,j<k→decide (xs.getD j default=a)=false) (fun k=>xs.length - k) 0 ⟨Nat.zero_le _,fun j hj=>absurd hj Uz⟩ ?_
 rintro k m rfl ⟨hk,hno⟩
 refine run ?_
 refine ah _ rfl (fun hc=>?_) (fun hc=>?_)
 ·have hlt:k<xs.length:=by simpa using hc
  obtain ⟨b,o,rfl⟩:=hne UK
  have hr:=h.row hlt
  refine run ?_
  refine lJ ?_
  refine gp ?_
  refine run ?_
  rw [Oh]
  refine ah _ rfl (fun hp=>?_) (fun hp=>?_)
  ·refine run ?_
   refine fin1 ?_
   rw [gq hlt hp hno]
  ·refine run ?_
   refine dG (k + 1) ⟨hlt,fun j hj=>?_⟩
   rcases Nat.lt_succ_iff_lt_or_eq.1 hj with hj | rfl
   ·exact hno j hj
   ·exact hp
 ·have hge:k=xs.length:=by simp at hc;omega
  subst hge
  refine run ?_
  refine fin1 ?_
  rw [dS hno]
theorem Oj {w:World} (es:List aX) (ds:List eH) (v u:Value) (h:aF w v 14 (es.map cu)) (hd:aF w u 4 (ds.map iw)):
  Fn Tryz.prog 13 [.agg #[v,u]].toArray w [] (fun r _=>r=.bool (bZ es ds)):=by
 obtain ⟨q,cap,rfl,hne,hle⟩:=h.opened
 obtain ⟨q2,cap2,rfl,hne2,hle2⟩:=hd.opened
 refine enter Tryz.func13 ?_
 refine run ?_
 intro B
 refine run ?_
 refine eF (σ:=Nat) (fun k=>[(3,.int .i64 (k:Int))]) (fun _=>[⟨B,#[.slice q es.length cap,.slice q2 ds.length cap2],35⟩]) (fun k=>k≤es.length∧∀ j,j<k→rD es j=true) (fun k=>es.length - k) 0 ⟨Nat.zero_le _,fun j hj=>absurd hj Uz⟩ ?_
 rintro k m rfl ⟨hk,hno⟩
 refine run ?_
 refine ah _ rfl (fun hc=>?_) (fun hc=>?_)
 ·have hlt:k<es.length:=by simpa using hc
  obtain ⟨b,o,rfl⟩:=hne UK
  have hr:=h.row hlt
  refine run ?_
  refine lJ ?_
  refine gp ?_
  refine nY (fun wc hG=>KF (es.getD k default) wc) ?_
  refine gy ?_
  refine ji (fun hg wc hG=>Oi (es.getD k default) es _ (h.good hG)) ?_
  refine gy ?_
  refine run ?_
  have he:(!(es.getD k default).may || !decide (dh (fun t=>decide (t=es.getD k default)) es=(k:Int)))=!rD es k:=by
   rw [zG es k hlt]
   unfold rD
   rw [Bool.not_and]
  rw [he]
  refine ah _ rfl (fun hp=>?_) (fun hp=>?_)
  ·refine run ?_
   refine fin1 ?_
   rw [Dh hlt (by simpa using hp)]
  ·refine run ?_
   refine dG (k + 1) ⟨hlt,fun j hj=>?_⟩
   rcases Nat.lt_succ_iff_lt_or_eq.1 hj with hj | rfl
   ·exact hno j hj
   ·simpa using hp
 ·have hge:k=es.length:=by simp at hc;omega
  subst hge
  refine run ?_
  refine eF (σ:=Nat) (fun k=>[(4,.int .i64 (k:Int))]) (fun _=>[⟨B,#[.slice q es.length cap,.slice q2 ds.length cap2],35⟩]) (fun k=>k≤ds.length∧∀ j,j<k→(ds.getD j default).may=true) (fun k=>ds.length - k) 0 ⟨Nat.zero_le _,fun j hj=>absurd hj Uz⟩ ?_
  rintro k m rfl ⟨hk,P6⟩
  refine run ?_
  refine ah _ rfl (fun hc=>?_) (fun hc=>?_)
  ·have hlt:k<ds.length:=by simpa using hc
   obtain ⟨b,o,rfl⟩:=hne2 UK
   have hr:=hd.row hlt
   refine run ?_
   refine ax (fun wc hG=>KG (ds.getD k default) wc) ?_
   refine run ?_
   refine ah _ rfl (fun hp=>?_) (fun hp=>?_)
   ·refine run ?_
    refine fin1 ?_
    rw [KI hlt (by simpa using hp)]
   ·refine run ?_
    refine dG (k + 1) ⟨hlt,fun j hj=>?_⟩
    rcases Nat.lt_succ_iff_lt_or_eq.1 hj with hj | rfl
    ·exact P6 j hj
    ·simpa using hp
  ·have hge:k=ds.length:=by simp at hc;omega
   subst hge
   refine aG ?_
   refine fin1 ?_
   unfold bZ
   rw [ql hno,Iu P6,show decide ((es.length:Int)≤8)=decide (es.length≤8) by (rw [Bool.eq_iff_iff,decide_eq_true_eq,decide_eq_true_eq];omega),show decide ((ds.length:Int)≤8)=decide (ds.length≤8) by (rw [Bool.eq_iff_iff,decide_eq_true_eq,decide_eq_true_eq];omega)]
   rfl
structure Jp where
 es:List aX
 ds:List eH
 ep:Option Addr
 ec:Nat
 dp:Option Addr
 dc:Nat
instance : Inhabited Jp := ⟨⟨[], [], none, 0, none, 0⟩⟩
abbrev Jp.ev (t:Jp):Value:=.slice t.ep t.es.length t.ec
abbrev Jp.dv (t:Jp):Value:=.slice t.dp t.ds.length t.dc
abbrev SG (t:Jp):List Value:=[t.ev,t.dv]
structure Ol (w:World) (v:Value) (ts:List Jp):Prop where
 rows:aF w v 2 (ts.map SG)
 en:∀ t∈ts,aF w t.ev 14 (t.es.map cu)
 iv:∀ t∈ts,aF w t.dv 4 (t.ds.map iw)
theorem Ol.good {w w':World} {hp:Hp} {v:Value} {ts:List Jp} (h:Ol w v ts) (hG:Good w [] hp w'):Ol w' v ts:=⟨h.rows.good hG,fun t ht=>(h.en t ht).good hG,fun t ht=>(h.iv t ht).good hG⟩
theorem getD_mem {α:Type} [Inhabited α] {l:List α} {k:Nat} (h:k<l.length):l.getD k default∈l:=by
 rw [List.getD_eq_getElem?_getD,List.getElem?_eq_getElem h];exact List.getElem_mem h
structure gQ where
 frame:Int
 mid:Int
 r:Bool
 w:Bool
 x:Bool
 af:Bool
 ng:Bool
 soft:Int
 level:Int
deriving DecidableEq
def sD:gQ:=⟨0,0,false,false,false,false,false,0,0⟩
instance : Inhabited gQ := ⟨sD⟩
abbrev Iw (h:gQ):Value:=.agg #[.int .i64 h.frame,.int .i64 h.mid,.bool h.r,.bool h.w,.bool h.x,.bool h.af,.bool h.ng,.int .i64 h.soft,.int .i64 h.level]
structure yh where
 kind:Int
 stage:Int
 level:Int
 walk:Bool
 page:Int
deriving DecidableEq
def eU:yh:=⟨0,0,0,false,0⟩
instance : Inhabited yh := ⟨eU⟩
abbrev yj (f:yh):Value:=.agg #[.int .i64 f.kind,.int .i64 f.stage,.int .i64 f.level,.bool f.walk,.int .i64 f.page]
def jV (r w x:Bool) (acc:Int):Bool:=decide (acc=0) && r || decide (acc=1) && w || decide (acc=2) && x
def bP (r w x af:Bool) (acc stage level page:Int):yh:=bif !af then ⟨3,stage,level,false,page⟩ else bif !jV r w x acc then ⟨4,stage,level,false,page⟩ else eU
structure Ey where
 h:gQ
 f:yh
 rd:List Int
deriving Inhabited
def iR (ws:List Nat) (stage:Int) (p level:Nat):DsD:=C9 stage level (ws.getD p 0)
theorem kE (ws:List Nat) (stage:Int) (p level:Nat):(iR ws stage p level).may stage level=true:=KA _ _ _
def mg (n:Nat) (stage:Int) (page level:Nat) (d:DsD) (rd:List Int):Ey:=
 bif decide (d.kind=0) then ⟨sD,⟨2,stage,level,false,page⟩,rd⟩
 else bif bM n (d.frame + ((page % ay level:Nat):Int)) then ⟨⟨d.frame + ((page % ay level:Nat):Int),0,d.r,d.w,d.x,d.af,d.ng,d.soft,level⟩,eU,rd⟩
 else ⟨sD,⟨1,stage,level,false,page⟩,rd⟩
def Di (ws : List Nat) (stage : Int) (page : Nat) : Nat → Nat → Int → List Int → Ey
  | 0, level, f, rd => ⟨sD, ⟨2, stage, 3, false, page⟩, rd⟩
  | k + 1, level, f, rd => bif bM ws.length f then
      (bif decide ((iR ws stage (fF f level page) level).kind = 1) then Di ws stage page k (level + 1) (iR ws stage (fF f level page) level).frame (rd ++ [f])
       else mg ws.length stage page level (iR ws stage (fF f level page) level) (rd ++ [f]))
    else ⟨sD, ⟨1, stage, level, false, page⟩, rd⟩
def bK (ws:List Nat) (stage frame:Int) (page:Nat):Ey:=Di ws stage page 4 0 frame []
def kY (W:Ey) (mid:Nat) (acc:Int):yh:=bif decide (W.f.kind=0) then bP W.h.r W.h.w W.h.x W.h.af acc 2 W.h.level mid else W.f
def vP (W:Ey) (mid:Nat) (acc:Int):Ey:=bif !decide ((kY W mid acc).kind=0) then ⟨sD,kY W mid acc,W.rd⟩ else ⟨{ W.h with mid:=mid },kY W mid acc,W.rd⟩
def aV (ws:List Nat) (on:Bool) (frame:Int) (mid:Nat) (acc:Int):Ey:=
 bif !on then (bif bM ws.length mid then ⟨⟨mid,mid,true,true,true,true,false,0,0⟩,eU,[]⟩ else ⟨sD,⟨1,2,0,false,mid⟩,[]⟩)
 else vP (bK ws 2 frame mid) mid acc
theorem KJ (r w x af ng:Bool) (soft acc:Int) (W:World):Fn Tryz.prog 59 [.agg #[.bool r,.bool w,.bool x,.bool af,.bool ng,.int .i64 soft],.int .i64 acc].toArray W [] (fun u _=>u=.bool (jV r w x acc)):=by
 refine enter Tryz.func59 ?_
 refine aG ?_
 intro B
 refine fin1 ?_
 simp only [jV]
theorem Dj (r w x af ng:Bool) (soft acc stage level page:Int) (W:World):Fn Tryz.prog 29 [.agg #[.bool r,.bool w,.bool x,.bool af,.bool ng,.int .i64 soft],.int .i64 acc,.int .i64 stage,.int .i64 level,.int .i64 page].toArray W [] (fun u _=>u=yj (bP r w x af acc stage level page)):=by
 refine enter Tryz.func29 ?_
 refine run ?_
 intro B C D
 refine ah _ rfl (fun hc=>?_) (fun hc=>?_)
 ·refine run ?_
  refine jh ?_
  simp only [bP,hc,cond_true]
 refine run ?_
 refine ax (fun wc hG=>KJ r w x af ng soft acc wc) ?_
 refine run ?_
 refine ah _ rfl (fun hc2=>?_) (fun hc2=>?_)
 ·refine run ?_
  refine jh ?_
  simp only [bP,hc,hc2,cond_true,cond_false]
 refine run ?_
 refine jh ?_
 simp only [bP,hc,hc2,cond_true,cond_false]
 rfl
theorem KL (ws:List Nat) (hw:wL ws) {w:World} {v:Value} (h:aF w v 1 (ws.map uV)) (hn:ws.length<1000000) (stage:Int) (hs:stage=1∨stage=2) (frame:Int) (h0:0≤frame) (page:Nat) (hp:page≤4095):Fn Tryz.prog 56 [.agg #[v],.int .i64 stage,.int .i64 frame,.int .i64 (page:Int)].toArray w [] (fun u hn=>∃ v2 h2,u=.tuple #[Iw (bK ws stage frame page).h,yj (bK ws stage frame page).f,v2]∧Own 3 1 v2 h2 ((bK ws stage frame page).rd.map dH)∧aI h2 hn):=by
 obtain ⟨q,cap,rfl,hne,hle⟩:=h.opened
 refine enter Tryz.func56 ?_
 refine run ?_
 intro B C D E
 have e4:∀ f:Int,0≤f→decide (f ≥ ((ws.length / 8:Nat):Int))=!bM ws.length f:=fun f hf=>by
  rw [Bool.eq_iff_iff];simp [bM];omega
 refine eF (σ:=Nat × Int × Value × Hp × List Int × Int) (fun s=>[(13,.int .i64 (s.1:Int)),(2,.int .i64 s.2.1),(11,s.2.2.1)]) (fun s=>⟨E,#[.int .i64 0,.int .i64 stage,.int .i64 s.2.2.2.2.2,.bool false,.int .i64 (page:Int)],50⟩::⟨D,#[.int .i64 0,.int .i64 0,.int .i64 0,.bool false,.int .i64 0],50⟩::⟨C,#[.int .i64 0,.int .i64 0,.bool false,.bool false,.bool false,.bool false,.bool false,.int .i64 0,.int .i64 0],48⟩::⟨B,#[.slice q ws.length cap],24⟩::s.2.2.2.1) (fun s=>s.1<4∧0≤s.2.1∧s.2.2.2.2.1.length=s.1∧Di ws stage page (4 - s.1) s.1 s.2.1 s.2.2.2.2.1=bK ws stage frame page∧Acc 3 1 s.2.2.1 s.2.2.2.1 (s.2.2.2.2.1.map dH)) (fun s=>4 - s.1) (0,frame,.slice none 0 0,[],[],0) ⟨(by decide:0<4),h0,rfl,rfl,Acc.nil _ _⟩ ?_ (hh:=by exact aI.refl _)
 rintro ⟨level,f,v2,ha,rd,lv⟩ m hm ⟨hl,hf0,hrd,hwk,hA⟩
 dsimp only at hm hl hf0 hrd hwk hA ⊢
 obtain ⟨q2,cap2,rfl⟩:=hA.own.opened
 refine run ?_
 refine ah _ rfl (fun hc=>?_) (fun hc=>absurd hc UJ)
 refine run ?_
 refine ax (fun wc hG=>rC ws.length cap Uz q wc) ?_
 refine run ?_
 have h4:4 - level=(3 - level) + 1:=by omega
 rw [h4,Di] at hwk
 have e5:=e4 f hf0
 refine ah _ rfl (fun hc=>?_) (fun hc=>?_)
 ·have hh:bM ws.length f=false:=by simpa using e5.symm.trans hc
  rw [hh,cond_false] at hwk
  rw [← hwk]
  refine run ?_
  refine eG 5 3 [0,1,2] [3,4] (⟨E,#[.int .i64 1,.int .i64 stage,.int .i64 (level:Int),.bool false,.int .i64 (page:Int)],50⟩::⟨B,#[.slice q ws.length cap],24⟩::ha) ?_
  refine dV ?_
  refine aN (b:=C) (tb:=48) (cs:=#[.int .i64 0,.int .i64 0,.bool false,.bool false,.bool false,.bool false,.bool false,.int .i64 0,.int .i64 0]) (cs':=#[.int .i64 0,.int .i64 0,.bool false,.bool false,.bool false,.bool false,.bool false,.int .i64 0,.int .i64 0]) (hp':=⟨E,#[.int .i64 1,.int .i64 stage,.int .i64 (level:Int),.bool false,.int .i64 (page:Int)],50⟩::⟨D,#[.int .i64 0,.int .i64 0,.int .i64 0,.bool false,.int .i64 0],50⟩::⟨B,#[.slice q ws.length cap],24⟩::ha) ?_ az
  refine aN (b:=D) (tb:=50) (cs:=#[.int .i64 0,.int .i64 0,.int .i64 0,.bool false,.int .i64 0]) (cs':=#[.int .i64 1,.int .i64 stage,.int .i64 (level:Int),.bool false,.int .i64 (page:Int)]) (hp':=⟨C,#[.int .i64 0,.int .i64 0,.bool false,.bool false,.bool false,.bool false,.bool false,.int .i64 0,.int .i64 0],48⟩::⟨E,#[.int .i64 1,.int .i64 stage,.int .i64 (level:Int),.bool false,.int .i64 (page:Int)],50⟩::⟨B,#[.slice q ws.length cap],24⟩::ha) ?_ az
  refine bf ?_
  refine dY ?_
  refine run ?_
  exact kD (cs:=#[.int .i64 0,.int .i64 0,.bool false,.bool false,.bool false,.bool false,.bool false,.int .i64 0,.int .i64 0]) (cs2:=#[.int .i64 1,.int .i64 stage,.int .i64 (level:Int),.bool false,.int .i64 (page:Int)]) ⟨_,ha,rfl,hA.own,by (exact ak)⟩
 ·have hh:bM ws.length f=true:=by simpa using e5.symm.trans hc
  rw [hh,cond_true] at hwk
  refine run ?_
  intro T
  refine Ko (c:=dH f) (hp':=⟨T,#[.int .i64 f],3⟩::⟨E,#[.int .i64 0,.int .i64 stage,.int .i64 (level:Int),.bool false,.int .i64 (page:Int)],50⟩::⟨D,#[.int .i64 0,.int .i64 0,.int .i64 0,.bool false,.int .i64 0],50⟩::⟨C,#[.int .i64 0,.int .i64 0,.bool false,.bool false,.bool false,.bool false,.bool false,.int .i64 0,.int .i64 0],48⟩::[⟨B,#[.slice q ws.length cap],24⟩]) hA (fun v' ha' hA'=>?_) UJ (dP (m:=1) mh rfl) (hperm:=by (exact az))
  rw [show rd.map dH++[dH f]=(rd++[f]).map dH by simp] at hA'
  obtain ⟨q3,cap3,rfl⟩:=hA'.own.opened
  refine aZ (⟨E,#[.int .i64 0,.int .i64 stage,.int .i64 (level:Int),.bool false,.int .i64 (page:Int)],50⟩::⟨D,#[.int .i64 0,.int .i64 0,.int .i64 0,.bool false,.int .i64 0],50⟩::⟨C,#[.int .i64 0,.int .i64 0,.bool false,.bool false,.bool false,.bool false,.bool false,.int .i64 0,.int .i64 0],48⟩::⟨B,#[.slice q ws.length cap],24⟩::ha') ak ?_
  refine run ?_
  refine ax (fun wc hG=>zF ws hw (h.good hG) stage hs level hl f hh page hp hn) ?_
  rw [show C9 stage level (ws.getD (fF f level page) 0)=iR ws stage (fF f level page) level from rfl]
  have hmay:=kE ws stage (fF f level page) level
  generalize iR ws stage (fF f level page) level=d at hwk hmay
  obtain ⟨hkk,hk0,hk1,hk2⟩:=fA hmay
  refine run ?_
  intro X
  refine run ?_
  refine ah _ rfl (fun hc2=>?_) (fun hc2=>?_)
  ·have hd1:d.kind=1:=by simpa using hc2
   obtain ⟨k1,k2,k3,k4⟩:=hk1 hd1
   rw [hc2,cond_true] at hwk
   refine run ?_
   refine dG (level + 1,d.frame,.slice q3 ((rd++[f]).map dH).length cap3,ha',rd++[f],(level:Int)) ⟨by dsimp only;omega,k2,by simp [hrd],by rw [← hwk,show 4 - (level + 1)=3 - level by omega],hA'⟩ (hm:=by dsimp only;omega) (h2:=by (exact ak))
  rw [hc2,cond_false] at hwk
  refine run ?_
  refine ah _ rfl (fun hc3=>?_) (fun hc3=>?_)
  ·rw [mg,hc3,cond_true] at hwk
   rw [← hwk]
   refine run ?_
   refine eG 5 3 [0,1,2] [3,4] (⟨E,#[.int .i64 2,.int .i64 stage,.int .i64 (level:Int),.bool false,.int .i64 (page:Int)],50⟩::⟨X,#[.int .i64 d.kind,.int .i64 d.frame,.bool d.r,.bool d.w,.bool d.x,.bool d.af,.bool d.ng,.int .i64 d.soft,.int .i64 d.note],93⟩::⟨B,#[.slice q ws.length cap],24⟩::ha') ?_
   refine dV ?_
   refine aN (b:=C) (tb:=48) (cs:=#[.int .i64 0,.int .i64 0,.bool false,.bool false,.bool false,.bool false,.bool false,.int .i64 0,.int .i64 0]) (cs':=#[.int .i64 0,.int .i64 0,.bool false,.bool false,.bool false,.bool false,.bool false,.int .i64 0,.int .i64 0]) (hp':=⟨E,#[.int .i64 2,.int .i64 stage,.int .i64 (level:Int),.bool false,.int .i64 (page:Int)],50⟩::⟨D,#[.int .i64 0,.int .i64 0,.int .i64 0,.bool false,.int .i64 0],50⟩::⟨X,#[.int .i64 d.kind,.int .i64 d.frame,.bool d.r,.bool d.w,.bool d.x,.bool d.af,.bool d.ng,.int .i64 d.soft,.int .i64 d.note],93⟩::⟨B,#[.slice q ws.length cap],24⟩::ha') ?_ az
   refine aN (b:=D) (tb:=50) (cs:=#[.int .i64 0,.int .i64 0,.int .i64 0,.bool false,.int .i64 0]) (cs':=#[.int .i64 2,.int .i64 stage,.int .i64 (level:Int),.bool false,.int .i64 (page:Int)]) (hp':=⟨C,#[.int .i64 0,.int .i64 0,.bool false,.bool false,.bool false,.bool false,.bool false,.int .i64 0,.int .i64 0],48⟩::⟨E,#[.int .i64 2,.int .i64 stage,.int .i64 (level:Int),.bool false,.int .i64 (page:Int)],50⟩::⟨X,#[.int .i64 d.kind,.int .i64 d.frame,.bool d.r,.bool d.w,.bool d.x,.bool d.af,.bool d.ng,.int .i64 d.soft,.int .i64 d.note],93⟩::⟨B,#[.slice q ws.length cap],24⟩::ha') ?_ az
   refine bf ?_
   refine dY ?_
   refine run ?_
   exact kD (cs:=#[.int .i64 0,.int .i64 0,.bool false,.bool false,.bool false,.bool false,.bool false,.int .i64 0,.int .i64 0]) (cs2:=#[.int .i64 2,.int .i64 stage,.int .i64 (level:Int),.bool false,.int .i64 (page:Int)]) ⟨_,ha',rfl,hA'.own,by (exact ak)⟩
  have hd2:d.kind=2:=by simp at hc2 hc3;omega
  obtain ⟨k1,k2,k3,k4,k5⟩:=hk2 hd2
  have hcv:=fP hl
  have hmod:=Nat.mod_lt page (show 0<ay level by omega)
  rw [mg,hc3,cond_false] at hwk
  refine run ?_
  refine lJ ?_
  refine gp ?_
  refine nY (fun wc hG=>kV level hl wc) ?_
  refine A7 (jM rfl rfl page (ay level) rfl rfl Uz) ?_
  refine gp ?_
  refine run ?_
  have e6:=e4 (d.frame + ((page % ay level:Nat):Int)) Uz
  refine ax (fun wc hG=>rC ws.length cap Uz q wc) ?_
  refine run ?_
  refine ah _ rfl (fun hc4=>?_) (fun hc4=>?_)
  ·have hh2:bM ws.length (d.frame + ((page % ay level:Nat):Int))=false:=by simpa using e6.symm.trans hc4
   rw [hh2,cond_false] at hwk
   rw [← hwk]
   refine run ?_
   refine eG 5 3 [0,1,2] [3,4] (⟨E,#[.int .i64 1,.int .i64 stage,.int .i64 (level:Int),.bool false,.int .i64 (page:Int)],50⟩::⟨X,#[.int .i64 d.kind,.int .i64 d.frame,.bool d.r,.bool d.w,.bool d.x,.bool d.af,.bool d.ng,.int .i64 d.soft,.int .i64 d.note],93⟩::⟨B,#[.slice q ws.length cap],24⟩::ha') ?_
   refine dV ?_
   refine aN (b:=C) (tb:=48) (cs:=#[.int .i64 0,.int .i64 0,.bool false,.bool false,.bool false,.bool false,.bool false,.int .i64 0,.int .i64 0]) (cs':=#[.int .i64 0,.int .i64 0,.bool false,.bool false,.bool false,.bool false,.bool false,.int .i64 0,.int .i64 0]) (hp':=⟨E,#[.int .i64 1,.int .i64 stage,.int .i64 (level:Int),.bool false,.int .i64 (page:Int)],50⟩::⟨D,#[.int .i64 0,.int .i64 0,.int .i64 0,.bool false,.int .i64 0],50⟩::⟨X,#[.int .i64 d.kind,.int .i64 d.frame,.bool d.r,.bool d.w,.bool d.x,.bool d.af,.bool d.ng,.int .i64 d.soft,.int .i64 d.note],93⟩::⟨B,#[.slice q ws.length cap],24⟩::ha') ?_ az
   refine aN (b:=D) (tb:=50) (cs:=#[.int .i64 0,.int .i64 0,.int .i64 0,.bool false,.int .i64 0]) (cs':=#[.int .i64 1,.int .i64 stage,.int .i64 (level:Int),.bool false,.int .i64 (page:Int)]) (hp':=⟨C,#[.int .i64 0,.int .i64 0,.bool false,.bool false,.bool false,.bool false,.bool false,.int .i64 0,.int .i64 0],48⟩::⟨E,#[.int .i64 1,.int .i64 stage,.int .i64 (level:Int),.bool false,.int .i64 (page:Int)],50⟩::⟨X,#[.int .i64 d.kind,.int .i64 d.frame,.bool d.r,.bool d.w,.bool d.x,.bool d.af,.bool d.ng,.int .i64 d.soft,.int .i64 d.note],93⟩::⟨B,#[.slice q ws.length cap],24⟩::ha') ?_ az
   refine bf ?_
   refine dY ?_
   refine run ?_
   exact kD (cs:=#[.int .i64 0,.int .i64 0,.bool false,.bool false,.bool false,.bool false,.bool false,.int .i64 0,.int .i64 0]) (cs2:=#[.int .i64 1,.int .i64 stage,.int .i64 (level:Int),.bool false,.int .i64 (page:Int)]) ⟨_,ha',rfl,hA'.own,by (exact ak)⟩
  have hh2:bM ws.length (d.frame + ((page % ay level:Nat):Int))=true:=by simpa using e6.symm.trans hc4
  rw [hh2,cond_true] at hwk
  rw [← hwk]
  refine run ?_
  exact kD (cs:=#[.int .i64 (d.frame + ((page % ay level:Nat):Int)),.int .i64 0,.bool d.r,.bool d.w,.bool d.x,.bool d.af,.bool d.ng,.int .i64 d.soft,.int .i64 (level:Int)]) (cs2:=#[.int .i64 0,.int .i64 0,.int .i64 0,.bool false,.int .i64 0]) ⟨_,ha',rfl,hA'.own,by (exact ak)⟩
theorem BA (ws:List Nat) (hw:wL ws) {w:World} {v:Value} (h:aF w v 1 (ws.map uV)) (hn:ws.length<1000000) (on:Bool) (frame tag:Int) (h0:0≤frame) (mid:Nat) (hp:mid≤4095) (acc:Int):Fn Tryz.prog 26 [.agg #[v],.agg #[.bool on,.int .i64 frame,.int .i64 tag],.int .i64 (mid:Int),.int .i64 acc].toArray w [] (fun u hn=>∃ v2 h2,u=.tuple #[Iw (aV ws on frame mid acc).h,yj (aV ws on frame mid acc).f,v2]∧Own 3 1 v2 h2 ((aV ws on frame mid acc).rd.map dH)∧aI h2 hn):=by
 obtain ⟨q,cap,rfl,hne,hle⟩:=h.opened
 refine enter Tryz.func26 ?_
 refine run ?_
 intro B R C D
 refine ah _ rfl (fun hc=>?_) (fun hc=>?_)
 ·simp only [aV,hc,cond_true]
  refine run ?_
  refine ax (fun wc hG=>rC ws.length cap Uz q wc) ?_
  refine run ?_
  have e6:decide ((mid:Int) ≥ ((ws.length / 8:Nat):Int))=!bM ws.length (mid:Int):=by
   rw [Bool.eq_iff_iff];simp [bM]
  refine ah _ rfl (fun hc2=>?_) (fun hc2=>?_)
  ·have hh2:bM ws.length (mid:Int)=false:=by simpa using e6.symm.trans hc2
   rw [hh2,cond_false]
   refine run ?_
   exact kD (cs:=#[.int .i64 0,.int .i64 0,.bool false,.bool false,.bool false,.bool false,.bool false,.int .i64 0,.int .i64 0]) (cs2:=#[.int .i64 1,.int .i64 2,.int .i64 0,.bool false,.int .i64 (mid:Int)]) ⟨_,[],rfl,Own.nil _ _,trivial⟩
  have hh2:bM ws.length (mid:Int)=true:=by simpa using e6.symm.trans hc2
  rw [hh2,cond_true]
  refine run ?_
  exact kD (cs:=#[.int .i64 (mid:Int),.int .i64 (mid:Int),.bool true,.bool true,.bool true,.bool true,.bool false,.int .i64 0,.int .i64 0]) (cs2:=#[.int .i64 0,.int .i64 0,.int .i64 0,.bool false,.int .i64 0]) ⟨_,[],rfl,Own.nil _ _,trivial⟩
 simp only [aV,hc,cond_false]
 refine run ?_
 refine jJ (fun wc hG=>KL ws hw (h.good hG) hn 2 (.inr rfl) frame h0 mid hp) ?_
 rintro u hn2 ⟨v2,h2,rfl,hO,hle2⟩
 generalize bK ws 2 frame mid=W at hO
 obtain ⟨q2,cap2,rfl⟩:=hO.opened
 refine aZ (⟨D,#[.int .i64 0,.int .i64 0,.int .i64 0,.bool false,.int .i64 0],50⟩::⟨C,#[.int .i64 0,.int .i64 0,.bool false,.bool false,.bool false,.bool false,.bool false,.int .i64 0,.int .i64 0],48⟩::⟨R,#[.bool on,.int .i64 frame,.int .i64 tag],29⟩::⟨B,#[.slice q ws.length cap],24⟩::h2) (cnt1 hle2) ?_
 refine run ?_
 intro H F
 refine fZ (σ:=yh) (fun _=>[]) (fun g=>⟨F,#[.int .i64 g.kind,.int .i64 g.stage,.int .i64 g.level,.bool g.walk,.int .i64 g.page],50⟩::⟨H,#[.int .i64 W.h.frame,.int .i64 W.h.mid,.bool W.h.r,.bool W.h.w,.bool W.h.x,.bool W.h.af,.bool W.h.ng,.int .i64 W.h.soft,.int .i64 W.h.level],48⟩::⟨D,#[.int .i64 0,.int .i64 0,.int .i64 0,.bool false,.int .i64 0],50⟩::⟨C,#[.int .i64 0,.int .i64 0,.bool false,.bool false,.bool false,.bool false,.bool false,.int .i64 0,.int .i64 0],48⟩::⟨R,#[.bool on,.int .i64 frame,.int .i64 tag],29⟩::⟨B,#[.slice q ws.length cap],24⟩::h2) (fun g=>g=kY W mid acc) ?_ ?_
 ·refine ah _ rfl (fun hc2=>?_) (fun hc2=>?_)
  ·refine run ?_
   refine ax (fun wc hG=>Dj W.h.r W.h.w W.h.x W.h.af W.h.ng W.h.soft acc 2 W.h.level mid wc) ?_
   refine run ?_
   exact eY (bP W.h.r W.h.w W.h.x W.h.af acc 2 W.h.level mid) (by simp only [kY,hc2,cond_true])
  ·refine run ?_
   exact eY W.f (by simp only [kY,hc2,cond_false])
 rintro g hg
 simp only [vP]
 rw [← hg]
 refine run ?_
 refine ah _ rfl (fun hc3=>?_) (fun hc3=>?_)
 ·rw [hc3,cond_true]
  refine run ?_
  refine eG 5 3 [0,1,2] [3,4] (⟨F,#[.int .i64 g.kind,.int .i64 g.stage,.int .i64 g.level,.bool g.walk,.int .i64 g.page],50⟩::⟨H,#[.int .i64 W.h.frame,.int .i64 W.h.mid,.bool W.h.r,.bool W.h.w,.bool W.h.x,.bool W.h.af,.bool W.h.ng,.int .i64 W.h.soft,.int .i64 W.h.level],48⟩::⟨R,#[.bool on,.int .i64 frame,.int .i64 tag],29⟩::⟨B,#[.slice q ws.length cap],24⟩::h2) ?_
  refine dV ?_
  refine aN (b:=C) (tb:=48) (cs:=#[.int .i64 0,.int .i64 0,.bool false,.bool false,.bool false,.bool false,.bool false,.int .i64 0,.int .i64 0]) (cs':=#[.int .i64 0,.int .i64 0,.bool false,.bool false,.bool false,.bool false,.bool false,.int .i64 0,.int .i64 0]) (hp':=⟨F,#[.int .i64 g.kind,.int .i64 g.stage,.int .i64 g.level,.bool g.walk,.int .i64 g.page],50⟩::⟨H,#[.int .i64 W.h.frame,.int .i64 W.h.mid,.bool W.h.r,.bool W.h.w,.bool W.h.x,.bool W.h.af,.bool W.h.ng,.int .i64 W.h.soft,.int .i64 W.h.level],48⟩::⟨D,#[.int .i64 0,.int .i64 0,.int .i64 0,.bool false,.int .i64 0],50⟩::⟨R,#[.bool on,.int .i64 frame,.int .i64 tag],29⟩::⟨B,#[.slice q ws.length cap],24⟩::h2) ?_ az
  refine aN (b:=D) (tb:=50) (cs:=#[.int .i64 0,.int .i64 0,.int .i64 0,.bool false,.int .i64 0]) (cs':=#[.int .i64 g.kind,.int .i64 g.stage,.int .i64 g.level,.bool g.walk,.int .i64 g.page]) (hp':=⟨C,#[.int .i64 0,.int .i64 0,.bool false,.bool false,.bool false,.bool false,.bool false,.int .i64 0,.int .i64 0],48⟩::⟨F,#[.int .i64 g.kind,.int .i64 g.stage,.int .i64 g.level,.bool g.walk,.int .i64 g.page],50⟩::⟨H,#[.int .i64 W.h.frame,.int .i64 W.h.mid,.bool W.h.r,.bool W.h.w,.bool W.h.x,.bool W.h.af,.bool W.h.ng,.int .i64 W.h.soft,.int .i64 W.h.level],48⟩::⟨R,#[.bool on,.int .i64 frame,.int .i64 tag],29⟩::⟨B,#[.slice q ws.length cap],24⟩::h2) ?_ az
  refine bf ?_
  refine dY ?_
  refine run ?_
  exact kD (cs:=#[.int .i64 0,.int .i64 0,.bool false,.bool false,.bool false,.bool false,.bool false,.int .i64 0,.int .i64 0]) (cs2:=#[.int .i64 g.kind,.int .i64 g.stage,.int .i64 g.level,.bool g.walk,.int .i64 g.page]) ⟨_,h2,rfl,hO,by (exact ak)⟩
 rw [hc3,cond_false]
 refine run ?_
 refine eG 5 3 [0,1,2] [3,4] (⟨F,#[.int .i64 g.kind,.int .i64 g.stage,.int .i64 g.level,.bool g.walk,.int .i64 g.page],50⟩::⟨H,#[.int .i64 W.h.frame,.int .i64 (mid:Int),.bool W.h.r,.bool W.h.w,.bool W.h.x,.bool W.h.af,.bool W.h.ng,.int .i64 W.h.soft,.int .i64 W.h.level],48⟩::⟨R,#[.bool on,.int .i64 frame,.int .i64 tag],29⟩::⟨B,#[.slice q ws.length cap],24⟩::h2) ?_
 refine dV ?_
 refine aN (b:=C) (tb:=48) (cs:=#[.int .i64 0,.int .i64 0,.bool false,.bool false,.bool false,.bool false,.bool false,.int .i64 0,.int .i64 0]) (cs':=#[.int .i64 W.h.frame,.int .i64 (mid:Int),.bool W.h.r,.bool W.h.w,.bool W.h.x,.bool W.h.af,.bool W.h.ng,.int .i64 W.h.soft,.int .i64 W.h.level]) (hp':=⟨F,#[.int .i64 g.kind,.int .i64 g.stage,.int .i64 g.level,.bool g.walk,.int .i64 g.page],50⟩::⟨H,#[.int .i64 W.h.frame,.int .i64 (mid:Int),.bool W.h.r,.bool W.h.w,.bool W.h.x,.bool W.h.af,.bool W.h.ng,.int .i64 W.h.soft,.int .i64 W.h.level],48⟩::⟨D,#[.int .i64 0,.int .i64 0,.int .i64 0,.bool false,.int .i64 0],50⟩::⟨R,#[.bool on,.int .i64 frame,.int .i64 tag],29⟩::⟨B,#[.slice q ws.length cap],24⟩::h2) ?_ az
 refine aN (b:=D) (tb:=50) (cs:=#[.int .i64 0,.int .i64 0,.int .i64 0,.bool false,.int .i64 0]) (cs':=#[.int .i64 g.kind,.int .i64 g.stage,.int .i64 g.level,.bool g.walk,.int .i64 g.page]) (hp':=⟨C,#[.int .i64 W.h.frame,.int .i64 (mid:Int),.bool W.h.r,.bool W.h.w,.bool W.h.x,.bool W.h.af,.bool W.h.ng,.int .i64 W.h.soft,.int .i64 W.h.level],48⟩::⟨F,#[.int .i64 g.kind,.int .i64 g.stage,.int .i64 g.level,.bool g.walk,.int .i64 g.page],50⟩::⟨H,#[.int .i64 W.h.frame,.int .i64 (mid:Int),.bool W.h.r,.bool W.h.w,.bool W.h.x,.bool W.h.af,.bool W.h.ng,.int .i64 W.h.soft,.int .i64 W.h.level],48⟩::⟨R,#[.bool on,.int .i64 frame,.int .i64 tag],29⟩::⟨B,#[.slice q ws.length cap],24⟩::h2) ?_ az
 refine bf ?_
 refine dY ?_
 refine run ?_
 exact kD (cs:=#[.int .i64 W.h.frame,.int .i64 (mid:Int),.bool W.h.r,.bool W.h.w,.bool W.h.x,.bool W.h.af,.bool W.h.ng,.int .i64 W.h.soft,.int .i64 W.h.level]) (cs2:=#[.int .i64 g.kind,.int .i64 g.stage,.int .i64 g.level,.bool g.walk,.int .i64 g.page]) ⟨_,h2,rfl,hO,by (exact ak)⟩
end
section
section
variable {P : Program} {T : Tab} {n : Nat} {w0 : World} {mu : List Nat} {l : Fm} {hp : Hp} {Q : Exit → Fm → Hp → Prop} {all : Array Oper} {rest : List Oper} {ty : TypeId} {pos : String} {af : Array Edge}
theorem wM (ok:aJ P T) {t d e sz k cap c:Nat} {p q:Option Addr} {x y:Operand} {z:Value} (hd:Nat.blt d n=true) (hx:ev l x=some (.slice p k cap)) (hle:k≤cap) (hy:ev l y=some (.slice q 0 c)) (ht:lk T.sl t=some (e,sz)) (hz:lk T.zs e=some z)
  (h:Ops P n w0 mu all rest ((d,.slice p k cap)::l) hp Q):Ops P n w0 mu all (⟨some d,.call { callee:=.builtin .append,args:=#[x,y],argTypes:=#[t,t] },ty,pos,af,none⟩::rest) l hp Q:=by
 intro ac w hk hG
 have hput:∀ v,Knows n ((d,v)::l) (ac.put (some d) v):=fun v=>Knows.put (d:=some d) hk (fun t ht=>by cases ht;simpa using hd) v
 obtain ⟨hu,hsz⟩:=ok.vX ht
 refine wpList_plain rfl fun K hK=>?_
 have hr:(Builtin.append_ #[t,t] ty #[.slice p k cap,.slice q 0 c]).run P w=.ok (.slice p k cap) w:=by
  cases p<;>cases q<;>simp [Builtin.append_,run_underlying hu,run_sizeOf hsz w,Builtin.lenOf,Builtin.firstCells,hle,storeCells,loadCells,loadCellsFrom]
 unfold Oper.wp execOp
 simp only [resolve,invoke,builtin,Sem.run_bind,Sem.run_pure,Result.andThen_ok,List.map_toArray,List.map_cons,List.map_nil,hk.ev hx,hk.ev hy,hr]
 exact hK _ _ (h _ _ (hput _) hG)
end
section
variable {n : Nat} {w0 : World} {mu : List Nat} {l : Fm} {hp : Hp} {Q : Exit → Fm → Hp → Prop} {all : Array Oper} {rest : List Oper} {ty : TypeId} {pos : String} {af : Array Edge}
def rW (w0:World) (mu:List Nat) (hp:Hp) (v:Value) (ys:List (List Value)):Prop:=∃ q c,v=.slice q ys.length c∧(ys=[]∨∃ a o,q=some ⟨a,o,none⟩∧jH w0 mu hp a o ys.flatten)
theorem rW.own {e sz:Nat} {v:Value} {ha:Hp} {ys:List (List Value)} (hA:Own e sz v ha ys) (hm:aI ha hp):rW w0 mu hp v ys:=by
 rcases hA.2 with ⟨rfl,rfl,rfl⟩ | ⟨g,cap,cur,rfl,rfl,hrow⟩
 ·exact ⟨_,_,rfl,.inl rfl⟩
 ·refine ⟨_,_,rfl,.inr ⟨g,0,rfl,?_⟩⟩
  have hb:(⟨g,cur,e⟩:jY)∈hp:=by
   obtain ⟨x,hx,_⟩:=hm
   exact hx.mem_iff.1 (List.mem_cons_self ..)
  refine dP (m:=ys.length * sz) hb ?_
  rw [List.drop_zero];exact hrow.take
theorem rW.old {sz:Nat} {w0:World} {hp:Hp} {v:Value} {α:Type} {f:α→List Value} {ys:List α} (h:aF w0 v sz (ys.map f)) (hall:∀ c∈ys.map f,c.length=sz):rW w0 [] hp v (ys.map f):=by
 obtain ⟨⟨p,c,rfl,hne⟩,_⟩:=h
 refine ⟨p,c,rfl,?_⟩
 by_cases h0:ys.map f=[]
 ·exact .inl h0
 ·obtain ⟨b,o,rfl,hr⟩:=hne h0
  exact .inr ⟨b,o,rfl,yT (nZ _ o hall hr) UC⟩
theorem yl {t d e sz iP:Nat} {x y:Operand} {z v yv:Value} {ha:Hp} {xs:List (List Value)} (ys:List (List Value)) (hp':Hp) (hA:Own e sz v ha xs) (hS:rW w0 mu hp yv ys) (h:∀ v' ha',Own e sz v' ha' (xs++ys)→Ops Tryz.prog n w0 mu all rest ((d,v')::l) (ha'++hp') Q) (h63:xs.length + ys.length<1000000) (hall:∀ c∈ys,c.length=sz∧c.all (·.oneCell')=true)
  (hperm:(ha++hp').Perm hp) (hd:Nat.blt d n=true:=by rfl) (hx:ev l x=some v:=by rfl) (hy:ev l y=some yv:=by rfl) (ht:lk Tb.sl t=some (e,sz):=by rfl)
  (hz:lk Tb.zs e=some z:=by rfl) (hzs:z.cells.size=sz:=by rfl) (hb:lk Tb.eb e=some iP:=by rfl) (hby:Nat.ble iP 4096=true:=by rfl):Ops Tryz.prog n w0 mu all (⟨some d,.call { callee:=.builtin .append,args:=#[x,y],argTypes:=#[t,t] },ty,pos,af,none⟩::rest) l hp Q:=by
 have rZ:iP≤4096:=Nat.le_of_ble_eq_true hby
 have hfl:=bD ys (fun c hc=>(hall c hc).1)
 obtain ⟨q,c,rfl,hsrc⟩:=hS
 have Md:∀ c∈xs++ys,c.length=sz∧c.all (·.oneCell')=true:=fun c hc=>by
  rcases List.mem_append.1 hc with hc | hc
  ·exact hA.1 c hc
  ·exact hall c hc
 by_cases h0:ys=[]
 ·subst h0
  rw [List.append_nil] at h
  have hsh:∃ p cap,v=.slice p xs.length cap∧xs.length≤cap:=by
   rcases hA.2 with ⟨rfl,rfl,rfl⟩ | ⟨g,cap,cur,rfl,rfl,hrow⟩
   ·exact ⟨_,_,rfl,Nat.le_refl _⟩
   ·exact ⟨_,_,rfl,hrow.le⟩
  obtain ⟨p,cap,rfl,hle⟩:=hsh
  refine wM aj hd hx hle hy ht hz ?_
  exact oU _ hperm (h _ ha hA)
 ·obtain ⟨a,o,rfl,hnews⟩:=hsrc.resolve_left h0
  have hpos:0<ys.length:=List.length_pos_iff.2 h0
  rcases hA.2 with ⟨rfl,rfl,rfl⟩ | ⟨g,cap,cur,rfl,rfl,hrow⟩
  ·refine qL aj hd hx hy ht hz hzs hb hpos hfl hnews (by simp at h63;omega) ?_ fun g cap cur hr=>?_
   ·calc _≤1000000 * iP:=Nat.mul_le_mul_right _ (by simp at h63;omega)
     _≤1000000 * 4096:=Nat.mul_le_mul_left _ rZ
     _≤_:=by decide
   ·have:=h (.slice (some ⟨g,0,none⟩) ys.length cap) [⟨g,cur,e⟩] ⟨Md,.inr ⟨g,cap,cur,rfl,rfl,by simpa using hr⟩⟩
    refine oU _ ?_ this
    exact (hperm.cons _:(⟨g,cur,e⟩::([]++hp')).Perm (⟨g,cur,e⟩::hp))
  ·refine kP aj hd hx hy ht hz hzs hb hperm hrow (news:=ys.flatten) hfl hnews ?_ Uz ?_ fun g cap cur hr=>?_
   ·rw [List.all_flatten,List.all_eq_true]
    exact fun c hc=>(hall c hc).2
   ·have h2:(xs.length + ys.length + (xs.length + ys.length) / 4 + 192)≤2000000:=by omega
    calc _≤2000000 * iP:=Nat.mul_le_mul_right _ h2
     _≤2000000 * 4096:=Nat.mul_le_mul_left _ rZ
     _≤_:=by decide
   ·have:=h (.slice (some ⟨g,0,none⟩) (xs.length + ys.length) cap) [⟨g,cur,e⟩] ⟨Md,.inr ⟨g,cap,cur,by rw [List.length_append],rfl,by rw [List.length_append,List.flatten_append];exact hr⟩⟩
    exact this
end
end
def aX.Qx (e:aX) (V A:Int):Bool:=decide (e.iF=V) && (e.all || decide (e.jf=A))
def aX.lets (e:aX) (acc:Int):Bool:=jV e.r e.w e.x acc
def gU (V A P acc:Int) (e:aX):Bool:=decide (e.kind=1) && e.Qx V A && decide (e.page=P) && e.lets acc
def nC (V P acc:Int) (e:aX):Bool:=decide (e.kind=2) && decide (e.iF=V) && decide (e.page=P) && e.lets acc
def jW (V A:Int) (P:Nat) (e:aX):Bool:=decide (e.kind=3) && e.Qx V A && decide (e.page=((iq (e.level.toNat - 1) P:Nat):Int))
def bW (es:List aX) (q:aX→Bool):Nat→Int
 | 0=>-1
 | k + 1=>bif q (es.getD k default) && (decide (bW es q k<0) || decide ((es.getD (bW es q k).toNat default).level<(es.getD k default).level)) then (k:Int) else bW es q k
theorem nD {es:List aX} {q:aX→Bool}:∀ k,-1≤bW es q k∧bW es q k<(k:Int):=by
 intro k
 induction k with
 | zero=>rw [bW];omega
 | succ k ih=>
  rw [bW]
  cases (q (es.getD k default) && (decide (bW es q k<0) || decide ((es.getD (bW es q k).toNat default).level<(es.getD k default).level))) with
  | true=>rw [cond_true];omega
  | false=>rw [cond_false];omega
def iI (es:List aX) (e:aX):List aX:=bif !(es.any fun t=>decide (t=e)) && decide (es.length<8) then es++[e] else es
section
attribute [local irreducible] Hy St Ops DH fE iK iE fU DS fD
theorem Iy {α:Type} [Inhabited α] (p:α→Bool) (l:List α):decide (dh p l<0)=!l.any p:=by
 cases h:l.any p with
 | false=>
  have:dh p l=-1:=dS fun j hj=>by
   rw [List.any_eq_false] at h
   have:=h _ (getD_mem hj)
   simpa using this
  rw [this];rfl
 | true=>
  obtain ⟨x,hx,hp⟩:=List.any_eq_true.1 h
  obtain ⟨j,hj,rfl⟩:=List.getElem_of_mem hx
  have hjp:p (l.getD j default)=true:=by rw [List.getD_eq_getElem?_getD,List.getElem?_eq_getElem hj];exact hp
  obtain ⟨j0,h0,h1,h2⟩:=kX p l j hjp
  rw [gq (k:=j0) Uz h1 h2]
  simp
end
structure Dk where
 cpu:Int
 fill:Bool
 aP:Bool
 walk:Bool
 drop:Int
 use:Bool
instance : Inhabited Dk := ⟨⟨0, false, false, false, 0, false⟩⟩
abbrev BB (p:Dk):List Value:=[.int .i64 p.cpu,.bool p.fill,.bool p.aP,.bool p.walk,.int .i64 p.drop,.bool p.use]
structure dX where
 on:Bool
 frame:Int
 tag:Int
instance : Inhabited dX := ⟨⟨false, 0, 0⟩⟩
abbrev jv (r:dX):List Value:=[.bool r.on,.int .i64 r.frame,.int .i64 r.tag]
def dX.may (r:dX):Bool:=PtD.bH r.frame 0 4095 && PtD.bH r.tag 0 15
structure kZ where
 es:List aX
 rd:List Int
structure AtD where
 r:Bool
 w:Bool
 x:Bool
 af:Bool
 ng:Bool
def zH:AtD:=⟨false,false,false,false,false⟩
abbrev Q4 (a:AtD):List Value:=[.bool a.r,.bool a.w,.bool a.x,.bool a.af,.bool a.ng,.int .i64 0]
structure OW where
 s:kZ
 n:Int
 a:AtD
 f:yh
structure Ez where
 s:kZ
 n:Int
 f:yh
structure gX where
 ws:List Nat
 one:dX
 two:dX
 pk:Dk
 page:Nat
 acc:Int
def vS (tag:Int) (mid:Nat) (h:gQ):aX:=⟨2,tag,0,true,mid,0,h.frame,0,h.r,h.w,h.x,h.af,h.ng,0⟩
def sF (c:gX) (level:Nat) (frame:Int):aX:=⟨3,c.two.tag,c.one.tag,false,((iq (level - 1) c.page:Nat):Int),level,frame,0,false,false,false,false,false,0⟩
def sG (c:gX) (n:Int) (mid:Nat) (d:DsD) (a:AtD):aX:=⟨1,c.two.tag,c.one.tag,!(d.ng || a.ng),c.page,0,n,mid,d.r && a.r,d.w && a.w,d.x && a.x,d.af && a.af,d.ng || a.ng,0⟩
def nT (c:gX) (s:kZ) (mid:Nat) (W:Ey):OW:=
 bif !decide (W.f.kind=0) then ⟨⟨s.es,s.rd++W.rd⟩,0,zH,W.f⟩
 else ⟨⟨bif c.pk.aP then iI s.es (vS c.two.tag mid W.h) else s.es,s.rd++W.rd⟩,W.h.frame,⟨W.h.r,W.h.w,W.h.x,W.h.af,W.h.ng⟩,W.f⟩
def oL (c:gX) (s:kZ) (mid:Nat) (acc:Int):Int:=dh (nC c.two.tag mid acc) s.es
def Q5 (e:aX):AtD:=⟨e.r,e.w,e.x,e.af,e.ng⟩
def bV (c:gX) (s:kZ) (mid:Nat) (acc:Int):OW:=
 bif c.pk.use && decide (0≤oL c s mid acc) then ⟨s,(s.es.getD (oL c s mid acc).toNat default).frame,Q5 (s.es.getD (oL c s mid acc).toNat default),eU⟩
 else nT c s mid (aV c.ws true c.two.frame mid acc)
def dZ (c:gX) (s:kZ) (mid level:Nat):Ez:=
 bif !decide ((bV c s mid 0).f.kind=0) then ⟨(bV c s mid 0).s,0,{ (bV c s mid 0).f with walk:=true }⟩
 else ⟨⟨bif decide (0<level) && c.pk.walk then iI (bV c s mid 0).s.es (sF c level (bV c s mid 0).n) else (bV c s mid 0).s.es,(bV c s mid 0).s.rd⟩,(bV c s mid 0).n,eU⟩
def bQ (c:gX) (level:Nat) (d:DsD):Nat:=d.frame.toNat + c.page % ay level
def kF (c:gX) (s:kZ) (level:Nat) (d:DsD):Ez:=
 bif !decide ((bP d.r d.w d.x d.af c.acc 1 level c.page).kind=0) then ⟨s,0,bP d.r d.w d.x d.af c.acc 1 level c.page⟩
 else bif !decide ((bV c s (bQ c level d) c.acc).f.kind=0) then ⟨(bV c s (bQ c level d) c.acc).s,0,(bV c s (bQ c level d) c.acc).f⟩
 else ⟨⟨bif c.pk.fill then iI (bV c s (bQ c level d) c.acc).s.es (sG c (bV c s (bQ c level d) c.acc).n (bQ c level d) d (bV c s (bQ c level d) c.acc).a) else (bV c s (bQ c level d) c.acc).s.es,(bV c s (bQ c level d) c.acc).s.rd⟩,(bV c s (bQ c level d) c.acc).n,eU⟩
def qo (c:gX):Nat→Nat→Int→kZ→Ez
 | 0,level,frame,s=>⟨s,0,eU⟩
 | k + 1,level,frame,s=>
  let d:=iR c.ws 1 (fF frame level c.page) level
  let s1:kZ:=⟨s.es,s.rd++[frame]⟩
  bif decide (d.kind=1) then (bif !decide ((dZ c s1 d.frame.toNat (level + 1)).f.kind=0) then ⟨(dZ c s1 d.frame.toNat (level + 1)).s,0,(dZ c s1 d.frame.toNat (level + 1)).f⟩ else qo c k (level + 1) (dZ c s1 d.frame.toNat (level + 1)).n (dZ c s1 d.frame.toNat (level + 1)).s)
  else bif decide (d.kind=0) then ⟨s1,0,⟨2,1,level,false,c.page⟩⟩
  else kF c s1 level d
def rX (c:gX) (s:kZ):Ez:=bif !decide ((dZ c s c.one.frame.toNat 0).f.kind=0) then ⟨(dZ c s c.one.frame.toNat 0).s,0,(dZ c s c.one.frame.toNat 0).f⟩ else qo c 4 0 (dZ c s c.one.frame.toNat 0).n (dZ c s c.one.frame.toNat 0).s
def fQ (c:gX) (es:List aX):Int:=dh (gU c.two.tag c.one.tag c.page c.acc) es
def dw (c:gX) (es:List aX):Int:=bW es (jW c.two.tag c.one.tag c.page) es.length
def jQ (es:List aX) (i:Int):List aX:=bif decide (0≤i) && decide (i<(es.length:Int)) then es.eraseIdx i.toNat else es
def zI (c:gX) (es:List aX):Ez:=
 bif c.pk.use && decide (0≤dw c es) then qo c (4 - (es.getD (dw c es).toNat default).level.toNat) (es.getD (dw c es).toNat default).level.toNat (es.getD (dw c es).toNat default).frame ⟨es,[]⟩
 else rX c ⟨es,[]⟩
def kG (c:gX) (es:List aX):Ez:=
 bif !c.one.on then ⟨(bV c ⟨es,[]⟩ c.page c.acc).s,(bV c ⟨es,[]⟩ c.page c.acc).n,(bV c ⟨es,[]⟩ c.page c.acc).f⟩
 else bif c.pk.use && decide (0≤fQ c es) then ⟨⟨es,[]⟩,(es.getD (fQ c es).toNat default).frame,eU⟩
 else zI c es
def dW (c:gX) (es:List aX):Ez:=kG c (jQ es c.pk.drop)
structure gG (n:Nat) (es:List aX) (ds:List eH):Prop where
 FI:bZ es ds=true
 held:∀ e∈es,bM n e.frame=true
theorem jC {es:List aX} {ds:List eH} (h:bZ es ds=true):(∀ e∈es,e.may=true)∧es.length≤8∧ds.length≤8:=by
 simp only [bZ,Bool.and_eq_true,decide_eq_true_eq] at h
 refine ⟨fun e he=>?_,h.1.2,h.2⟩
 obtain ⟨j,hj,rfl⟩:=List.getElem_of_mem he
 have:=List.all_eq_true.1 h.1.1.1 j (List.mem_range.2 hj)
 simp only [rD,Bool.and_eq_true] at this
 rw [List.getD_eq_getElem?_getD,List.getElem?_eq_getElem hj] at this
 exact this.1
theorem gG.may {n:Nat} {es:List aX} {ds:List eH} (h:gG n es ds):(∀ e∈es,e.may=true)∧es.length≤8∧ds.length≤8:=jC h.FI
theorem yt {n:Nat} {es:List aX} {ds:List eH} {e:aX} (h:gG n es ds) (hm:e.may=true) (hf:bM n e.frame=true):gG n (iI es e) ds:=by
 unfold iI
 cases hc:(!(es.any fun t=>decide (t=e)) && decide (es.length<8)) with
 | false=>exact h
 | true=>
  rw [Bool.and_eq_true,Bool.not_eq_true',decide_eq_true_eq] at hc
  obtain ⟨hno,h8⟩:=hc
  rw [cond_true]
  refine ⟨?_,fun x hx=>?_⟩
  ·have ht:=h.FI
   simp only [bZ,Bool.and_eq_true,decide_eq_true_eq] at ht ⊢
   obtain ⟨⟨⟨h1,h2⟩,h3⟩,h4⟩:=ht
   refine ⟨⟨⟨ql fun j hj=>?_,h2⟩,by simp;omega⟩,h4⟩
   simp only [List.length_append,List.length_singleton] at hj
   by_cases hje:j<es.length
   ·have:=List.all_eq_true.1 h1 j (List.mem_range.2 hje)
    unfold rD at this ⊢
    rw [List.take_append_of_le_length Uz,show (es++[e]).getD j default=es.getD j default by simp [List.getD_eq_getElem?_getD,List.getElem?_append_left hje]]
    exact this
   ·have Q7:j=es.length:=by omega
    subst Q7
    unfold rD
    rw [List.take_left,show (es++[e]).getD es.length default=e by simp [List.getD_eq_getElem?_getD]]
    rw [hm,hno];rfl
  ·rcases List.mem_append.1 hx with hx | hx
   ·exact h.held x hx
   ·obtain rfl:=List.mem_singleton.1 hx;exact hf
theorem Dl {es:List aX} {ds:List eH}:bZ es ds=true↔(∀ e∈es,e.may=true)∧es.Nodup∧ds.all eH.may=true∧es.length≤8∧ds.length≤8:=by
 constructor
 ·intro h
  have hm:=jC h
  simp only [bZ,Bool.and_eq_true,decide_eq_true_eq] at h
  refine ⟨hm.1,?_,h.1.1.2,hm.2⟩
  rw [List.nodup_iff_pairwise_ne,List.pairwise_iff_getElem]
  intro i j hi hj hij
  have h1:=List.all_eq_true.1 h.1.1.1 j (List.mem_range.2 hj)
  simp only [rD,Bool.and_eq_true,Bool.not_eq_true',List.any_eq_false] at h1
  have h2:=h1.2 es[i] (List.mem_take_iff_getElem.2 ⟨i,by omega,rfl⟩)
  rw [List.getD_eq_getElem?_getD,List.getElem?_eq_getElem hj] at h2
  simpa using h2
 ·rintro ⟨h1,h2,h3,h4,h5⟩
  simp only [bZ,Bool.and_eq_true,decide_eq_true_eq]
  refine ⟨⟨⟨ql fun j hj=>?_,h3⟩,h4⟩,h5⟩
  simp only [rD,Bool.and_eq_true,Bool.not_eq_true',List.any_eq_false]
  refine ⟨h1 _ (getD_mem hj),fun x hx=>?_⟩
  obtain ⟨i,hi,rfl⟩:=List.mem_take_iff_getElem.1 hx
  rw [List.nodup_iff_pairwise_ne,List.pairwise_iff_getElem] at h2
  have:=h2 i j Uz hj Uz
  rw [List.getD_eq_getElem?_getD,List.getElem?_eq_getElem hj]
  simpa using this
theorem EC {es:List aX} {ds:List eH} (h:bZ es ds=true) (i:Nat):bZ (es.eraseIdx i) ds=true:=by
 obtain ⟨h1,h2,h3,h4,h5⟩:=Dl.1 h
 refine Dl.2 ⟨fun e he=>h1 e (List.mem_of_mem_eraseIdx he),h2.sublist (List.eraseIdx_sublist ..),h3,Nat.le_trans (List.eraseIdx_sublist ..).length_le h4,h5⟩
theorem Dp {n:Nat} {es:List aX} {ds:List eH} (h:gG n es ds) (i:Int):gG n (jQ es i) ds:=by
 unfold jQ
 cases hc:(decide (0≤i) && decide (i<(es.length:Int))) with
 | false=>exact h
 | true=>
  rw [cond_true]
  refine ⟨EC h.FI _,fun x hx=>h.held x (List.mem_of_mem_eraseIdx hx)⟩
theorem Om {level:Nat} {d:DsD} (hd:d.may 2 level=true):d.ng=false:=by
 unfold DsD.may at hd
 cases h0:decide (d.kind=0) with
 | true=>
  rw [h0] at hd
  simp only [cond_true,DsD.bare,Bool.and_eq_true,Bool.not_eq_true'] at hd
  simp_all
 | false=>
  rw [h0] at hd
  cases h1:decide (d.kind=1) with
  | true=>
   rw [h1] at hd
   simp only [cond_true,cond_false,DsD.bare,Bool.and_eq_true,Bool.not_eq_true'] at hd
   simp_all
  | false=>
   rw [h1] at hd
   simp only [cond_false] at hd
   simp_all
theorem KN {n:Nat} {stage:Int} {page level:Nat} {d:DsD} {rd:List Int} (hd:d.may stage level=true) (hk:(mg n stage page level d rd).f.kind=0):bM n (mg n stage page level d rd).h.frame=true∧(mg n stage page level d rd).f=eU∧(stage=2→(mg n stage page level d rd).h.ng=false):=by
 unfold mg at hk ⊢
 cases h0:decide (d.kind=0) with
 | true=>rw [h0] at hk;simp at hk
 | false=>
  rw [h0] at hk
  simp only [cond_false] at hk ⊢
  cases h1:bM n (d.frame + ((page % ay level:Nat):Int)) with
  | false=>rw [h1] at hk;simp at hk
  | true=>
   refine ⟨h1,rfl,fun hs=>?_⟩
   subst hs
   exact Om hd
theorem Oo {ws:List Nat} {stage:Int} {page:Nat}:∀ (k level:Nat) (f:Int) (rd:List Int),(Di ws stage page k level f rd).f.kind=0→bM ws.length (Di ws stage page k level f rd).h.frame=true∧(Di ws stage page k level f rd).f=eU∧(stage=2→(Di ws stage page k level f rd).h.ng=false):=by
 intro k
 induction k with
 | zero=>intro level f rd h;simp [Di] at h
 | succ k ih=>
  intro level f rd h
  rw [Di] at h ⊢
  cases hh:bM ws.length f with
  | false=>rw [hh] at h;simp at h
  | true=>
   rw [hh] at h
   simp only [cond_true] at h ⊢
   cases h1:decide ((iR ws stage (fF f level page) level).kind=1) with
   | true=>rw [h1] at h;exact ih _ _ _ h
   | false=>rw [h1] at h;exact KN (kE _ _ _ _) h
theorem ED {r w x af:Bool} {acc stage level page:Int} (h:(bP r w x af acc stage level page).kind=0):bP r w x af acc stage level page=eU:=by
 unfold bP at h ⊢
 cases af with
 | false=>simp at h
 | true=>
  cases hm:jV r w x acc with
  | false=>rw [hm] at h;simp at h
  | true=>rfl
theorem ug {ws:List Nat} {frame:Int} {mid:Nat} {acc:Int} (h:(aV ws true frame mid acc).f.kind=0):bM ws.length (aV ws true frame mid acc).h.frame=true∧(aV ws true frame mid acc).f=eU∧(aV ws true frame mid acc).h.ng=false:=by
 simp only [aV,Bool.not_true,cond_false,vP] at h ⊢
 cases hg:decide ((kY (bK ws 2 frame mid) mid acc).kind=0) with
 | false=>
  rw [hg] at h
  simp only [Bool.not_false,cond_true] at h
  simp [h] at hg
 | true=>
  simp only [Bool.not_true,cond_false]
  have hk:(kY (bK ws 2 frame mid) mid acc).kind=0:=by simpa using hg
  unfold kY at hk ⊢
  cases hw:decide ((bK ws 2 frame mid).f.kind=0) with
  | false=>rw [hw] at hk;simp only [cond_false] at hk;simp [hk] at hw
  | true=>
   rw [hw] at hk
   simp only [cond_true] at hk ⊢
   obtain ⟨h1,h2,h3⟩:=Oo 4 0 frame [] (of_decide_eq_true hw)
   exact ⟨h1,ED hk,h3 rfl⟩
abbrev EE (w w':World):Prop:=∃ hp,Good w [] hp w'
section
attribute [local irreducible] Hy St Ops DH fE
theorem zJ {w:World} {F:Nat} {us:List Value} (p:Int→Bool) (xs:List (Int)) (v:Value) (h:aF w v 1 (xs.map dH)) (hF:∀ x,x∈xs→∀ w',EE w w'→Fn Tryz.prog F ([]++[Value.int .i64 x]++us).toArray w' [] (fun u _=>u=.bool (p x))) (bY:mem jT F=true:=by rfl):
  Fn Tryz.prog 154 [v,.func (.func F) [].toArray us.toArray].toArray w [] (fun u _=>u=.int .i64 (dh p xs)):=by
 obtain ⟨q,cap,rfl,hne,hle⟩:=h.opened
 refine enter Tryz.func154 ?_
 refine run ?_
 refine eF (σ:=Nat) (fun k=>[(8,.int .i64 (k:Int))]) (fun _=>[]) (fun k=>k≤xs.length∧∀ j,j<k→p (xs.getD j default)=false) (fun k=>xs.length - k) 0 ⟨Nat.zero_le _,fun j hj=>absurd hj Uz⟩ ?_
 rintro k m rfl ⟨hk,hno⟩
 refine run ?_
 refine ah _ rfl (fun hc=>?_) (fun hc=>?_)
 ·have hlt:k<xs.length:=by simpa using hc
  obtain ⟨b,o,rfl⟩:=hne UK
  have hr:=dD (h.row hlt)
  simp only [Nat.mul_one] at hr
  refine run ?_
  refine pO (fun wc hG=>hF (xs.getD k default) (getD_mem hlt) wc ⟨_,hG⟩) (bY:=bY) ?_
  refine run ?_
  refine ah _ rfl (fun hp=>?_) (fun hp=>?_)
  ·refine run ?_
   refine fin1 ?_
   rw [gq hlt hp hno]
  ·refine run ?_
   refine dG (k + 1) ⟨hlt,fun j hj=>?_⟩
   rcases Nat.lt_succ_iff_lt_or_eq.1 hj with hj | rfl
   ·exact hno j hj
   ·exact hp
 ·have hge:k=xs.length:=by simp at hc;omega
  subst hge
  refine run ?_
  refine fin1 ?_
  rw [dS hno]
theorem BC {w:World} {F:Nat} {us:List Value} (p:eH→Bool) (xs:List (eH)) (v:Value) (h:aF w v 4 (xs.map iw)) (hF:∀ x,x∈xs→∀ w',EE w w'→Fn Tryz.prog F ([]++[Value.agg (iw x).toArray]++us).toArray w' [] (fun u _=>u=.bool (p x))) (bY:mem jT F=true:=by rfl):
  Fn Tryz.prog 169 [v,.func (.func F) [].toArray us.toArray].toArray w [] (fun u _=>u=.int .i64 (dh p xs)):=by
 obtain ⟨q,cap,rfl,hne,hle⟩:=h.opened
 refine enter Tryz.func169 ?_
 refine run ?_
 refine eF (σ:=Nat) (fun k=>[(8,.int .i64 (k:Int))]) (fun _=>[]) (fun k=>k≤xs.length∧∀ j,j<k→p (xs.getD j default)=false) (fun k=>xs.length - k) 0 ⟨Nat.zero_le _,fun j hj=>absurd hj Uz⟩ ?_
 rintro k m rfl ⟨hk,hno⟩
 refine run ?_
 refine ah _ rfl (fun hc=>?_) (fun hc=>?_)
 ·have hlt:k<xs.length:=by simpa using hc
  obtain ⟨b,o,rfl⟩:=hne UK
  have hr:=h.row hlt
  refine run ?_
  refine pO (fun wc hG=>hF (xs.getD k default) (getD_mem hlt) wc ⟨_,hG⟩) (bY:=bY) ?_
  refine run ?_
  refine ah _ rfl (fun hp=>?_) (fun hp=>?_)
  ·refine run ?_
   refine fin1 ?_
   rw [gq hlt hp hno]
  ·refine run ?_
   refine dG (k + 1) ⟨hlt,fun j hj=>?_⟩
   rcases Nat.lt_succ_iff_lt_or_eq.1 hj with hj | rfl
   ·exact hno j hj
   ·exact hp
 ·have hge:k=xs.length:=by simp at hc;omega
  subst hge
  refine run ?_
  refine fin1 ?_
  rw [dS hno]
theorem BD {w:World} {F:Nat} {us:List Value} (p:aX→Bool) (xs:List (aX)) (v:Value) (h:aF w v 14 (xs.map cu)) (hF:∀ x,x∈xs→∀ w',EE w w'→Fn Tryz.prog F ([]++[Value.agg (cu x).toArray]++us).toArray w' [] (fun u _=>u=.bool (p x))) (bY:mem jT F=true:=by rfl):
  Fn Tryz.prog 115 [v,.func (.func F) [].toArray us.toArray].toArray w [] (fun u _=>u=.int .i64 (dh p xs)):=by
 obtain ⟨q,cap,rfl,hne,hle⟩:=h.opened
 refine enter Tryz.func115 ?_
 refine run ?_
 refine eF (σ:=Nat) (fun k=>[(8,.int .i64 (k:Int))]) (fun _=>[]) (fun k=>k≤xs.length∧∀ j,j<k→p (xs.getD j default)=false) (fun k=>xs.length - k) 0 ⟨Nat.zero_le _,fun j hj=>absurd hj Uz⟩ ?_
 rintro k m rfl ⟨hk,hno⟩
 refine run ?_
 refine ah _ rfl (fun hc=>?_) (fun hc=>?_)
 ·have hlt:k<xs.length:=by simpa using hc
  obtain ⟨b,o,rfl⟩:=hne UK
  have hr:=h.row hlt
  refine run ?_
  refine pO (fun wc hG=>hF (xs.getD k default) (getD_mem hlt) wc ⟨_,hG⟩) (bY:=bY) ?_
  refine run ?_
  refine ah _ rfl (fun hp=>?_) (fun hp=>?_)
  ·refine run ?_
   refine fin1 ?_
   rw [gq hlt hp hno]
  ·refine run ?_
   refine dG (k + 1) ⟨hlt,fun j hj=>?_⟩
   rcases Nat.lt_succ_iff_lt_or_eq.1 hj with hj | rfl
   ·exact hno j hj
   ·exact hp
 ·have hge:k=xs.length:=by simp at hc;omega
  subst hge
  refine run ?_
  refine fin1 ?_
  rw [dS hno]
theorem nG {w:World} {F:Nat} {us:List Value} (p:Int→Bool) (xs:List (Int)) (v:Value) (h:aF w v 1 (xs.map dH)) (hF:∀ x,x∈xs→∀ w',EE w w'→Fn Tryz.prog F ([]++[Value.int .i64 x]++us).toArray w' [] (fun u _=>u=.bool (p x))) (bY:mem jT F=true:=by rfl):
  Fn Tryz.prog 97 [v,.func (.func F) [].toArray us.toArray].toArray w [] (fun u _=>u=.bool (xs.any p)):=by
 refine enter Tryz.func97 ?_
 refine run ?_
 refine ax (fun wc hG=>zJ p xs v (h.good hG) (fun x hx w' ha=>hF x hx w' ?_) bY) ?_
 ·obtain ⟨hp,hg⟩:=ha
  exact ⟨_,hG.trans hg⟩
 refine run ?_
 refine fin1 ?_
 rw [← tC]
theorem vT {w:World} {F:Nat} {us:List Value} (p:eH→Bool) (xs:List (eH)) (v:Value) (h:aF w v 4 (xs.map iw)) (hF:∀ x,x∈xs→∀ w',EE w w'→Fn Tryz.prog F ([]++[Value.agg (iw x).toArray]++us).toArray w' [] (fun u _=>u=.bool (p x))) (bY:mem jT F=true:=by rfl):
  Fn Tryz.prog 112 [v,.func (.func F) [].toArray us.toArray].toArray w [] (fun u _=>u=.bool (xs.any p)):=by
 refine enter Tryz.func112 ?_
 refine run ?_
 refine ax (fun wc hG=>BC p xs v (h.good hG) (fun x hx w' ha=>hF x hx w' ?_) bY) ?_
 ·obtain ⟨hp,hg⟩:=ha
  exact ⟨_,hG.trans hg⟩
 refine run ?_
 refine fin1 ?_
 rw [← tC]
theorem nH {w:World} (v:Value) (xs:List (List Value)) (h:aF w v 14 xs) (hall:∀ c∈xs,c.length=14∧c.all (·.oneCell')=true) (hl:xs.length<1000000):Fn Tryz.prog 65 [v].toArray w [] (fun u hn=>Own 81 14 u hn xs):=by
 obtain ⟨⟨q,cap,rfl,hne⟩,_⟩:=h
 refine enter Tryz.func65 ?_
 refine run ?_
 refine lU UB (A8 aj rfl rfl) ?_
 refine run ?_
 refine ah _ rfl (fun hp=>?_) (fun hp=>?_)
 ·obtain rfl:xs=[]:=by
   rcases Classical.em (xs=[]) with h | h
   ·exact h
   ·obtain ⟨b,o,rfl,_⟩:=hne h;cases hp
  refine run ?_
  refine fin1 ?_
  exact ⟨by simp,.inl ⟨rfl,rfl,rfl⟩⟩
 refine run ?_
 refine qX aj UB UB (fun g=>?_)
 refine run ?_
 rcases Classical.em (xs=[]) with rfl | hx
 ·cases q with
  | none=>cases hp
  | some q=>
  refine lU UB (qW aj (iP:=0) rfl rfl rfl (Nat.le_refl _)) ?_
  refine run ?_
  refine fin1 ?_
  exact ⟨by simp,.inr ⟨g,0,#[],rfl,rfl,⟨rfl,Nat.le_refl _,by decide,rfl,rfl⟩⟩⟩
 ·obtain ⟨b,o,rfl,hr⟩:=hne hx
  refine mQ aj UB rfl ⟨rfl,Nat.le_refl _,by decide,rfl,rfl⟩ rfl rfl rfl rfl rfl rfl (.refl _) rfl hall hr UC hl (fun v' ha' hA=>?_)
  refine run ?_
  refine fin1 ?_
  rw [List.append_nil]
  exact hA
theorem oh {w:World} (v:Value) (xs:List (List Value)) (h:aF w v 4 xs) (hall:∀ c∈xs,c.length=4∧c.all (·.oneCell')=true) (hl:xs.length<1000000):Fn Tryz.prog 66 [v].toArray w [] (fun u hn=>Own 109 4 u hn xs):=by
 obtain ⟨⟨q,cap,rfl,hne⟩,_⟩:=h
 refine enter Tryz.func66 ?_
 refine run ?_
 refine lU UB (A8 aj rfl rfl) ?_
 refine run ?_
 refine ah _ rfl (fun hp=>?_) (fun hp=>?_)
 ·obtain rfl:xs=[]:=by
   rcases Classical.em (xs=[]) with h | h
   ·exact h
   ·obtain ⟨b,o,rfl,_⟩:=hne h;cases hp
  refine run ?_
  refine fin1 ?_
  exact ⟨by simp,.inl ⟨rfl,rfl,rfl⟩⟩
 refine run ?_
 refine qX aj UB UB (fun g=>?_)
 refine run ?_
 rcases Classical.em (xs=[]) with rfl | hx
 ·cases q with
  | none=>cases hp
  | some q=>
  refine lU UB (qW aj (iP:=0) rfl rfl rfl (Nat.le_refl _)) ?_
  refine run ?_
  refine fin1 ?_
  exact ⟨by simp,.inr ⟨g,0,#[],rfl,rfl,⟨rfl,Nat.le_refl _,by decide,rfl,rfl⟩⟩⟩
 ·obtain ⟨b,o,rfl,hr⟩:=hne hx
  refine mQ aj UB rfl ⟨rfl,Nat.le_refl _,by decide,rfl,rfl⟩ rfl rfl rfl rfl rfl rfl (.refl _) rfl hall hr UC hl (fun v' ha' hA=>?_)
  refine run ?_
  refine fin1 ?_
  rw [List.append_nil]
  exact hA
theorem EF {w:World} (a:aX) (xs:List aX) (v:Value) (h:aF w v 14 (xs.map cu)):
  Fn Tryz.prog 168 [v,.agg (cu a).toArray].toArray w [] (fun u _=>u=.int .i64 (dh (fun t=>decide (t=a)) xs)):=by
 obtain ⟨q,cap,rfl,hne,hle⟩:=h.opened
 refine enter Tryz.func168 ?_
 refine run ?_
 intro B
 refine run ?_
 refine eF (σ:=Nat) (fun k=>[(8,.int .i64 (k:Int))]) (fun _=>[⟨B,(cu a).toArray,81⟩]) (fun k=>k≤xs.length∧∀ j,j<k→decide (xs.getD j default=a)=false) (fun k=>xs.length - k) 0 ⟨Nat.zero_le _,fun j hj=>absurd hj Uz⟩ ?_
 rintro k m rfl ⟨hk,hno⟩
 refine run ?_
 refine ah _ rfl (fun hc=>?_) (fun hc=>?_)
 ·have hlt:k<xs.length:=by simpa using hc
  obtain ⟨b,o,rfl⟩:=hne UK
  have hr:=h.row hlt
  refine run ?_
  refine lJ ?_
  refine gp ?_
  refine run ?_
  have hq:∀ x:aX,aQ (cu a) (cu x)=decide (x=a):=fun x=>by rw [Oh,Bool.eq_iff_iff,decide_eq_true_eq,decide_eq_true_eq];exact eq_comm
  try rw [hq]
  try rw [Oh]
  refine ah _ rfl (fun hp=>?_) (fun hp=>?_)
  ·refine run ?_
   refine fin1 ?_
   rw [gq hlt hp hno]
  ·refine run ?_
   refine dG (k + 1) ⟨hlt,fun j hj=>?_⟩
   rcases Nat.lt_succ_iff_lt_or_eq.1 hj with hj | rfl
   ·exact hno j hj
   ·exact hp
 ·have hge:k=xs.length:=by simp at hc;omega
  subst hge
  refine run ?_
  refine fin1 ?_
  rw [dS hno]
theorem qp {w:World} (a:aX) (xs:List aX) (v:Value) (h:aF w v 14 (xs.map cu)):
  Fn Tryz.prog 111 [v,.agg (cu a).toArray].toArray w [] (fun u _=>u=.bool (xs.any fun t=>decide (t=a))):=by
 refine enter Tryz.func111 ?_
 refine run ?_
 intro B
 refine run ?_
 refine ax (fun wc hG=>EF a xs v (h.good hG)) ?_
 refine run ?_
 refine fin1 ?_
 rw [← tC]
end
end Go.Proofs.YtiggoglimlnmmaaGreat
