/- Texts of one's own, merged: the engine, what the functions do, plain laws. -/
import Derived.Test.YtellmabgmnbhcaaGreatPr3
namespace Go.Proofs.YtellmabgmnbhcaaGreat
open Go.RowKit
set_option linter.unusedVariables false
set_option linter.unusedSimpArgs false
set_option maxRecDepth 20000
variable {w:World}{v wv cv:Value}{b n i k page X level:Nat}{H:HyD}{mv:Nat→Value}{f:Int}
section
section
variable {P : Program} {n : Nat} {w0 : World} {mu : List Nat} {l : Fm} {hp : Hp} {dd : Option Tmp} {ty : TypeId} {pos : String} {af : Array Edge} {gg : Option (Nat × Bool)} {t u : TypeId} {x y : Operand}
theorem GY{p q:Int}(hx:ev l x=some (.int .i64 p))(hy:ev l y=some (.int .i64 q)):Hy P n w0 mu l hp ⟨dd,.binOp .andNot t x y u,ty,pos,af,gg⟩ (.int .i64 (bits .andNot .i64 p q)):=
 bQ fun ac w hk _=>by
  simp only[execOp,hk.ev hx,hk.ev hy];simp[eqGuard_andNot,binOp_andNot,intBits_andNot]
end
theorem LH:∀ l:Nat,l<3→∀ p:Nat,p<4096→bits .andNot .i64 (p:Int) ((au l:Nat)-1:Int)=((xJ l p:Nat):Int):=by decide +kernel
end
section
attribute [local irreducible] Hy St Ops DH dI
theorem TP(m x:Int)(B:Nat)(w:World)(hB:w.cell? ⟨B,0,none⟩=some (.int .i64 m)):Fn Tryz.prog 337 ([]++[Value.int .i64 x]++[Value.pointer (some ⟨B,0,none⟩)]).toArray w [] (fun u _=>u=.bool (!PtD.cZ x 0 m)):=by
 refine enter Tryz.func337 ?_;refine aC ?_;refine fin1 ?_;unfold PtD.cZ;rw[bV5]
 congr 1
 rw[←decide_not,←decide_not]
 congr 1<;>(rw[bH4,decide_eq_true_eq,decide_eq_true_eq];omega)
theorem wI(m:Int)(xs:List Int)(h:aA w v 1 (xs.map bY)):Fn Tryz.prog 295 [.int .i64 m,v].toArray w [] (fun u _=>u=.bool (xs.all fun x=>PtD.cZ x 0 m)):=by
 refine enter Tryz.func295 ?_;refine run ?_;intro B;refine run ?_;refine az (fun wc hG=>qy (us:=[.pointer (some ⟨B,0,none⟩)]) (fun x=>!PtD.cZ x 0 m) xs _ (h.good hG) (fun x _ w' ha=>TP m x B w' ?_)) ?_
 ·obtain⟨hp,hg⟩:=ha;exact hg.cell bF3 bA6
 refine run ?_;refine fin1 ?_;rw[←bP3,bQ1]
theorem ad5(level:Nat)(h0:1≤level)(h:level<4)(page:Nat)(hp:page≤4095)(w:World):Fn Tryz.prog 296 [.int .i64 (page:Int),.int .i64 (level:Int)].toArray w [] (fun u _=>u=.int .i64 (xJ (level-1) page:Int)):=by
 refine enter Tryz.func296 ?_;refine run ?_;have h9:=fK (show level-1<4 by omega);have hc:=LH (level-1) bA4 page bA4;have e3:∀ l:Nat,l<4→1≤l→(1 <<< (3*(4-l)):Nat)=au (l-1):=by decide
 refine jL bA9 (D8 rfl rfl 1 (3*(4-level)) bA9 bA4 bA4 (by rw[e3 level h h0];exact bN3 h9.2.1 bA5)) ?_;rw[e3 level h h0];refine run ?_;refine jL bA9 (GY rfl rfl) ?_;rw[hc];refine run ?_;exact fin1 rfl
theorem ad6(e:fG)(w:World):Fn Tryz.prog 215 [.agg (iC e).toArray].toArray w [] (fun u _=>u=.bool e.may):=by
 have e1:jf false false=true:=rfl;refine enter Tryz.func215 ?_;refine run ?_;intro B Z;refine az (fun wc hG=>wI 15 [e.aO,e.qU] (iJ (xs:=[bY e.aO,bY e.qU]) (hG.here ⟨Z,#[.int .i64 e.aO,.int .i64 e.qU],3⟩ mh) (by simp[bY]) bA6)) ?_;refine aC ?_
 cases hq:([e.aO,e.qU].all fun x=>PtD.cZ x 0 15) with
 | false=>
  simp only[bV7,bW4,bM1] at hq;refine Vd (v:=.slice none 0 0) (hy:=fun hg=>by cases hg) (h:=?_);refine aC ?_;refine ah _ rfl (fun hc=>?_) (fun hc=>by cases hc);refine run ?_;refine fin1 ?_;unfold fG.may fG.nums
  rw[hq];simp
 | true=>
  simp only[bV7,bW4,bM1] at hq;simp only[bJ3,e1,bI];refine Xi ?_ rfl;refine aC ?_;intro Z2;refine bG (fun hg wc hG=>wI 4095 [e.page,e.frame,e.mid] (iJ (xs:=[bY e.page,bY e.frame,bY e.mid]) (hG.here ⟨Z2,#[.int .i64 e.page,.int .i64 e.frame,.int .i64 e.mid],3⟩ mh) (by simp[bY]) bA6)) ?_;refine aC ?_
  have hnn:(false||!([e.page,e.frame,e.mid].all fun x=>PtD.cZ x 0 4095)||!decide (e.soft=0))=!e.nums:=by
   unfold fG.nums;rw[hq];simp[bO5,Bool.or_assoc]
  rw[hnn];refine ah _ rfl (fun hn=>?_) (fun hn=>?_)
  ·refine run ?_;refine fin1 ?_;have hn':e.nums=false:=by simpa using hn
   simp[fG.may,hn']
  have hn':e.nums=true:=by simpa using hn
  clear hnn;have hb:=hn';simp only[fG.nums,bG8,decide_eq_true_eq] at hb;have hpz:=nJ hb.1.1.1.2;refine run ?_;refine ah _ rfl (fun hk=>?_) (fun hk=>?_)
  ·refine run ?_;refine fin1 ?_;simp[fG.may,hn',hk]
  refine run ?_;refine ah _ rfl (fun hk2=>?_) (fun hk2=>?_)
  ·refine aC ?_;refine fin1 ?_;simp[fG.may,hn',hk,hk2]
  refine run ?_;refine ah _ rfl (fun hk3=>?_) (fun hk3=>?_)
  ·refine aC ?_;refine eP 36 ?_;refine aZ ?_
   refine eG (b:=decide (1≤e.level)&&decide (e.level<4)) (want:=true) (v:=.int .i64 (xJ (e.level.toNat-1) e.page.toNat:Int)) (fun hg wc hG=>by
    simp[jf] at hg;have h5:=ad5 e.level.toNat bA4 bA4 e.page.toNat hpz.2 wc;rw[hpz.1,show ((e.level.toNat:Nat):Int)=e.level by omega] at h5
    exact h5) ?_
   refine aZ ?_;refine run ?_;refine fin1 ?_
   have hz:decide (e.page=((xJ (e.level.toNat-1) e.page.toNat:Nat):Int))=decide (xJ (e.level.toNat-1) e.page.toNat=e.page.toNat):=by
    rw[bH4,decide_eq_true_eq,decide_eq_true_eq];have:=hpz.1;omega
   have hl4:decide (e.level<4)=decide (e.level≤3):=by rw[bH4,decide_eq_true_eq,decide_eq_true_eq];omega
   rw[hz,hl4];simp only[fG.may,hn',hk3,show decide (e.kind=1)=false by simpa using hk,show decide (e.kind=2)=false by simpa using hk2,cond_false,cond_true,bH6,PtD.cZ,fG.bare,aW,iH];cases e.r<;>cases e.w<;>cases e.x<;>cases e.af<;>cases e.ng<;>simp
  ·refine run ?_;refine fin1 ?_;simp[fG.may,hn',hk,hk2,hk3]
theorem aK'(i:jC)(w:World):Fn Tryz.prog 219 [.agg (lg i).toArray].toArray w [] (fun u _=>u=.bool i.may):=by
 have e1:jf true true=true:=rfl;refine enter Tryz.func219 ?_;refine run ?_;intro B;refine aC ?_
 cases hq:(decide (1≤i.kind)&&decide (i.kind≤6)) with
 | false=>
  refine Vd (v:=.slice none 0 0) (hy:=fun hg=>by cases hg) (h:=?_);refine aC ?_;refine fin1 ?_
  simp only[jC.may,PtD.cZ,hq,bQ7]
 | true=>
  simp only[e1,bI];refine Xi ?_ rfl;refine aC ?_;intro Z;refine bG (fun hg wc hG=>wI 15 [i.aO,i.qU] (iJ (xs:=[bY i.aO,bY i.qU]) (hG.here ⟨Z,#[.int .i64 i.aO,.int .i64 i.qU],3⟩ mh) (by simp[bY]) bA6)) ?_;refine aC ?_;simp only[bH6];refine aC ?_
  cases hq2:([i.aO,i.qU].all fun x=>PtD.cZ x 0 15) with
  | false=>
   refine Vd (v:=.slice none 0 0) (hy:=fun hg=>by cases hg) (h:=?_);refine aC ?_;refine fin1 ?_;simp only[bV7,bW4,bM1] at hq2;unfold jC.may;rw[bO5 (PtD.cZ i.kind 1 6),hq2]
   simp
  | true=>
   simp only[e1,bI];refine Xi ?_ rfl;refine aC ?_;intro Z2;refine bG (fun hg wc hG=>wI 4095 [i.page] (iJ (xs:=[bY i.page]) (hG.here ⟨Z2,#[.int .i64 i.page],3⟩ mh) (by simp[bY]) bA6)) ?_;refine aC ?_;refine fin1 ?_;simp only[bV7,bW4,bM1] at hq2;unfold jC.may;rw[bO5 (PtD.cZ i.kind 1 6),show PtD.cZ i.kind 1 6=true from hq,hq2];simp
theorem XI(i:jC)(w:World):Fn Tryz.prog 218 ([]++[Value.agg (lg i).toArray]++[]).toArray w [] (fun u _=>u=.bool (!i.may)):=by
 refine enter Tryz.func218 ?_;refine run ?_;intro B;refine az (fun wc hG=>aK' i wc) ?_;refine run ?_;exact fin1 rfl
theorem zk(es:List fG)(ds:List jC)(v u:Value)(h:aA w v 14 (es.map iC))(hd:aA w u 4 (ds.map lg))(hcap:∃ q c,v=.slice q es.length c∧es.length≤c):
  Fn Tryz.prog 136 [.agg #[v,u]].toArray w [] (fun r _=>r=.int .i64 (bif dQ es ds then 0 else 1)):=by
 obtain⟨q,cap,rfl,hne,hle⟩:=h.opened;obtain⟨q2,cap2,rfl,hne2,hle2⟩:=hd.opened
 replace hcap:es.length≤cap:=by
  obtain⟨_,_,e,hc⟩:=hcap;injection e with _ _ e
  rw[e];exact hc
 refine enter Tryz.func136 ?_;refine run ?_;intro B;refine aC ?_;refine ah _ rfl (fun hc=>?_) (fun hc=>?_)
 ·refine run ?_;refine fin1 ?_
  have:dQ es ds=false:=by
   unfold dQ;simp only[bI9,decide_eq_true_eq] at hc
   have h2:(decide (es.length≤8)&&decide (ds.length≤8))=false:=by
    rcases hc with hc | hc
    ·rw[decide_eq_false (p:=es.length≤8) bA4,bQ7]
    ·rw[decide_eq_false (p:=ds.length≤8) bA4,bT']
   rw[bO5,h2,bT']
  rw[this];rfl
 have h8:es.length≤8∧ds.length≤8:=by
  simp at hc;omega
 refine run ?_;refine aK (σ:=Nat) (fun k=>[(18,.int .i64 (k:Int))]) (fun _=>[⟨B,#[.slice q es.length cap,.slice q2 ds.length cap2],72⟩]) (fun k=>k≤es.length∧∀ j,j<k→Az es j=true) (fun k=>es.length-k) 0 ⟨bH3 _,fun j hj=>absurd hj bA4⟩ ?_;rintro k m rfl ⟨hk,hno⟩;refine run ?_;refine ah _ rfl (fun hc=>?_) (fun hc=>?_)
 ·have hlt:k<es.length:=by simpa using hc
  obtain⟨b,o,rfl⟩:=hne bA8;have hr:=h.row hlt;refine run ?_;intro X;refine run ?_;refine di ?_;refine dF ?_;refine fB (fun wc hG=>ad6 (es.getD k default) wc) ?_;refine aZ ?_;refine SK (v:=.slice (some ⟨b,o,none⟩) k cap) (hy:=fun hg=>pW aB bB9 bB9 bA9 bA4 bA4 (m':=k) bA6 (.inr ⟨_,_,rfl⟩)) (h:=?_);refine aZ ?_;refine eG (fun hg wc hG=>Jh (es.getD k default) (es.take k) _ ((h.good hG).takeN bA4)) ?_;refine aZ ?_;refine run ?_
  have he:(!(es.getD k default).may||(es.take k).any fun t=>decide (t=es.getD k default))=!Az es k:=by
   unfold Az;rw[bV5,bQ1]
  rw[he];refine ah _ rfl (fun hp=>?_) (fun hp=>?_)
  ·refine run ?_;refine fin1 ?_;rw[QT hlt bE0];rfl
  ·refine run ?_;refine aF (k+1) ⟨hlt,fun j hj=>?_⟩;rcases bI1.1 hj with hj | rfl
   ·exact hno j hj
   ·simpa using hp
 ·have hge:k=es.length:=by simp at hc;omega
  subst hge;refine run ?_;refine az (fun wc hG=>qW (us:=[]) (fun x=>!x.may) ds _ (hd.good hG) (fun x _ w' ha=>XI x w')) ?_;refine run ?_;have he:(ds.any fun x=>!x.may)=!ds.all jC.may:=by rw[bP3]
  rw[he];refine ah _ rfl (fun hp=>?_) (fun hp=>?_)
  ·refine run ?_;refine fin1 ?_
   have:dQ es ds=false:=by
    unfold dQ;rw[show ds.all jC.may=false by simpa using hp];simp
   rw[this];rfl
  ·refine run ?_;refine fin1 ?_
   have:dQ es ds=true:=by
    unfold dQ;rw[Lh hno,show ds.all jC.may=true by simpa using hp,decide_eq_true h8.1,decide_eq_true h8.2];rfl
   rw[this];rfl
end
def fG.stage(e:fG):Bool:=decide (e.kind=1)||decide (e.kind=3)
def jC.at_(i:jC)(e:fG):Bool:=decide (e.page=bif decide (e.kind=3) then ((xJ (e.level.toNat-1) i.page.toNat:Nat):Int) else i.page)
def jC.takes(i:jC)(e:fG):Bool:=
 bif decide (i.kind=1) then true else bif !decide (i.aO=e.aO) then false
 else bif decide (i.kind=2) then true
 else bif decide (i.kind=3) then e.stage
 else bif decide (i.kind=4) then e.stage&&!e.all&&decide (e.qU=i.qU)
 else bif decide (i.kind=5) then e.stage&&i.at_ e&&(e.all||decide (e.qU=i.qU))
 else decide (e.kind=2)&&i.at_ e
theorem TQ(i:jC):dQ [] [i]=i.may:=by simp[dQ]
theorem tH{xs:List fG}:∀ c∈xs.map iC,c.length=14∧c.all (·.oneCell')=true:=by
 intro c hc;obtain⟨x,_,rfl⟩:=bH9.1 hc;exact⟨rfl,rfl⟩
theorem AP{xs:List jC}:∀ c∈xs.map lg,c.length=4∧c.all (·.oneCell')=true:=by
 intro c hc;obtain⟨x,_,rfl⟩:=bH9.1 hc;exact⟨rfl,rfl⟩
section
attribute [local irreducible] Hy St Ops DH dI jl iR gX DS iw
theorem ax6(i:jC)(w:World):Fn Tryz.prog 309 ([]++[Value.agg (lg i).toArray]++[]).toArray w [] (fun u _=>u=.bool (!i.may)):=by
 refine enter Tryz.func309 ?_;refine run ?_;intro B Z;refine run ?_;refine az (fun wc hG=>zk [] [i] (.slice none 0 0) (.slice (some ⟨Z,0,none⟩) 1 1) ((Own.nil 80 14).lie (fun b hb=>by cases hb) bA5) (iJ (xs:=[lg i]) (hG.here ⟨Z,(lg i).toArray,127⟩ mh) bA6 bA6) ⟨_,_,rfl,bI0 _⟩) ?_;refine run ?_;refine fin1 ?_;rw[TQ];cases i.may<;>rfl
theorem ax7(ds:List jC)(h:aA w v 4 (ds.map lg)):Fn Tryz.prog 253 [v].toArray w [] (fun u _=>u=.bool (ds.all jC.may)):=by
 refine enter Tryz.func253 ?_;refine run ?_;refine az (fun wc hG=>qW (us:=[]) (fun x=>!x.may) ds _ (h.good hG) (fun x _ w' ha=>ax6 x w')) ?_;refine run ?_;refine fin1 ?_;rw[←bP3,bQ1]
theorem Ji(e:fG)(w:World):Fn Tryz.prog 310 [.agg (iC e).toArray].toArray w [] (fun u _=>u=.bool e.stage):=by
 refine enter Tryz.func310 ?_;refine run ?_;intro B;refine aC ?_;refine fin1 ?_;rfl
theorem QZ(i:jC)(e:fG)(hi:i.may=true)(he:e.may=true)(w:World):Fn Tryz.prog 311 [.agg (lg i).toArray,.agg (iC e).toArray].toArray w [] (fun u _=>u=.bool (i.at_ e)):=by
 refine enter Tryz.func311 ?_;refine run ?_;intro B C;refine run ?_;refine ah _ rfl (fun hk=>?_) (fun hk=>?_)
 ·have hk3:e.kind=3:=by simpa using hk
  have hl:1≤e.level∧e.level≤3:=by
   simp[fG.may,hk3,PtD.cZ] at he;exact he.2.1.1.1
  have hp:0≤i.page∧i.page≤4095:=by
   simp only[jC.may,PtD.cZ,bG8,decide_eq_true_eq] at hi;exact hi.2
  obtain⟨lv,hlv⟩:∃ lv:Nat,e.level=(lv:Int):=⟨e.level.toNat,by omega⟩
  obtain⟨pg,qG⟩:∃ pg:Nat,i.page=(pg:Int):=⟨i.page.toNat,by omega⟩
  have h9:=fK (show lv-1<4 by omega);have hc:=LH (lv-1) bA4 pg bA4;have e3:∀ l:Nat,l<4→1≤l→(1 <<< (3*(4-l)):Nat)=au (l-1):=by decide
  refine run ?_;rw[hlv,qG];refine jL bA9 (D8 rfl rfl 1 (3*(4-lv)) bA9 bA4 bA4 (by rw[e3 lv bA4 bA4];exact bN3 h9.2.1 bA5)) ?_;rw[e3 lv bA4 bA4];refine run ?_;refine jL bA9 (GY rfl rfl) ?_;rw[hc];refine run ?_;refine fin1 ?_;simp[jC.at_,hk3,hlv,qG]
 ·refine run ?_;refine fin1 ?_;have hk3:decide (e.kind=3)=false:=by simpa using hk
  simp[jC.at_,hk3]
theorem ad7(i:jC)(e:fG)(hi:i.may=true)(he:e.may=true)(w:World):Fn Tryz.prog 257 [.agg (lg i).toArray,.agg (iC e).toArray].toArray w [] (fun u _=>u=.bool (i.takes e)):=by
 refine enter Tryz.func257 ?_;refine run ?_;intro B C;refine run ?_;refine ah _ rfl (fun h1=>?_) (fun h1=>?_)
 ·refine run ?_;refine fin1 ?_;simp[jC.takes,h1]
 refine run ?_;refine ah _ rfl (fun hv=>?_) (fun hv=>?_)
 ·refine run ?_;refine fin1 ?_;simp[jC.takes,h1,hv]
 have hv':decide (i.aO=e.aO)=true:=by simpa using hv
 have h1':decide (i.kind=1)=false:=by simpa using h1
 refine run ?_;refine ah _ rfl (fun h2=>?_) (fun h2=>?_)
 ·refine run ?_;refine fin1 ?_;simp[jC.takes,h1',hv',h2]
 have h2':decide (i.kind=2)=false:=by simpa using h2
 refine run ?_;refine ah _ rfl (fun h3=>?_) (fun h3=>?_)
 ·refine run ?_;refine az (fun wc hG=>Ji e wc) ?_;refine run ?_;refine fin1 ?_;simp[jC.takes,h1',hv',h2',h3]
 have h3':decide (i.kind=3)=false:=by simpa using h3
 refine run ?_;refine ah _ rfl (fun h4=>?_) (fun h4=>?_)
 ·refine run ?_;refine az (fun wc hG=>Ji e wc) ?_;refine aC ?_;refine fin1 ?_;simp[jC.takes,h1',hv',h2',h3',h4]
 have h4':decide (i.kind=4)=false:=by simpa using h4
 refine run ?_;refine ah _ rfl (fun h5=>?_) (fun h5=>?_)
 ·refine run ?_;refine az (fun wc hG=>Ji e wc) ?_;refine aC ?_;refine bG (fun _ wc hG=>QZ i e hi he wc) ?_;refine aC ?_;refine fin1 ?_;simp[jC.takes,h1',hv',h2',h3',h4',h5]
 have h5':decide (i.kind=5)=false:=by simpa using h5
 refine aC ?_;refine bG (fun _ wc hG=>QZ i e hi he wc) ?_;refine aC ?_;refine fin1 ?_;simp[jC.takes,h1',hv',h2',h3',h4',h5']
theorem GZ(es:List fG)(ds:List jC)(v u:Value)(h:aA w v 14 (es.map iC))(hd:aA w u 4 (ds.map lg))(hl:es.length<1000000)(hl2:ds.length<1000000):
  Fn Tryz.prog 73 [.agg #[v,u]].toArray w [] (fun r hn=>∃ v1 h1 v2 h2,r=.agg #[v1,v2]∧Own 80 14 v1 h1 (es.map iC)∧Own 127 4 v2 h2 (ds.map lg)∧aJ (h1++h2) hn):=by
 refine enter Tryz.func73 ?_;refine run ?_;intro B;refine run ?_;intro C;refine run ?_;refine Ec 8 7 [0,1,3,4] [2,5] [6,7] [⟨B,#[v,u],72⟩] ?_;refine kW ?_;refine kD (fun wc hG=>vC v (es.map iC) (h.good hG) tH (by simpa using hl)) (vC v (es.map iC) h tH (by simpa using hl)).some ?_;refine kD (fun wc hG=>wZ u (ds.map lg) (hd.good hG) AP (by simpa using hl2)) (wZ u (ds.map lg) hd AP (by simpa using hl2)).some ?_;refine kP ?_;intro v2 hn2 hO2 v1 hn1 Dh;simp only[DN,bH2,bH5,bI3];obtain⟨p1,c1,rfl⟩:=Dh.opened;obtain⟨p2,c2,rfl⟩:=hO2.opened;rw[bG9] at Dh hO2 ⊢;rw[bG9];refine Om ?_;refine WR (b:=C) (cs:=#[.slice none 0 0,.slice none 0 0]) (tb:=72) (hp':=hn2++hn1++[⟨B,#[v,u],72⟩]) (hperm:=(bR6 (l₁:=hn2++hn1)).symm) ?_;refine dh ?_;refine kR ?_;refine run ?_;refine dS (cs:=#[.slice p1 es.length c1,.slice p2 ds.length c2]) ?_;exact⟨_,hn1,_,hn2,rfl,Dh,hO2,by (exact aj)⟩
end
section
section
variable {P : Program} {T : Tab} {n : Nat} {w0 : World} {mu : List Nat} {l : Fm} {hp : Hp} {dd : Option Tmp} {ty : TypeId} {pos : String} {af : Array Edge} {gg : Option (Nat × Bool)} {Q : Exit → Fm → Hp → Prop} {all : Array Oper} {rest : List Oper}
theorem XJ(ok:bC P T){t e sz o m c:Nat}{cs:Array Value}{tb:TypeId}{x:Operand}{z:Value}{hp':Hp}(hx:ev l x=some (.slice (some ⟨b,o,none⟩) m c))(ht:lk T.sl t=some (e,sz))(hz:lk T.zs e=some z)(hzs:z.cells.size=sz)(hz1:z.cells.toList.all (·.oneCell')=true)(h0:0<sz)(hm:0<m)
  (hperm:(⟨b,cs,tb⟩::hp').Perm hp) (hfit:o+m*sz≤cs.size)
  (h:∀ zs:List Value,zs.length=m*sz→Ops P n w0 mu all rest l (⟨b,putAt cs o zs,tb⟩::hp') Q):Ops P n w0 mu all (⟨none,.call { callee:=.builtin .clear,args:=#[x],argTypes:=#[t] },ty,pos,af,none⟩::rest) l hp Q:=by
 intro ac w hk hG;obtain⟨hu,hsz⟩:=ok.zL ht;have hG':=hG.perm hperm;have hb:=hG'.here _ (bH' ..);obtain⟨zs,hrep⟩:∃ zs,zs=(Builtin.zeroCells z.cells m).toList:=⟨_,rfl⟩
 have hlen:zs.length=m*sz:=by rw[hrep,bT8,size_zeroCells,hzs,bP6]
 have hall:∀ u∈zs,u.oneCell'=true:=fun u hu=>by
  rw[hrep] at hu;simp only[Builtin.zeroCells,Array.mem_toList_iff,Array.mem_map,Array.mem_range] at hu;obtain⟨i,hi,rfl⟩:=hu;have hlt:i%z.cells.size<z.cells.size:=bU' _ bA4;have h2:=(bH1.1 hz1) (z.cells[i%z.cells.size]) bA6;simpa [hlt] using h2
 have hst:=run_storeCells_cells (P:=P) b o zs 0 w
  (fun j hj=>by rw[hlen] at hj;rw[cell_of_block hb];simp[show o+j<cs.size by omega])
  (fun j _=>fV hb) hall
 simp only[bK6] at hst;refine wpList_plain rfl fun K hK=>?_;unfold Oper.wp execOp
 have hr:(Builtin.clear_ #[t] ty #[.slice (some ⟨b,o,none⟩) m c]).run P w=.ok (.tuple #[]) (w.setCells b o zs):=by
  obtain⟨m',rfl⟩:∃ m',m=m'+1:=⟨m-1,by omega⟩
  simp[Builtin.clear_,run_underlying hu,pI (ok.NG hz) w,←hrep,hst]
 simp only[resolve,invoke,builtin,Sem.run_bind,Sem.run_pure,Result.andThen_ok,bO7,bL0,bO0,hk.ev hx,hr];exact hK _ _ (h zs hlen _ _ hk (Good.sets (w:=w) _ cs o w hG'))
end
theorem Row.ad8{g cap sz:Nat}{cur:Array Value}{xs:List (List Value)}(h:Row g cap cur sz n xs.flatten)(hall:∀ c∈xs,c.length=sz)(hi:i≤n)(hn:xs.length=n){zs:List Value}(hz:i*sz+zs.length≤cur.size):Row g cap (putAt cur (i*sz) zs) sz i (xs.take i).flatten:=by
 have hle:i*sz≤n*sz:=bK0 _ hi;refine⟨by rw[dU (xs.take i) (fun c hc=>hall c (bW7 hc)),bK1,bO9 bA4],bO' hi h.le,h.max,by rw[dP];exact h.size,?_⟩
 have hl:(cur.toList.take (i*sz)).length=i*sz:=by
  rw[bK1,bO9];simp;omega
 rw[nG _ _ _ hz,bJ',bU3 hl];have h1:=congrArg (List.take (i*sz)) h.take;rw[bW2,bO9 hle] at h1;rw[h1]
 conv=>lhs;rw[←bY2 i xs]
 rw[bT9,bU3];rw[dU (xs.take i) (fun c hc=>hall c (bW7 hc)),bK1,bO9 bA4]
attribute [local irreducible] Hy St Ops DH dI jl iR gX DS iw
theorem FM{cs:List Value}{t:TypeId}(h:w.heap[b]?=some (.cells cs.toArray t (0,0))):w.rangeAt b 0 cs:=by
 intro j u hu;rw[cell_of_block h];simpa using hu
theorem TR(i:jC)(e:fG)(hi:i.may=true)(he:e.may=true)(E:Nat)(w:World)(hE:w.rangeAt E 0 (iC e)):Fn Tryz.prog 256 ([]++[Value.agg (lg i).toArray]++[Value.pointer (some ⟨E,0,none⟩)]).toArray w [] (fun u _=>u=.bool (i.takes e)):=by
 refine enter Tryz.func256 ?_;refine run ?_;intro B;refine az (fun wc hG=>ad7 i e hi he wc) ?_;refine run ?_;exact fin1 rfl
theorem XK(ds:List jC)(hds:∀ i∈ds,i.may=true)(e:fG)(he:e.may=true)(L:Nat){lv:Value}(hL:w.cell? ⟨L,0,none⟩=some lv)(hl:aA w lv 4 (ds.map lg)):Fn Tryz.prog 255 ([]++[Value.agg (iC e).toArray]++[Value.pointer (some ⟨L,0,none⟩)]).toArray w [] (fun u _=>u=.bool (ds.any fun i=>i.takes e)):=by
 obtain⟨q,cap,rfl,_,_⟩:=hl.opened;refine enter Tryz.func255 ?_;refine run ?_;intro E;refine az (fun wc hG=>qW (us:=[.pointer (some ⟨E,0,none⟩)]) (fun i=>i.takes e) ds _ (hl.good hG) (fun x hx w' ha=>TR x e (hds x hx) he E w' ?_)) ?_
 ·obtain⟨hp,hg⟩:=ha;intro j u hu;refine hg.cell (FM (cs:=iC e) (hG.here _ mh) j u hu) bA6
 refine run ?_;exact fin1 rfl
def BG(p:fG→Bool)(es:List fG):List fG:=es.filter fun x=>!p x
theorem keep_next(p:fG→Bool)(es:List fG){j:Nat}(hj:j<es.length):BG p (es.take (j+1))=BG p (es.take j)++bif p (es.getD j default) then [] else [es.getD j default]:=by
 rw[dW hj];unfold BG;rw[bV8];cases h:p (es.getD j default)<;>simp only[bV4,List.filter_nil,h,bK3,bJ3,if_true,cond_true,cond_false,bN8,if_false]
theorem ad9{g cap:Nat}{cur:Array Value}{ys:List fG}(h:Row g cap cur 14 n (ys.map iC).flatten)(hi:i<ys.length)(e:fG):Row g cap (putAt cur (i*14) (iC e)) 14 n ((ys.set i e).map iC).flatten:=by
 have hput:=h.put (fun c hc=>(tH c hc).1) (i:=i) (k:=0) (c:=iC (ys.getD i default)) (vs:=iC e) (by rw[bJ1,bH0 hi,bG',bH0 hi];rfl) (bI0 14);rw[show (iC (ys.getD i default)).take 0++iC e++(iC (ys.getD i default)).drop (0+(iC e).length)=iC e from rfl,←bM',bK6] at hput;exact hput
theorem TS(p:fG→Bool)(es:List fG)(hk:k≤es.length)(h:∀ j,j<k→p (es.getD j default)=false):BG p (es.take k)=es.take k:=by
 refine bP1.2 fun x hx=>?_;obtain⟨j,hj,rfl⟩:=bP9.1 hx;have:=h j bA4;rw[bG',bH0 bA4,bO3] at this;simp[this]
structure DlS where
 i:Nat
 j:Nat
 cur:Array Value
 ys:List fG
theorem O6{w:World}{F:Nat}{us:List Value}(p:fG→Bool)(es:List fG){ha:Hp}(hA:Own 80 14 v ha (es.map iC))(hN:eU ha w)(hl:es.length<100000)(hF:∀ x,x∈es→∀ w',(∃ hp,Good w (ha.map (·.b)) hp w')→Fn Tryz.prog F ([]++[Value.agg (iC x).toArray]++us).toArray w' [] (fun u _=>u=.bool (p x)))(bK:mem iZ F=true:=by rfl):
  Fn Tryz.prog 254 [v,.func (.func F) [].toArray us.toArray].toArray w (ha.map (·.b)) (fun u hn=>Own 80 14 u hn ((BG p es).map iC)):=by
 have hA0:=hA;obtain⟨q,cap,ev⟩:=hA.opened;rw[bG9] at ev;subst ev;refine eH _ hN Tryz.func254 ?_;refine run ?_;refine az (fun wc hG=>EF p es _ (hA.lie (fun b hb=>hG.here b (by simpa using hb)) bA7) (fun x hx w' ha=>hF x hx w' ?_) bK) ?_
 ·obtain⟨hp,hg⟩:=ha;exact⟨_,hG.trans hg⟩
 refine run ?_;by_cases hex:∃ j,j<es.length∧p (es.getD j default)=true
 ·obtain⟨j1,hj1,hp1⟩:=hex;obtain⟨k0,hk0,hp0,aL0⟩:=Ap p es j1 hp1;have hlt0:k0<es.length:=by omega
  rw[fH hlt0 hp0 aL0];refine ah _ rfl (fun hc=>absurd hc bA6) (fun hc=>?_);obtain⟨g,cap',cur,ev,rfl,hrow⟩:=hA0.row (n:=es.length) bA6 bA4;cases ev;refine run ?_;refine aK (σ:=DlS) (fun s=>[(5,.int .i64 (s.i:Int)),(6,.int .i64 (s.j:Int))]) (fun s=>[⟨g,s.cur,80⟩]) (fun s=>s.i<s.j∧s.j≤es.length∧s.ys.length=es.length∧s.ys.take s.i=BG p (es.take s.j)∧(∀ t,s.j≤t→t<es.length→s.ys.getD t default=es.getD t default)∧Row g cap s.cur 14 es.length (s.ys.map iC).flatten) (fun s=>es.length-s.j) ⟨k0,k0+1,cur,es⟩ ⟨by dsimp only;omega,hlt0,rfl,?_,fun _ _ _=>rfl,hrow⟩ ?_
  ·dsimp only;rw[keep_next p es hlt0,hp0,TS p es bA4 aL0];simp
  rintro⟨i,j,cur,ys⟩ m hm ⟨hij,hj,hyl,hyt,hyd,hrow⟩;dsimp only at hm hij hj hyl hyt hyd hrow ⊢;have hO:Own 80 14 (.slice (some ⟨g,0,none⟩) es.length cap) [⟨g,cur,80⟩] (ys.map iC):=⟨tH,.inr ⟨g,cap,cur,by rw[bG9,hyl],rfl,by rw[bG9,hyl];exact hrow⟩⟩
  refine run ?_;refine ah _ rfl (fun hc=>?_) (fun hc=>?_)
  ·have hlt:j<es.length:=by simp at hc;omega
   have hyj:=hyd j (bI0 _) hlt
   have hcut:(cur.toList.drop (j*14)).take 14=iC (es.getD j default):=by
    rw[←hyj];exact hrow.cut (fun c hc=>(tH c hc).1) (by rw[bJ1,bH0 bA4,bG',bH0 bA4];rfl)
   refine run ?_;intro V;refine l9 (fun wc hG=>hF (es.getD j default) (getD_mem hlt) wc ⟨_,hG⟩) (bK:=bK) ?_;refine run ?_;refine ah _ rfl (fun hp=>?_) (fun hp=>?_)
   ·have hsz:=hrow.size;have hle:=hrow.le;refine run ?_;have hpf:p (es.getD j default)=false:=by simpa using hp
    have hput:=ad9 hrow (i:=i) bA4 (es.getD j default);generalize KA:putAt cur (i*14) (iC (es.getD j default))=cur' at hput;simp only[putAt] at KA;refine aF ⟨i+1,j+1,cur',ys.set i (es.getD j default)⟩ ⟨by dsimp only;omega,hlt,by dsimp only;rw[bL3];exact hyl,?_,fun t h1 h2=>?_,hput⟩ (hm:=by dsimp only;omega) (h2:=by dsimp only;rw[KA];(exact aj))
    ·dsimp only;rw[keep_next p es hlt,hpf,←hyt]
     have hset:(ys.set i (es.getD j default)).take (i+1)=ys.take i++[es.getD j default]:=by
      rw[bV0,if_pos bA4,bW6,bK1,bO9 bA4,bS3 bD1,show i+1-i=1 by omega];rfl
     rw[hset];rfl
    ·dsimp only at h1 h2 ⊢;rw[bG',bY9 bA4,←bG'];exact hyd t bA4 h2
   ·refine run ?_;have hpf:p (es.getD j default)=true:=by simpa using hp
    refine aF ⟨i,j+1,cur,ys⟩ ⟨by dsimp only;omega,hlt,hyl,?_,fun t h1 h2=>hyd t (by dsimp only at h1;omega) h2,hrow⟩ (hm:=by dsimp only;omega) (h2:=by (exact aj));dsimp only;rw[keep_next p es hlt,hpf,←hyt];simp
  ·have hge:j=es.length:=by simp at hc;omega
   subst hge;refine run ?_;have hle:=hrow.le;have hsz:=hrow.size;refine jL bA9 (mg aB rfl rfl bA9 bA4 bA4 bA4 (o':=i*14) (m':=es.length-i) (c':=cap-i) bA4 bA4 bA4) ?_;refine XJ aB (hp':=[]) rfl bA9 bA9 bA9 bA9 bA5 bA4 (.refl _) (by rw[hsz,Nat.sub_mul];omega) (fun zs hzs=>?_);refine run ?_;refine jL bA9 (pW aB rfl rfl bA9 bA4 bA4 (m':=i) bA6 (.inr ⟨_,_,rfl⟩)) ?_;refine run ?_;refine fin1 ?_;rw[bM6] at hyt;rw[←hyt];refine⟨tH,.inr ⟨g,cap,putAt cur (i*14) zs,by rw[bG9,bK1,bO9 bA4],rfl,?_⟩⟩;rw[bG9,bK1,bO9 bA4,List.map_take];exact hrow.ad8 (fun c hc=>(tH c hc).1) bA4 (by rw[bG9];exact hyl) (by rw[hzs,hsz,Nat.sub_mul];omega)
 ·have hno:∀ j,j<es.length→p (es.getD j default)=false:=fun j hj=>by
   cases hp:p (es.getD j default) with
   | false=>rfl
   | true=>exact absurd ⟨j,hj,hp⟩ hex
  rw[dV hno];refine ah _ rfl (fun hc=>?_) (fun hc=>absurd hc bA6);refine run ?_;refine fin1 ?_
  have:BG p es=es:=bP1.2 fun x hx=>by
   obtain⟨j,hj,rfl⟩:=bS0 hx;have:=hno j hj;rw[bG',bH0 hj,bO3] at this;simp[this]
  rw[this];exact hA0
end
def mM(es:List fG)(due:List jC):List fG:=BG (fun e=>due.any fun i=>i.takes e) es
def ApR(r:Option (List fG×List jC))(u:Value)(hn:Hp):Prop:=match r with
 | none=>u=.tuple #[.agg #[.slice none 0 0,.slice none 0 0],.int .i64 1]
 | some x=>∃ v1 h1 v2 h2,u=.tuple #[.agg #[v1,v2],.int .i64 0]∧Own 80 14 v1 h1 (x.1.map iC)∧Own 127 4 v2 h2 (x.2.map lg)∧aJ (h1++h2) hn
def tJ(es:List fG)(ds due:List jC):Option (List fG×List jC):=bif dQ es ds&&due.all jC.may then some (mM es due,ds) else none
theorem pF{es:List fG}{ds:List jC}(h:dQ es ds=true):(∀ e∈es,e.may=true)∧es.length≤8∧ds.length≤8:=by
 simp only[dQ,bG8,decide_eq_true_eq] at h;refine⟨fun e he=>?_,h.1.2,h.2⟩;obtain⟨j,hj,rfl⟩:=bS0 he;have:=bH1.1 h.1.1.1 j (bI2.2 hj);simp only[Az,bG8] at this;rw[bG',bH0 hj] at this;exact this.1
theorem aA.keep{w0 wc w':World}{hp hp2 h1:Hp}{sz:Nat}{xs:List (List Value)}(h:aA w0 v sz xs)(hG:Good w0 [] (h1++hp) wc)(hg:Good wc (h1.map (·.b)) hp2 w'):aA w' v sz xs:=by
 obtain⟨⟨p,c,rfl,hp⟩,hl⟩:=h;refine⟨⟨p,c,rfl,fun hne=>?_⟩,hl⟩;obtain⟨b,off,rfl,hr⟩:=hp hne;refine⟨b,off,rfl,fun i c hc=>?_⟩;intro j u hj;have h3:=hr i c hc j u hj;refine hg.cell (hG.cell h3 bA6) fun hm=>?_;obtain⟨e,he,hb⟩:=bH9.1 hm;have h4:b<w0.heap.size:=block_lt_of_cell h3;rcases hG.own e (bI4 _ he) with h5 | h5
 ·simp at h5
 ·rw[hb] at h5;omega
theorem O7{w0:World}{mu:List Nat}{h1 hp:Hp}{e:mP}(hG:Good w0 mu (h1++hp) w)(he:e∈hp):e.b∉h1.map (·.b):=by
 have hn:=hG.nodup;rw[bI6,bL5] at hn;exact fun hm=>hn.2.2 _ hm _ (bH9.2 ⟨e,he,rfl⟩) rfl
section
attribute [local irreducible] Hy St Ops DH dI jl iR gX DS iw
theorem XL(es:List fG)(ds due:List jC)(v u lv:Value)(h:aA w v 14 (es.map iC))(hd:aA w u 4 (ds.map lg))(hcap:∃ q c,v=.slice q es.length c∧es.length≤c)(hl:aA w lv 4 (due.map lg)):
  Fn Tryz.prog 169 [.agg #[v,u],lv].toArray w [] (fun r hn=>ApR (tJ es ds due) r hn):=by
 have h':=h;have hd':=hd;have hl':=hl;obtain⟨q,cap,rfl,_,_⟩:=h.opened;obtain⟨q2,cap2,rfl,_,_⟩:=hd.opened;obtain⟨q3,cap3,rfl,jI,_⟩:=hl.opened;refine enter Tryz.func169 ?_;refine run ?_;intro B C R;refine az (fun wc hG=>zk es ds _ _ (h'.good hG) (hd'.good hG) hcap) ?_
 cases ht:dQ es ds with
 | false=>
  refine aN ?_;have hg:tJ es ds due=none:=by simp[tJ,ht]
  rw[hg];refine gB (cs:=#[.slice none 0 0,.slice none 0 0]) ?_
  rfl
 | true=>
 obtain⟨hmay,h8,h8d⟩:=pF ht;refine aN ?_;refine bG (fun _ wc hG=>ax7 due (hl'.good hG)) ?_;refine aN ?_
 cases hm:due.all jC.may with
 | false=>
  refine aN ?_;have hg:tJ es ds due=none:=by simp[tJ,ht,hm]
  rw[hg];refine gB (cs:=#[.slice none 0 0,.slice none 0 0]) ?_
  rfl
 | true=>
 have hg:tJ es ds due=some (mM es due,ds):=by simp only[tJ,ht,hm];rfl
 rw[hg];refine aN ?_;refine bH (fun wc hG=>GZ es ds _ _ (h'.good hG) (hd'.good hG) bA4 bA4) ?_;rintro _ hn ⟨v1,h1,v2,h2,rfl,Dh,hO2,hle⟩;obtain⟨p1,c1,e1⟩:=Dh.opened;obtain⟨p2,c2,e2⟩:=hO2.opened;rw[bG9] at e1 e2;subst e1 e2;refine ig hle ?_;refine dm (_++(h1++h2)) bI7 ?_;simp only[bH2,bH5];refine aN ?_;intro X;refine aN ?_;have aW5:∀ i∈due,i.may=true:=fun i hi=>bH1.1 hm i hi;refine ja (R:=fun u hn=>Own 80 14 u hn ((mM es due).map iC)) h1 (⟨X,#[.slice p1 es.length c1,.slice p2 ds.length c2],72⟩::⟨R,#[.slice none 0 0,.slice none 0 0],72⟩::⟨C,#[.slice q3 due.length cap3],70⟩::⟨B,#[.slice q es.length cap,.slice q2 ds.length cap2],72⟩::h2) (fun wc hG=>?_) (fun v4 h4 hO4=>?_) aT
 ·refine O6 (us:=[.pointer (some ⟨C,0,none⟩)]) (fun e=>due.any fun i=>i.takes e) es Dh hG.iT bA4 (fun x hx w' ha=>?_);obtain⟨hp,hg⟩:=ha;have hC:(⟨C,#[.slice q3 due.length cap3],70⟩:mP)∈(⟨X,#[.slice p1 es.length c1,.slice p2 ds.length c2],72⟩::⟨R,#[.slice none 0 0,.slice none 0 0],72⟩::⟨C,#[.slice q3 due.length cap3],70⟩::⟨B,#[.slice q es.length cap,.slice q2 ds.length cap2],72⟩::h2:Hp):=by simp
  exact XK due aW5 x (hmay x hx) C (hg.cell (by rw[cell_of_block (hG.here _ (bH7 _ hC))];rfl) (O7 hG hC)) (hl'.keep hG hg)
 generalize mM es due=al at hO4;obtain⟨p4,c4,e4⟩:=hO4.opened;rw[bG9] at e4;subst e4;refine dm (_++h4) bI7 ?_;simp only[bH2,bH5];refine aN ?_;refine yt aB (b:=R) (off:=0) (cs:=#[.slice none 0 0,.slice none 0 0]) (cs':=#[.slice p4 al.length c4,.slice p2 ds.length c2]) (tb:=72) (vs:=[.slice p4 al.length c4,.slice p2 ds.length c2]) (sz:=2) rfl rfl rfl rfl rfl (List.Perm.swap ..) rfl (bI0 2) rfl ?_;refine aN ?_;refine gB (cs:=#[.slice p4 al.length c4,.slice p2 ds.length c2]) ?_;exact⟨_,h4,_,h2,rfl,hO4,hO2,by (exact aj)⟩
end
def tK(aO mid:Int):List jC:=[⟨6,aO,0,mid⟩,⟨3,aO,0,0⟩]
structure FgS where
 k:Nat
 v:Value
 ha:Hp
 hs:Hp
 ts:List uu
section
attribute [local irreducible] Hy St Ops DH dI jl iR gX DS iw lV
abbrev uu.p(t:uu):List fG×List jC:=(t.es,t.ds)
theorem Own.oO{α:Type}[Inhabited α]{f:α→List Value}{e sz:Nat}{h:Hp}{xs:List α}(hA:Own e sz v h (xs.map f))(hk:k<xs.length):∃ g cap cur,v=.slice (some ⟨g,0,none⟩) xs.length cap∧h=[⟨g,cur,e⟩]∧k*sz+sz≤cur.size ∧
  (∀ (j:Nat) (c:Value),(f (xs.getD k default))[j]?=some c→nth cur.toList (k*sz+j)=some c) ∧
  ∀ (j:Nat) (vs:List Value) (y:α),j+vs.length≤sz→(f (xs.getD k default)).take j++vs++(f (xs.getD k default)).drop (j+vs.length)=f y→(f y).length=sz∧(f y).all (·.oneCell')=true→Own e sz (.slice (some ⟨g,0,none⟩) xs.length cap) [⟨g,putAt cur (k*sz+j) vs,e⟩] ((xs.set k y).map f):=by
 obtain⟨g,cap,cur,rfl,rfl,hr⟩:=hA.row (n:=xs.length) bA6 bA4;have hall:∀ c∈xs.map f,c.length=sz:=fun c hc=>(hA.1 c hc).1
 have hi:(xs.map f)[k]?=some (f (xs.getD k default)):=by
  rw[bJ1,bG',bH0 hk];rfl
 have hsz:=hr.size;have hle:=hr.le;refine⟨g,cap,cur,rfl,rfl,?_,fun j c hj=>hr.nth hall hi hj,fun j vs y hj he hy=>⟨fun c hc=>?_,.inr ⟨g,cap,_,by simp,rfl,?_⟩⟩⟩
 ·have h1:k*sz+sz≤xs.length*sz:=by rw[←bM8];exact bK0 _ hk
  have h2:xs.length*sz≤cap*sz:=bK0 _ hle;omega
 ·obtain⟨x,hx,rfl⟩:=bH9.1 hc;rcases bR3 hx with hx | rfl
  ·exact hA.1 _ (bH9.2 ⟨x,hx,rfl⟩)
  ·exact hy
 ·have h2:=hr.put hall hi (k:=j) (vs:=vs) hj;rw[he] at h2;have e2:((xs.set k y).map f).length=xs.length:=by simp
  rw[e2,bM'];exact h2
theorem Jj{a b c:Hp}(h1:aJ a b)(h2:aJ b c):aJ a c:=dH fun x=>bO' (h1.cnt x) (h2.cnt x)
theorem tN{a b:Hp}(h:aJ a b){wc:World}(hh:Here b wc):Here a wc:=fun e he=>hh e (h.mem he)
theorem Di{α:Type}{a b:α}:∀ {l:List α} {k:Nat},nth l (k+0)=some a→nth l (k+1)=some b→List.take 2 (List.drop k l)=[a,b]
 | [],k,h,_=>by cases k<;>cases h
 | x::l,k+1,h0,h1=>by
  rw[bK4]
  exact Di (l:=l) (k:=k) (by rwa [Nat.succ_add] at h0) (by rwa [Nat.succ_add] at h1)
 | [x],0,h0,h1=>by cases h1
 | x::y::l,0,h0,h1=>by cases h0;cases h1;rfl
end
section
attribute [local irreducible] Hy St Ops DH dI jl iR gX DS iw lV
def fU{α:Type}(O:α→Hp→Prop):List α→Hp→Prop
 | [],_=>True
 | t::ts,h=>∃ a b,O t a∧fU O ts b∧aJ (a++b) h
section
variable {α : Type} {O : α → Hp → Prop}
theorem fU.out[Inhabited α]:∀ {ts:List α} {h:Hp} {k:Nat},fU O ts h→k<ts.length→∃ a b,O (ts.getD k default) a∧aJ (a++b) h∧∀ y a',O y a'→fU O (ts.set k y) (a'++b)
 | t::ts,h,0,⟨a,b,h1,h2,h3⟩,_=>⟨a,b,h1,h3,fun y a' hy=>⟨a',b,hy,h2,aJ.refl _⟩⟩
 | t::ts,h,k+1,⟨a,b,h1,h2,h3⟩,hk=>by
  obtain⟨a1,b1,g1,g2,g3⟩:=fU.out h2 (Nat.lt_of_succ_lt_succ hk);exact⟨a1,a++b1,g1,dH fun x=>by have:=h3.cnt x;have:=g2.cnt x;simp only[fJ] at *;omega,fun y a' hy=>⟨a,a'++b1,h1,g3 y a' hy,dH fun x=>by simp only[fJ];omega⟩⟩
theorem fU.snoc{y:α}{a:Hp}(hy:O y a):∀ {ts:List α} {h:Hp},fU O ts h→fU O (ts++[y]) (a++h)
 | [],h,_=>⟨a,h,hy,trivial,aJ.refl _⟩
 | t::ts,h,⟨c,d,h1,h2,h3⟩=>⟨c,a++d,h1,fU.snoc hy h2,dH fun x=>by have:=h3.cnt x;simp only[fJ] at this ⊢;omega⟩
theorem fU.each{Q:α→Prop}{wc:World}(hq:∀ t a,O t a→Here a wc→Q t):∀ {ts:List α} {h:Hp},fU O ts h→Here h wc→∀ t∈ts,Q t
 | [],_,_,_=>fun t ht=>absurd ht bA6
 | t::ts,h,⟨a,b,h1,h2,h3⟩,hw=>fun x hx=>by
  rcases bI5.1 hx with rfl | hx
  ·exact hq _ _ h1 fun e m=>tN h3 hw e (by simp[m])
  ·exact fU.each hq h2 (fun e m=>tN h3 hw e (by simp[m])) x hx
end
def wQ(t:uu)(h:Hp):Prop:=∃ h1 h2,Own 80 14 t.ev h1 (t.es.map iC)∧Own 127 4 t.dv h2 (t.ds.map lg)∧(t.es.length<100000∧t.ds.length<100000)∧aJ (h1++h2) h
theorem wQ.lie{t:uu}{h:Hp}(hb:wQ t h)(hw:Here h w):aA w t.ev 14 (t.es.map iC)∧aA w t.dv 4 (t.ds.map lg):=by
 obtain⟨h1,h2,o1,o2,l,hle⟩:=hb;exact⟨o1.lie (fun e he=>tN hle hw e bC2) bA7,o2.lie (fun e he=>tN hle hw e bC2) bA7⟩
theorem wQ.cap{t:uu}{h:Hp}(hb:wQ t h):t.es.length≤t.ec:=by
 obtain⟨h1,h2,o1,o2,l,hle⟩:=hb;obtain⟨p,c,e,hl⟩:=o1.sW;rw[bG9] at e hl;cases e;exact hl
theorem fU.caps:∀ {ts:List uu} {h:Hp},fU wQ ts h→∀ t∈ts,t.es.length≤t.ec
 | [],_,_=>fun t ht=>absurd ht bA6
 | t::ts,h,⟨a,b,h1,h2,h3⟩=>fun x hx=>by
  rcases bI5.1 hx with rfl | hx
  ·exact h1.cap
  ·exact fU.caps h2 x hx
def TT(m:eF)(h:Hp):Prop:=∃ h1 h2 h3,Own 3 1 m.fv h1 (m.fs.map bY)∧Own 3 1 m.rv h2 (m.fr.map bY)∧Own 102 16 m.vv h3 (m.vs.map zO)∧(m.fs.length<100000∧m.fr.length<100000∧m.vs.length<100000)∧aJ (h1++(h2++h3)) h
structure HL where
 wv:Value
 cv:Value
 vv:Value
 rv:Value
 cs:List jK
 vs:List eF
 hw:Hp
 hc:Hp
 ht:Hp
 hv:Hp
 hz:Hp
 hr:Hp
def HL.rest(L:HL):Hp:=L.hw++(L.hc++(L.ht++(L.hv++(L.hz++L.hr))))
structure AQ(L:HL)(H:HyD):Prop where
 Df:lT H.ws
 w:Own 53 1 L.wv L.hw (H.ws.map uV)
 c:Own 74 19 L.cv L.hc (L.cs.map qX)
 t:fU wQ (L.cs.map (·.t)) L.ht
 v:Own 62 6 L.vv L.hv (L.vs.map mW)
 z:fU TT L.vs L.hz
 r:Own 68 15 L.rv L.hr (H.rs.map jc)
 ec:L.cs.map jK.u=H.cs
 ev:L.vs.map eF.u=H.vs
theorem AQ.hv{L:HL}(h:AQ L H)(hf:H.Fit)(hh:Here L.rest w):vw w L.wv L.cv L.vv L.rv H:=by
 have ecl:L.cs.length=H.cs.length:=by rw[←h.ec,bG9]
 have evl:L.vs.length=H.vs.length:=by rw[←h.ev,bG9]
 have hl:=hf.l;have m:∀ hx:Hp,(∀ e∈hx,e∈L.rest)→Here hx w:=fun hx hm e he=>hh e (hm e he);have t1:=h.t.caps;have t2:Here L.ht w→∀ c∈L.cs,aA w c.t.ev 14 (c.t.es.map iC)∧aA w c.t.dv 4 (c.t.ds.map lg):=fun hh c hc=>h.t.each (Q:=fun t=>aA w t.ev 14 (t.es.map iC)∧aA w t.dv 4 (t.ds.map lg)) (fun t a ha hw=>ha.lie hw) hh c.t (bH9.2 ⟨c,hc,rfl⟩);obtain⟨qw,cw,ew,lw⟩:=h.w.sW;obtain⟨qv,cv,ev,lv⟩:=h.v.sW;rw[bG9] at ew lw ev lv;refine⟨hf,⟨qv,cv,by rw[ev,evl],by omega⟩,⟨qw,cw,ew,lw⟩,L.cs,L.vs,h.ec,h.ev,?_,?_⟩
 ·intro c hc;exact t1 c.t (bH9.2 ⟨c,hc,rfl⟩)
 ·refine⟨h.Df,h.w.lie (m _ bC5) bA7,⟨h.c.lie (m _ bC5) bA7,?_,?_⟩,⟨h.v.lie (m _ bC5) bA7,?_,?_,?_⟩,h.r.lie (m _ bC5) bA7⟩
  ·intro c hc;exact (t2 (m _ bC5) c hc).1
  ·intro c hc;exact (t2 (m _ bC5) c hc).2
  ·exact h.z.each (Q:=fun m=>aA w m.fv 1 (m.fs.map bY)) (fun t a ⟨h1,h2,h3,o1,o2,o3,l,hle⟩ ha=>o1.lie (fun e he=>tN hle ha e bC2) bA7) (m _ bC5)
  ·exact h.z.each (Q:=fun m=>aA w m.rv 1 (m.fr.map bY)) (fun t a ⟨h1,h2,h3,o1,o2,o3,l,hle⟩ ha=>o2.lie (fun e he=>tN hle ha e bC2) bA7) (m _ bC5)
  ·exact h.z.each (Q:=fun m=>aA w m.vv 16 (m.vs.map zO)) (fun t a ⟨h1,h2,h3,o1,o2,o3,l,hle⟩ ha=>o3.lie (fun e he=>tN hle ha e bC2) bA7) (m _ bC5)
theorem TU(ts:List uu)(aO mid:Int)(hv:PtD.cZ aO 0 15=true)(hm:PtD.cZ mid 0 4095=true){lv:Value}(h:Xq w lv ts)(hcap:∀ t∈ts,t.es.length≤t.ec)(hok:∀ t∈ts,dQ t.es t.ds=true)(hl:ts.length<100000):
  Fn Tryz.prog 159 [lv,.int .i64 aO,.int .i64 mid].toArray w [] (fun r hn=>∃ v ha hs ts',r=.tuple #[v,.int .i64 0]∧Own 72 2 v ha (ts'.map TC)∧fU wQ ts' hs∧ts'.map (fun t=>(t.es,t.ds))=ts.map (fun t=>(mM t.es (tK aO mid),t.ds))∧aJ (ha++hs) hn):=by
 obtain⟨q,cap,rfl,hne,_⟩:=h.rows.opened
 have hd1:(tK aO mid).all jC.may=true:=by
  simp only[tK,bV7,bW4,jC.may,hv,hm];rfl
 have hd2:dQ [] (tK aO mid)=true:=by
  simp only[dQ,hd1];rfl
 refine enter Tryz.func159 ?_;refine run ?_;intro D;refine run ?_;refine az (fun wc hG=>zk [] (tK aO mid) (.slice none 0 0) (.slice (some ⟨D,0,none⟩) 2 2) ((Own.nil 80 14).lie (fun b hb=>by cases hb) bA5) (iJ (xs:=(tK aO mid).map lg) (hG.here ⟨D,#[.int .i64 6,.int .i64 aO,.int .i64 0,.int .i64 mid,.int .i64 3,.int .i64 aO,.int .i64 0,.int .i64 0],127⟩ mh) (fun c hc=>(AP c hc).1) (by simp[tK])) ⟨_,_,rfl,bI0 _⟩) ?_;rw[hd2];refine aN ?_;refine aK (σ:=FgS) (fun s=>[(26,.int .i64 (s.k:Int)),(9,s.v)]) (fun s=>⟨D,#[.int .i64 6,.int .i64 aO,.int .i64 0,.int .i64 mid,.int .i64 3,.int .i64 aO,.int .i64 0,.int .i64 0],127⟩::(s.ha++s.hs)) (fun s=>s.k≤ts.length∧Acc 72 2 s.v s.ha (s.ts.map TC)∧fU wQ s.ts s.hs∧s.ts.map (fun t=>(t.es,t.ds))=(ts.take s.k).map (fun t=>(mM t.es (tK aO mid),t.ds))) (fun s=>ts.length-s.k) ⟨0,.slice none 0 0,[],[],[]⟩ ⟨bH3 _,Acc.nil _ _,trivial,rfl⟩ ?_;rintro⟨k,ov,ha,hs,ts'⟩ m hm ⟨hk,hA,hO,hE⟩;dsimp only at hm hk hA hO hE ⊢;have hA':=hA;refine run ?_;refine ah _ rfl (fun hc=>?_) (fun hc=>?_)
 ·have hlt:k<ts.length:=by simpa using hc
  obtain⟨b,o,rfl⟩:=hne bA8;have hr:=h.rows.row hlt;have hen:=h.en _ (getD_mem hlt);have hiv:=h.iv _ (getD_mem hlt);have hcp:=hcap _ (getD_mem hlt);have hkt:=hok _ (getD_mem hlt);have htn:=dW hlt;generalize ts.getD k default=t at hr hen hiv hcp hkt htn;refine run ?_;intro T;refine run ?_;refine bH (fun wc hG=>XL t.es t.ds (tK aO mid) _ _ _ (hen.good hG) (hiv.good hG) ⟨_,_,rfl,hcp⟩ (iJ (xs:=(tK aO mid).map lg) (hG.here ⟨D,#[.int .i64 6,.int .i64 aO,.int .i64 0,.int .i64 mid,.int .i64 3,.int .i64 aO,.int .i64 0,.int .i64 0],127⟩ (bH8 _ mh)) (fun c hc=>(AP c hc).1) (by simp[tK]))) ?_;have hg:tJ t.es t.ds (tK aO mid)=some (mM t.es (tK aO mid),t.ds):=by simp only[tJ,hkt,hd1];rfl
  rw[hg];rintro u hn ⟨v1,h1,v2,h2,rfl,Dh,hO2,hle⟩;dsimp only at Dh hO2;have hlen:(mM t.es (tK aO mid)).length≤t.es.length:=bR4 ..;generalize hal:mM t.es (tK aO mid)=al at Dh hlen;obtain⟨p1,c1,e1⟩:=Dh.opened;obtain⟨p2,c2,e2⟩:=hO2.opened;rw[bG9] at e1 e2;subst e1 e2;refine ig hle ?_;refine dm (_++(h1++h2)) bI7 ?_;simp only[bH2,bH5];refine aN ?_;intro X Z;refine dK (c:=[.slice p1 al.length c1,.slice p2 t.ds.length c2]) hA (fun v' ha' hA2=>?_) (by have:=congrArg List.length hE;simp at this;simp;omega) (aY (m:=2) mh rfl) (hp':=⟨Z,#[.slice p1 al.length c1,.slice p2 t.ds.length c2],72⟩::⟨X,#[.slice p1 al.length c1,.slice p2 t.ds.length c2],72⟩::⟨T,#[t.ev,t.dv],72⟩::⟨D,#[.int .i64 6,.int .i64 aO,.int .i64 0,.int .i64 mid,.int .i64 3,.int .i64 aO,.int .i64 0,.int .i64 0],127⟩::(hs++(h1++h2))) (hperm:=by (exact aT));refine aN ?_;refine aF ⟨k+1,v',ha',h1++h2++hs,ts'++[⟨al,t.ds,p1,c1,p2,c2⟩]⟩ ⟨hlt,?_,?_,?_⟩ (hm:=by dsimp only;omega) (h2:=by (exact aj))
  ·dsimp only;rw[bI6];exact hA2
  ·exact hO.snoc (y:=⟨al,t.ds,p1,c1,p2,c2⟩) (a:=h1++h2) ⟨h1,h2,Dh,hO2,⟨by have:=(pF hkt).2.1;dsimp only;omega,by have:=(pF hkt).2.2;dsimp only;omega⟩,aJ.refl _⟩
  ·dsimp only;rw[htn,bI6,bI6,hE];simp[hal]
 ·have hge:k=ts.length:=by simp at hc;omega
  subst hge;rw[bM6] at hE;refine aN ?_;refine fin2 ?_;exact⟨_,ha,hs,ts',rfl,hA.own,hO,hE,by (exact aj)⟩
end
section
attribute [local irreducible] Hy St Ops DH dI jl iR gX DS iw lV
structure BcS where
 k:Nat
 v:Value
 h:Hp
def ax8(ws:List Nat)(root:Int)(mid:Nat)(d:DsD):Nat→List Nat
 | 0=>ws
 | 1=>(fC ws root mid 3 dG).ws
 | _=>(fC (fC ws root mid 3 dG).ws root mid 3 d).ws
theorem EG{ws:List Nat}(h:lT ws)(root:Int)(page level:Nat)(d:DsD):lT (fC ws root page level d).ws:=by
 unfold fC;dsimp only
 cases (!(aQ ws root page level).ok) with
 | true=>exact fun x hx=>absurd hx (by simp[badM])
 | false=>
  rw[cond_false]
  cases (!decide ((aQ ws root page level).lv=level)) with
  | true=>exact fun x hx=>absurd hx (by simp[badM])
  | false=>exact h.lI _ _ _
theorem ae0{ws:List Nat}{root:Int}(hg:(iG ws root page).e=0)(hl:(iG ws root page).level=3)(d:DsD):fC ws root page 3 d=⟨lI ws ((aQ ws root page 3).place page) 3 d,[],0⟩:=by
 unfold iG at hg hl;unfold fC;dsimp only at hg hl ⊢
 cases h:(aQ ws root page 3).ok with
 | false=>rw[h] at hg;cases hg
 | true=>
  rw[h] at hl;rw[show (aQ ws root page 3).lv=3 from hl];rfl
theorem TV(ts:List uu)(ws:List Nat)(hw:lT ws)(hmm:fM ws.length=true)(root aO:Int)(mid:Nat)(hv:PtD.cZ aO 0 15=true)(hmid:mid≤4095)(d:DsD)(hd:d.may 2 3=true)(hg:(iG ws root mid).e=0)(hg3:(iG ws root mid).level=3){mv lv:Value}(hmv:aA w mv 1 (ws.map uV))(h:Xq w lv ts)(hcap:∀ t∈ts,t.es.length≤t.ec)(hok:∀ t∈ts,dQ t.es t.ds=true)(hl:ts.length<100000):
  Fn Tryz.prog 246 [.agg #[mv],lv,.int .i64 root,.int .i64 aO,.int .i64 (mid:Int),uk d].toArray w [] (fun u hn=>∃ v1 h1 v ha hs ts',u=.tuple #[.agg #[v1],v,.int .i64 0]∧Own 53 1 v1 h1 ((fC (fC ws root mid 3 dG).ws root mid 3 d).ws.map uV)∧Own 72 2 v ha (ts'.map TC)∧fU wQ ts' hs∧ts'.map uu.p=ts.map (fun t=>(mM t.es (tK aO mid),t.ds))∧aJ (h1++(ha++hs)) hn):=by
 have hm':PtD.cZ (mid:Int) 0 4095=true:=by simp only[PtD.cZ,bG8,decide_eq_true_eq];omega
 refine enter Tryz.func246 ?_;refine run ?_;intro Mb Db Xb;refine run ?_;refine bH (fun wc hG=>TU ts aO mid hv hm' (h.good hG) hcap hok hl) ?_;rintro u hn ⟨v,ha,hs,ts',rfl,hO,hT,hE,hle⟩;obtain⟨tp,tc,et⟩:=hO.opened;rw[bG9] at et;subst et;refine ig hle ?_;refine aC ?_;refine bG (fun _ wc hG=>yP 2 (.inr rfl) 3 bA5 d wc) ?_;rw[hd];refine aN ?_;refine az (fun wc hG=>I9 ws hw (hmv.good hG) hmm root mid hmid) ?_;rw[hg,hg3];refine aN ?_;intro Gb;refine run ?_;refine bH (fun wc hG=>oM _ _ (hmv.good hG) (fun c hc=>by obtain⟨x,_,rfl⟩:=bH9.1 hc;exact⟨rfl,rfl⟩) (by have:=bP hmm;rw[bG9];omega)) ?_;intro v1 h1 Dh;obtain⟨wp,Vg,e1⟩:=Dh.opened;rw[bG9] at e1;subst e1;refine aS (⟨Xb,#[.slice none 0 0],24⟩::⟨Db,#[.int .i64 d.kind,.int .i64 d.frame,.bool d.r,.bool d.w,.bool d.x,.bool d.af,.bool d.ng,.int .i64 d.soft,.int .i64 d.note],95⟩::(h1++(ha++hs))) aj ?_;refine run ?_;intro Z;refine run ?_;have e0:(fC ws root mid 3 dG)=⟨lI ws ((aQ ws root mid 3).place mid) 3 dG,[],0⟩:=ae0 hg hg3 dG;have hm1:fM (fC ws root mid 3 dG).ws.length=true:=by rw[e0];dsimp only;rw[kG];exact hmm
 refine aK (σ:=BcS) (fun s=>[(59,.int .i64 (s.k:Int))]) (fun s=>⟨Z,#[.int .i64 0,.int .i64 0,.bool false,.bool false,.bool false,.bool false,.bool false,.int .i64 0,.int .i64 0,.int .i64 d.kind,.int .i64 d.frame,.bool d.r,.bool d.w,.bool d.x,.bool d.af,.bool d.ng,.int .i64 d.soft,.int .i64 d.note],95⟩::⟨Xb,#[s.v],24⟩::(s.h++(ha++hs))) (fun s=>s.k≤2∧Own 53 1 s.v s.h ((ax8 ws root mid d s.k).map uV)) (fun s=>2-s.k) ⟨0,.slice wp ws.length Vg,h1⟩ ⟨bH3 _,Dh⟩ ?_;rintro⟨k,xv,hx⟩ m hm ⟨hk,hX⟩;dsimp only at hm hk hX ⊢;refine run ?_;refine ah _ rfl (fun hc=>?_) (fun hc=>?_)
 ·obtain⟨xp,xc,ex⟩:=hX.opened;subst ex;obtain rfl | rfl:k=0∨k=1:=by have:=of_decide_eq_true hc;omega
  ·refine run ?_;intro Eb;refine run ?_;refine bH (fun wc hG=>QJ ws hw (hX.lie (fun b hb=>hG.here b bF5) (by rw[bG9];have:=bP hmm;show ws.length≤_;omega)) hmm root mid hmid 3 bA5 dG rfl) ?_;rintro u2 hn2 ⟨v2,h2,rfl,hO2,hle2⟩;obtain⟨p2,c2,e2⟩:=hO2.opened;subst e2;refine aS (⟨Z,#[.int .i64 0,.int .i64 0,.bool false,.bool false,.bool false,.bool false,.bool false,.int .i64 0,.int .i64 0,.int .i64 d.kind,.int .i64 d.frame,.bool d.r,.bool d.w,.bool d.x,.bool d.af,.bool d.ng,.int .i64 d.soft,.int .i64 d.note],95⟩::⟨Xb,#[.slice xp (List.map uV (ax8 ws root mid d 0)).length xc],24⟩::(h2++(ha++hs))) (cnt1 hle2) ?_;refine run ?_;exact aF ⟨1,_,h2⟩ ⟨Nat.le_succ 1,hO2⟩ (hm:=by dsimp only;omega)
  ·refine run ?_;intro Eb;refine run ?_;refine bH (fun wc hG=>QJ (fC ws root mid 3 dG).ws (EG hw root mid 3 dG) (hX.lie (fun b hb=>hG.here b bF5) (by rw[bG9];have:=bP hm1;show (fC ws root mid 3 dG).ws.length≤_;omega)) hm1 root mid hmid 3 bA5 d hd) ?_;rintro u2 hn2 ⟨v2,h2,rfl,hO2,hle2⟩;obtain⟨p2,c2,e2⟩:=hO2.opened;subst e2;refine aS (⟨Z,#[.int .i64 0,.int .i64 0,.bool false,.bool false,.bool false,.bool false,.bool false,.int .i64 0,.int .i64 0,.int .i64 d.kind,.int .i64 d.frame,.bool d.r,.bool d.w,.bool d.x,.bool d.af,.bool d.ng,.int .i64 d.soft,.int .i64 d.note],95⟩::⟨Xb,#[.slice xp (List.map uV (ax8 ws root mid d 1)).length xc],24⟩::(h2++(ha++hs))) (cnt1 hle2) ?_;refine run ?_;exact aF ⟨2,_,h2⟩ ⟨bI0 2,hO2⟩ (hm:=by dsimp only;omega)
 ·have hk2:k=2:=by have:=of_decide_eq_false hc;omega
  subst hk2;obtain⟨xp,xc,ex⟩:=hX.opened;subst ex;refine run ?_;exact rE ⟨_,hx,_,ha,hs,ts',rfl,hX,hO,hT,hE,by (exact aj)⟩
def HL.hp(L:HL)(X:Nat)(tl:List Value)(ty:TypeId):Hp:=⟨X,(L.wv::L.cv::L.vv::L.rv::tl).toArray,ty⟩::L.rest
structure TbS where
 k:Nat
 v:Value
 h:Hp
theorem ae1{vv rv:Value}(cs:List jK)(hX:w.rangeAt X 0 [wv,cv,vv,rv])(hC:aA w cv 19 (cs.map qX))(hl:cs.length<100000):
  Fn Tryz.prog 160 [.pointer (some ⟨X,0,none⟩)].toArray w [] (fun u hn=>∃ ha,Own 72 2 u ha ((cs.map (·.t)).map TC)∧aJ ha hn):=by
 have h1:w.cell? ⟨X,1,none⟩=some cv:=ak (aV (k:=1) (n:=1) hX rfl);have hC':=hC;obtain⟨q,cap,rfl,hne,_⟩:=hC.opened;refine enter Tryz.func160 ?_;refine run ?_;refine aK (σ:=TbS) (fun s=>[(12,.int .i64 (s.k:Int)),(3,s.v)]) (fun s=>s.h) (fun s=>s.k≤cs.length∧Acc 72 2 s.v s.h (((cs.take s.k).map (·.t)).map TC)) (fun s=>cs.length-s.k) ⟨0,.slice none 0 0,[]⟩ ⟨bH3 _,Acc.nil _ _⟩ ?_;rintro⟨k,ov,ha⟩ m hm ⟨hk,hA⟩;dsimp only at hm hk hA ⊢;refine run ?_;refine ah _ rfl (fun hc=>?_) (fun hc=>?_)
 ·have hlt:k<cs.length:=by simpa using hc
  obtain⟨b,o,rfl⟩:=hne bA8;have hr:=hC.row hlt;have htn:=dW hlt;generalize cs.getD k default=c at hr htn;refine run ?_;intro Cb;refine run ?_;intro Z;refine aS (⟨Z,#[c.t.ev,c.t.dv],72⟩::ha) aj ?_;refine dK (c:=[c.t.ev,c.t.dv]) hA (fun v' ha' hA2=>?_) bA' (aY (m:=2) mh rfl) (hp':=[⟨Z,#[c.t.ev,c.t.dv],72⟩]) (hperm:=by (exact aT));refine run ?_;refine aF ⟨k+1,v',ha'⟩ ⟨hlt,?_⟩ (hm:=by dsimp only;omega) (h2:=by (exact aj));dsimp only;rw[htn,bI6,bI6];exact hA2
 ·have hge:k=cs.length:=by simp at hc;omega
  subst hge;rw[bM6] at hA;refine run ?_;exact fin1 ⟨ha,hA.own,aJ.refl _⟩
def TW(cs:List jK)(ts:List uu):Nat→List jK
 | 0=>cs
 | k+1=>(TW cs ts k).set k { (TW cs ts k).getD k default with t:=ts.getD k default }
theorem Dj(cs:List jK)(ts:List uu)(k:Nat):(TW cs ts k).length=cs.length:=by
 induction k with
 | zero=>rfl
 | succ k ih=>rw[TW,bL3,ih]
theorem LJ{g cap:Nat}{cur:Array Value}{vv rv lv:Value}(cs:List jK)(ts:List uu)(hlen:ts.length=cs.length)(hl:cs.length<100000)(hX:w.rangeAt X 0 [wv,.slice (some ⟨g,0,none⟩) cs.length cap,vv,rv])(hXg:X≠g)(hO:Own 74 19 (.slice (some ⟨g,0,none⟩) cs.length cap) [⟨g,cur,74⟩] (cs.map qX))(hL:aA w lv 2 (ts.map TC))(hlo:∀ b o n k,lv=.slice (some ⟨b,o,none⟩) n k→b≠g)(hN:eU [⟨g,cur,74⟩] w):
  Fn Tryz.prog 161 [.pointer (some ⟨X,0,none⟩),lv].toArray w [g] (fun u hn=>u=.tuple #[]∧∃ cur',Own 74 19 (.slice (some ⟨g,0,none⟩) cs.length cap) [⟨g,cur',74⟩] ((TW cs ts cs.length).map qX)∧aJ [⟨g,cur',74⟩] hn):=by
 have h1:w.cell? ⟨X,1,none⟩=some (.slice (some ⟨g,0,none⟩) cs.length cap):=ak (aV (k:=1) (n:=1) hX rfl);have hXm:X∉[g]:=by simp[hXg]
 obtain⟨q,lc,rfl,hne,_⟩:=hL.opened;refine eH [⟨g,cur,74⟩] hN Tryz.func161 ?_;refine run ?_;refine aK (σ:=Nat×Array Value) (fun s=>[(11,.int .i64 (s.1:Int))]) (fun s=>[⟨g,s.2,74⟩]) (fun s=>s.1≤cs.length∧Own 74 19 (.slice (some ⟨g,0,none⟩) cs.length cap) [⟨g,s.2,74⟩] ((TW cs ts s.1).map qX)) (fun s=>cs.length-s.1) (0,cur) ⟨bH3 _,hO⟩ ?_;rintro⟨k,cu⟩ m hm ⟨hk,hU⟩;dsimp only at hm hk hU ⊢;refine run ?_;refine ah _ rfl (fun hc=>?_) (fun hc=>?_)
 ·have hlt:k<cs.length:=by simpa using hc
  obtain⟨b,o,rfl⟩:=hne (by intro e;subst e;simp at hlen;omega);have hb:=hlo _ _ _ _ rfl;have hbm:b∉[g]:=by simp[hb]
  have hr:=hL.row (show k<ts.length by omega);obtain⟨g',cap',cur',e1,e2,hsz,qg,hput⟩:=hU.oO (k:=k) (by rw[Dj];exact hlt);rw[Dj] at e1;simp only[Dj] at hput;cases e1;cases e2;refine run ?_;refine ve 13 12 [0,1,2,3,4,5,6,7,8,9,10,11] [(12,false)] [] ?_;refine kW ?_;have hnew:=hput 17 [(ts.getD k default).ev,(ts.getD k default).dv] { (TW cs ts k).getD k default with t:=ts.getD k default } bA6 rfl ⟨rfl,rfl⟩;refine xC ?_;refine uQ (v:=.agg #[(ts.getD k default).ev,(ts.getD k default).dv]) aB (b:=g) (cs:=cu) (cs':=putAt cu (k*19+17) [(ts.getD k default).ev,(ts.getD k default).dv]) (tb:=74) (off:=k*19+17) (vs:=[(ts.getD k default).ev,(ts.getD k default).dv]) (hp':=[]) rfl rfl rfl rfl rfl rfl aT rfl (by show k*19+17+2≤_;omega) rfl aj ?_;refine dh ?_;refine Jg ?_;refine kR ?_;refine run ?_;exact aF (k+1,putAt cu (k*19+17) [(ts.getD k default).ev,(ts.getD k default).dv]) ⟨hlt,hnew⟩ (hm:=by dsimp only;omega)
 ·have hge:k=cs.length:=by simp at hc;omega
  subst hge;refine run ?_;exact fin0 ⟨rfl,cu,hU,aJ.refl _⟩
end
section
attribute [local irreducible] Hy St Ops DH dI
def Aft(w w':World):Prop:=∃ hp,Good w [] hp w'
section
variable {w : World} {bp : Nat} {L : JO} {P : PtD}
theorem tX(h:ry w bp L P)(i:Nat)(hi:i<P.ay.length)(n:Int)(hn:n=(i:Int)+1):Fn Tryz.prog 199 [.pointer (some ⟨bp,0,none⟩),.int .i64 n].toArray w [] (fun u _=>u=.pointer (some ⟨L.gb,L.go+i*5,none⟩)):=by
 have hg:=h.cg;have h4:=h.n.g4;refine enter Tryz.func199 ?_;refine aC ?_;refine fin1 ?_;rw[show (n-1).toNat=i by omega]
theorem ax9(h:ry w bp L P)(f:Nat)(hf:f<P.pages.length)(who:Int):Fn Tryz.prog 331 [.pointer (some ⟨bp,0,none⟩),.int .i64 who,.int .i64 f].toArray w [] (fun u _=>u=.bool (P.uses who f)):=by
 have hp:=h.cp;have h0:=h.v.pg0 hf;have h1:=h.v.pg1 hf;refine enter Tryz.func331 ?_;refine aC ?_;exact fin1 rfl
end
end
section
attribute [local irreducible] Hy St Ops DH dI
theorem LK{w:World}{F:Nat}{us:List Value}(p:o6→Bool)(xs:List o6)(v:Value)(h:aA w v 2 (xs.map sU))(hF:∀ x,∀ w',Aft w w'→Fn Tryz.prog F ([]++[Value.agg #[.int .i64 x.own,.int .i64 x.wit]]++us).toArray w' [] (fun u _=>u=.bool (p x)))(bK:mem iZ F=true:=by rfl):
  Fn Tryz.prog 305 [v,.func (.func F) [].toArray us.toArray].toArray w [] (fun u _=>u=.int .i64 (gV p xs)):=by
 obtain⟨q,cap,rfl,hne,hle⟩:=h.opened;refine enter Tryz.func305 ?_;refine run ?_;refine aK (σ:=Nat) (fun k=>[(8,.int .i64 (k:Int))]) (fun _=>[]) (fun k=>k≤xs.length∧∀ j,j<k→p (xs.getD j default)=false) (fun k=>xs.length-k) 0 ⟨bH3 _,fun j hj=>absurd hj bA4⟩ ?_;rintro k m rfl ⟨hk,hno⟩;refine run ?_;refine ah _ rfl (fun hc=>?_) (fun hc=>?_)
 ·have hlt:k<xs.length:=by simpa using hc
  obtain⟨b,o,rfl⟩:=hne bA8;have hr:=h.row hlt;simp only[sU] at hr;refine run ?_;refine l9 (fun wc hG=>hF (xs.getD k default) wc ⟨_,hG⟩) (bK:=bK) ?_;refine run ?_;refine ah _ rfl (fun hp=>?_) (fun hp=>?_)
  ·refine run ?_;refine fin1 ?_;rw[fH hlt hp hno]
  ·refine run ?_;refine aF (k+1) ⟨hlt,fun j hj=>?_⟩;rcases bI1.1 hj with hj | rfl
   ·exact hno j hj
   ·exact hp
 ·have hge:k=xs.length:=by simp at hc;omega
  subst hge;refine run ?_;refine fin1 ?_;rw[dV hno]
theorem qA{w:World}{F:Nat}{us:List Value}(p:o6→Bool)(xs:List o6)(v:Value)(h:aA w v 2 (xs.map sU))(hF:∀ x,∀ w',Aft w w'→Fn Tryz.prog F ([]++[Value.agg #[.int .i64 x.own,.int .i64 x.wit]]++us).toArray w' [] (fun u _=>u=.bool (p x)))(bK:mem iZ F=true:=by rfl):
  Fn Tryz.prog 238 [v,.func (.func F) [].toArray us.toArray].toArray w [] (fun u _=>u=.bool (xs.any p)):=by
 refine enter Tryz.func238 ?_;refine run ?_;refine az (fun wc hG=>LK p xs v (h.good hG) (fun x w' ha=>hF x w' ?_) bK) ?_
 ·obtain⟨hp,hg⟩:=ha;exact⟨_,hG.trans hg⟩
 refine run ?_;refine fin1 ?_;rw[←gG]
theorem LM(a:Int)(xs:List Int)(v:Value)(h:aA w v 1 (xs.map bY)):
  Fn Tryz.prog 212 [v,.int .i64 a].toArray w [] (fun u _=>u=.int .i64 (gV (fun t=>decide (t=a)) xs)):=by
 obtain⟨q,cap,rfl,hne,hle⟩:=h.opened;refine enter Tryz.func212 ?_;refine run ?_;refine aK (σ:=Nat) (fun k=>[(8,.int .i64 (k:Int))]) (fun _=>[]) (fun k=>k≤xs.length∧∀ j,j<k→decide (xs.getD j default=a)=false) (fun k=>xs.length-k) 0 ⟨bH3 _,fun j hj=>absurd hj bA4⟩ ?_;rintro k m rfl ⟨hk,hno⟩;refine run ?_;refine ah _ rfl (fun hc=>?_) (fun hc=>?_)
 ·have hlt:k<xs.length:=by simpa using hc
  obtain⟨b,o,rfl⟩:=hne bA8;have hr:=ak (h.row hlt);have hr1:=hr;simp only[bJ5] at hr1;refine run ?_;refine ah _ rfl (fun hp=>?_) (fun hp=>?_)
  ·refine run ?_;refine fin1 ?_;rw[fH hlt (by simpa [eq_comm] using hp) hno]
  ·refine run ?_;refine aF (k+1) ⟨hlt,fun j hj=>?_⟩;rcases bI1.1 hj with hj | rfl
   ·exact hno j hj
   ·simpa [eq_comm] using hp
 ·have hge:k=xs.length:=by simp at hc;omega
  subst hge;refine run ?_;refine fin1 ?_;rw[dV hno]
theorem vF(a:Int)(xs:List Int)(v:Value)(h:aA w v 1 (xs.map bY)):
  Fn Tryz.prog 131 [v,.int .i64 a].toArray w [] (fun u _=>u=.bool (xs.any fun t=>decide (t=a))):=by
 refine enter Tryz.func131 ?_;refine run ?_;refine az (fun wc hG=>LM a xs v (h.good hG)) ?_;refine run ?_;refine fin1 ?_;rw[←gG]
end
section
attribute [local irreducible] Hy St Ops DH dI
section
variable {w : World} {bp : Nat} {L : JO} {P : PtD}
theorem ae2(x:o6)(who:Int)(B:Nat)(w:World)(hB:w.cell? ⟨B,0,none⟩=some (.int .i64 who)):Fn Tryz.prog 304 [.agg #[.int .i64 x.own,.int .i64 x.wit],.pointer (some ⟨B,0,none⟩)].toArray w [] (fun u _=>u=.bool (decide (x.own=who))):=by
 refine enter Tryz.func304 ?_;refine run ?_;intro b;exact fin1 rfl
theorem jo.XM(h:jo w L P)(hp:0<P.pages.length)(hle:P.pages.length≤281474976710656):aA w (L.pv P.pages.length) 2 (P.pages.map sU):=by
 refine⟨⟨_,L.pc,by rw[bG9],fun _=>⟨L.pb,L.po,rfl,fun i c hc=>?_⟩⟩,by rw[bG9];exact hle⟩;rw[bJ1] at hc
 cases hx:P.pages[i]? with
 | none=>rw[hx] at hc;cases hc
 | some x=>
  rw[hx] at hc;simp only[bK7,bJ2] at hc;have hi:i<P.pages.length:=(bI'.1 hx).1;have:=h.pg i hi;rw[show P.pg i=x by unfold PtD.pg;rw[bG',hx];rfl] at this;rw[←hc];exact this
theorem ax'(h:ry w bp L P)(who:Int):Fn Tryz.prog 235 [.pointer (some ⟨bp,0,none⟩),.int .i64 who].toArray w [] (fun u _=>u=.bool (P.owns who)):=by
 have hp:=h.cp;have h0:=h.n.p0;have h1:=h.n.p1;refine enter Tryz.func235 ?_;refine run ?_;intro B;refine az (fun wc hG=>qA (us:=[.pointer (some ⟨B,0,none⟩)]) (fun x=>decide (x.own=who)) P.pages _ ((h.v.good hG).XM bA4 bA4) (fun x w' ha=>ae2 x who B w' ?_)) ?_
 ·obtain⟨hp,hg⟩:=ha;exact hg.cell bF3 bA6
 refine run ?_;exact fin1 rfl
theorem Dk(h:ry w bp L P)(n:Int):Fn Tryz.prog 287 [.pointer (some ⟨bp,0,none⟩),.int .i64 n].toArray w [] (fun u _=>u=.bool (P.lives n)):=by
 have h4:=h.n.g4;refine enter Tryz.func287 ?_;refine run ?_;refine az (fun wc hG=>fQ _ _ _ wc) ?_;cases hb:PtD.cZ n 1 4
 ·refine aC ?_;refine fin1 ?_;simp[PtD.lives,hb]
 ·have hb':=hb;simp only[PtD.cZ,bG8,decide_eq_true_eq] at hb';have hg0:=h.v.gs0 (i:=(n-1).toNat) bA4;refine aC ?_;refine bG (fun hg wc hG=>tX (h.good hG) (n-1).toNat bA4 n bA4) ?_;refine aC ?_;refine fin1 ?_;simp[PtD.lives,hb]
theorem LP(b o:Nat)(f:Int)(hf:-9223372036854775000≤f)(hf':f≤9223372036854775000)(w:World)(hc:w.cell? ⟨b,o+2,none⟩=some (.int .i64 f)):Fn Tryz.prog 200 [.pointer (some ⟨b,o,none⟩)].toArray w [] (fun u hp=>Acc 3 1 u hp ([f,f+1,f+2,f+3,f+4].map bY)):=by
 refine enter Tryz.func200 ?_;refine run ?_;refine aK (σ:=Nat×Value×Hp) (fun s=>[(3,s.2.1),(5,.int .i64 (s.1:Int))]) (fun s=>s.2.2) (fun s=>s.1≤5∧Acc 3 1 s.2.1 s.2.2 ((List.range s.1).map fun (i:Nat)=>bY (f+(i:Int)))) (fun s=>5-s.1) (0,_,[]) ⟨by omega,Acc.nil _ _⟩ ?_;rintro⟨k,v,ha⟩ m hm ⟨hk,hA⟩;dsimp only at hm hk hA ⊢;refine run ?_;refine ah _ rfl (fun hc=>?_) (fun hc=>?_)
 ·have hlt:k<5:=by simp at hc;omega
  refine run ?_;intro T;refine dK (c:=bY (f+(k:Int))) hA (fun v' ha' hA'=>?_) bA' (aY (m:=1) mh rfl);refine run ?_;refine aF (k+1,v',ha') ⟨by omega,?_⟩;rw[bN7,bI6];exact hA'
 ·have:k=5:=by simp at hc;omega
  subst this;refine run ?_;refine fin1 ?_;simpa [bN7] using hA
theorem ae3(h:ry w bp L P)(f:Nat)(hf:f<P.pages.length)(ts:List Int)(tv:Value)(ht:aA w tv 1 (ts.map bY)):Fn Tryz.prog 201 [.pointer (some ⟨bp,0,none⟩),.int .i64 f,tv].toArray w [] (fun u _=>u=.bool (P.oz ts f)):=by
 have hp:=h.cp;have hr:=h.v.pg f hf;have hcast:decide (f<16)=decide ((f:Int)<16):=by rw[decide_eq_decide];omega
 refine enter Tryz.func201 ?_;refine aC ?_;intro b1;refine ah _ rfl (fun hc=>?_) (fun hc=>?_)
 ·refine run ?_;refine eP 12 ?_;refine aZ ?_;refine fB (fun wc hG=>OM wc) ?_;refine aZ ?_;refine IC (fun h0 h1 wc hG=>vF (f:Int) ts tv (ht.good hG)) ?_;refine aZ ?_;refine aC ?_;refine fin1 ?_;simp[PtD.oz,hcast,hc,aW,iH]
 ·refine run ?_;refine ah _ rfl (fun hc2=>?_) (fun hc2=>?_)
  ·refine aC ?_;refine bG (fun h1 wc hG=>Dk (h.good hG) (P.pg f).wit) ?_;refine aC ?_;refine fin1 ?_;simp only[decide_eq_true_eq] at hc2;rw[PtD.oz,hcast,hc];simp[hc2]
  ·simp only[decide_eq_false_iff_not] at hc2;refine aC ?_;refine az (fun wc hG=>fQ _ _ _ wc) ?_;refine aC ?_;refine ah _ rfl (fun hc3=>?_) (fun hc3=>?_)
   ·refine aC ?_;refine IB (fun h0 h1 wc hG=>Dk (h.good hG) (P.pg f).own) ?_;refine aC ?_;refine fin1 ?_;simp[PtD.oz,hcast,hc,hc2,hc3]
   ·refine aC ?_;refine fin1 ?_;simp[PtD.oz,hcast,hc,hc2,hc3]
theorem XN(h:ry w bp L P)(c:Nat)(hc:c<P.on.length):Fn Tryz.prog 202 [.pointer (some ⟨bp,0,none⟩),.int .i64 c].toArray w [] (fun u _=>u=.bool (P.seated c)):=by
 have hp:=h.co;have hr:=h.v.st c hc;refine enter Tryz.func202 ?_;refine aC ?_;intro b1;refine ah _ rfl (fun hc0=>?_) (fun hc0=>?_)
 ·refine run ?_;refine fin1 ?_;rw[PtD.seated,hc0];rfl
 refine run ?_;refine eP 33 ?_;refine aZ ?_;refine fB (fun wc hG=>Dk (h.good hG) _) ?_;cases hl:P.lives (P.st c).vm
 ·refine aZ ?_;refine aC ?_;refine fin1 ?_;simp[PtD.seated,hc0,hl]
 have hl':=hl;simp only[PtD.lives,PtD.cZ,bG8,decide_eq_true_eq] at hl';obtain⟨i,hi⟩:∃ i,i=((P.st c).vm-1).toNat:=⟨_,rfl⟩
 have hi4:i<P.ay.length:=by have:=h.n.g4;omega
 have hvm:(P.st c).vm=(i:Int)+1:=by omega
 obtain⟨q,cap,hvv,hne,hle⟩:=(h.v.vc i hi4).opened;have hg3:=h.v.gs3 hi4;rw[hvv] at hg3;refine aZ ?_;refine eG (fun h1 wc hG=>tX (h.good hG) i hi4 _ hvm) ?_;refine aZ ?_;refine eG (fun h1 wc hG=>fQ _ _ _ wc) ?_;cases hb:PtD.cZ (P.st c).cpu 0 ((P.gs i).aP.length-1)
 ·refine aZ ?_;refine aC ?_;refine fin1 ?_;simp[PtD.seated,hc0,hl,←hi,hb]
 have hb':=hb;simp only[PtD.cZ,bG8,decide_eq_true_eq] at hb';obtain⟨b,o,rfl⟩:=hne (by intro e;rw[e] at hb';simp at hb';omega);have hv:=h.v.vc i hi4;rw[hvv] at hv;have hx:=ak (hv.row (k:=(P.st c).cpu.toNat) bA4);rw[bJ5] at hx;refine aZ ?_;refine eG (fun h1 wc hG=>tX (h.good hG) i hi4 _ hvm) ?_;refine aZ ?_;refine aC ?_;refine fin1 ?_;simp[PtD.seated,hc0,hl,←hi,hb]
theorem XO{α:Type}(f:α→Value)(x:α)(n:Nat):madeCells #[f x] (n*1)=((List.replicate n x).map f).toArray:=by
 apply Array.ext
 ·simp[madeCells]
 ·intro i h1 h2;simp[madeCells,bV1]
theorem LQ{w:World}{l:List jT}{o cap:Nat}(h:aA w (.slice (some ⟨b,o,none⟩) l.length cap) 2 (l.map eu))(hk:k<l.length)(h0:0<k):w.cell? ⟨b,o+((k:Int)-1).toNat*2,none⟩=some (.int .i64 (l.getD (k-1) default).mid):=by
 rw[show ((k:Int)-1).toNat=k-1 by omega];exact ak (h.row (k:=k-1) bA4)
theorem XP(h:ry w bp L P)(i:Nat)(hi:i<P.ay.length)(n:Int)(hn:n=(i:Int)+1):Fn Tryz.prog 286 [.pointer (some ⟨bp,0,none⟩),.int .i64 n].toArray w [] (fun u _=>u=.bool (P.mapped i)):=by
 have hp:=h.cp;have hp1:=h.n.p1;obtain⟨q,cap,hmv,hne,hle⟩:=(h.v.mp i hi).opened;have hg4:=h.v.gs4 hi;rw[hmv] at hg4;have hrow:=h.v.mp i hi;rw[hmv] at hrow;refine enter Tryz.func286 ?_;refine run ?_;refine az (fun wc hG=>tX (h.good hG) i hi n hn) ?_;refine run ?_;refine make (m:=P.pages.length) (fun b=>?_) bA4;rw[show madeCells (Value.cells (.bool false)) (P.pages.length*1)=((List.replicate P.pages.length false).map Value.bool).toArray from XO _ _ _];refine run ?_;refine aK (σ:=Nat×List Bool) (fun s=>[(26,.int .i64 (s.1:Int))]) (fun s=>[⟨b,(s.2.map Value.bool).toArray,4⟩]) (fun s=>s.1≤(P.gs i).maps.length∧s.2.length=P.pages.length∧(∀ j,j<s.1→PtD.oC (P.gs i).maps P.pages.length j=true)∧∀ f,f<P.pages.length→s.2.getD f false=((P.gs i).maps.take s.1).any fun x=>decide (x.dZ=(f:Int))) (fun s=>(P.gs i).maps.length-s.1) (0,List.replicate P.pages.length false) ⟨by simp,by simp,fun j hj=>absurd hj bA6,fun f hf=>by simp[hf]⟩ ?_;rintro⟨k,bs⟩ m hm ⟨hk,hbs,hall,BH⟩;dsimp only at hm hk hbs hall BH ⊢;refine run ?_;refine ah _ rfl (fun hc=>?_) (fun hc=>?_)
 ·have hlt:k<(P.gs i).maps.length:=by simp at hc;omega
  obtain⟨b2,o2,rfl⟩:=hne bC3;have hr:=hrow.row hlt;simp only[eu] at hr
  have hno:PtD.oC (P.gs i).maps P.pages.length k=false→P.mapped i=false:=fun h=>by
   unfold PtD.mapped
   rw[show allB (P.gs i).maps.length (PtD.oC (P.gs i).maps P.pages.length)=false by
    rw[←bK',aI];intro ha;rw[ha k hlt] at h;cases h]
   rfl
  have hmd:PtD.oC (P.gs i).maps P.pages.length k=(PtD.cZ ((P.gs i).maps.getD k default).mid 0 15&&(decide (k=0)||decide (((P.gs i).maps.getD (k-1) default).mid<((P.gs i).maps.getD k default).mid))&&PtD.cZ ((P.gs i).maps.getD k default).dZ 0 ((P.pages.length:Int)-1)&&!(((P.gs i).maps.take k).any fun x=>decide (x.dZ=((P.gs i).maps.getD k default).dZ))):=rfl;generalize hxd:(P.gs i).maps.getD k default=x at hr hmd;have hxk:x=(P.gs i).maps[k]:=by rw[←hxd,bG',bH0 hlt];rfl
  clear hxd;refine run ?_;intro X;refine di ?_;refine aZ ?_;refine fB (fun wc hG=>fQ _ _ _ wc) ?_;cases hb1:PtD.cZ x.mid 0 15
  ·refine aZ ?_;refine aC ?_;refine ah _ rfl (fun hc=>?_) (fun hc=>absurd hc bA6);refine run ?_;refine fin1 ?_;rw[hno (by rw[hmd,hb1];rfl)]
  rw[hb1] at hmd
  have hload:PtD.cZ x.dZ 0 ((P.pages.length:Int)-1)=true→nth (List.map Value.bool bs).toArray.toList x.dZ.toNat=some (.bool (((P.gs i).maps.take k).any fun y=>decide (y.dZ=x.dZ))):=fun hb=>by
   simp only[PtD.cZ,bG8,decide_eq_true_eq] at hb;have:=BH x.dZ.toNat bA4;rw[show ((x.dZ.toNat:Nat):Int)=x.dZ by omega] at this;rw[←this,mZ];have hl:x.dZ.toNat<bs.length:=by omega
   simp[bH0 hl]
  have hjA:PtD.oC (P.gs i).maps P.pages.length k=true→∀ j,j<k+1→PtD.oC (P.gs i).maps P.pages.length j=true:=fun h j hj=>by
   rcases bI1.1 hj with hj | rfl
   ·exact hall j hj
   ·exact h
  have hjB:0≤x.dZ→∀ f,f<P.pages.length→(bs.set x.dZ.toNat true).getD f false=((P.gs i).maps.take (k+1)).any fun y=>decide (y.dZ=(f:Int)):=fun h0 f hf=>by
   rw[bL7 hlt,bZ0,←BH f hf,bG',bR9,←hxk];by_cases e:x.dZ.toNat=f
   ·simp[e,show x.dZ=(f:Int) by omega,hbs,hf]
   ·simp[e,show ¬ x.dZ=(f:Int) by omega]
  rcases bU1 k with hk0 | hk0
  ·have hk0':decide (0<(k:Int))=false:=by simp;omega
   refine aZ ?_;simp only[hk0'];refine aZ ?_;refine eG (fun h1 wc hG=>fQ _ _ _ wc) ?_;cases hb2:PtD.cZ x.dZ 0 ((P.pages.length:Int)-1)
   ·refine aZ ?_;refine aC ?_;refine ah _ rfl (fun hc=>?_) (fun hc=>absurd hc bA6);refine run ?_;refine fin1 ?_;rw[hno (by rw[hmd,hb2];simp)]
   have hb2':=hb2;simp only[PtD.cZ,bG8,decide_eq_true_eq] at hb2';have hs:=hload hb2;refine aZ ?_;refine aC ?_;refine ah _ rfl (fun hc=>?_) (fun hc=>?_)
   ·refine run ?_;refine fin1 ?_;rw[hno bF0]
   ·refine run ?_;rw[←bM'];refine aF (k+1,bs.set x.dZ.toNat true) ⟨by omega,by simpa using hbs,hjA (by rw[hmd,hb2,show decide (k=0)=true by simpa using hk0];simp at hc;simpa using hc),hjB bA4⟩
  have an3:=LQ hrow hlt hk0;have hk0':decide (0<(k:Int))=true:=by simp;omega
  refine aZ ?_;simp only[hk0'];cases hc2:decide (x.mid≤((P.gs i).maps.getD (k-1) default).mid)
  ·refine eG (fun h1 wc hG=>fQ _ _ _ wc) ?_;cases hb2:PtD.cZ x.dZ 0 ((P.pages.length:Int)-1)
   ·refine aZ ?_;refine aC ?_;refine ah _ rfl (fun hc=>?_) (fun hc=>absurd hc bA6);refine run ?_;refine fin1 ?_;rw[hno (by rw[hmd,hb2];simp)]
   have hb2':=hb2;simp only[PtD.cZ,bG8,decide_eq_true_eq] at hb2';have hs:=hload hb2;refine aZ ?_;refine aC ?_;refine ah _ rfl (fun hc=>?_) (fun hc=>?_)
   ·refine run ?_;refine fin1 ?_;rw[hno bF0]
   ·refine run ?_;rw[←bM'];refine aF (k+1,bs.set x.dZ.toNat true) ⟨by omega,by simpa using hbs,hjA (by rw[hmd,hb2,show decide (((P.gs i).maps.getD (k-1) default).mid<x.mid)=true by simp at hc2 ⊢;omega];simp at hc;simpa using hc),hjB bA4⟩
  ·refine aZ ?_;refine aC ?_;refine ah _ rfl (fun hc=>?_) (fun hc=>absurd hc bA6);refine run ?_;refine fin1 ?_;rw[hno (by rw[hmd,show decide (((P.gs i).maps.getD (k-1) default).mid<x.mid)=false by simp at hc2 ⊢;omega,show decide (k=0)=false by simp;omega];simp)]
 ·have hge:k=(P.gs i).maps.length:=by simp at hc;omega
  subst hge;rw[bM6] at BH
  have an4:P.mapped i=allB P.pages.length fun f=>(bs.getD f false) == P.uses ((i:Int)+1) f:=by
   unfold PtD.mapped;rw[show allB (P.gs i).maps.length (PtD.oC (P.gs i).maps P.pages.length)=true from aI.2 hall,bH6];rw[bH4,aI,aI];exact⟨fun h f hf=>by rw[BH f hf];exact h f hf,fun h f hf=>by rw[←BH f hf];exact h f hf⟩
  refine run ?_;refine aK (σ:=Nat) (fun k=>[(76,.int .i64 (k:Int))]) (fun _=>[⟨b,(bs.map Value.bool).toArray,4⟩]) (fun k=>k≤P.pages.length∧∀ j,j<k→(bs.getD j false == P.uses ((i:Int)+1) j)=true) (fun k=>P.pages.length-k) 0 ⟨by omega,fun j hj=>absurd hj bA4⟩ ?_;rintro k m2 hm2 ⟨hk2,uw⟩;refine run ?_;refine ah _ rfl (fun hc=>?_) (fun hc=>?_)
  ·have hlt:k<P.pages.length:=by simp at hc;omega
   have hs:nth (List.map Value.bool bs).toArray.toList k=some (.bool (bs.getD k false)):=by
    rw[mZ];have hl:k<bs.length:=by omega
    simp[bH0 hl]
   refine run ?_;refine az (fun wc hG=>ax9 (h.good hG) k hlt n) ?_;refine run ?_;rw[hn];refine ah _ rfl (fun hc3=>?_) (fun hc3=>?_)
   ·refine run ?_;refine fin1 ?_
    rw[an4,show (allB P.pages.length fun f=>(bs.getD f false) == P.uses ((i:Int)+1) f)=false by
     rw[←bK',aI];intro ha;have:=ha k hlt;rw[beq_iff_eq] at this;rw[this] at hc3;simp at hc3]
   ·refine run ?_;refine aF (k+1) ⟨by omega,fun j hj=>?_⟩;rcases bI1.1 hj with hj | rfl
    ·exact uw j hj
    ·simpa [bne] using hc3
  ·have hge:k=P.pages.length:=by simp at hc;omega
   subst hge;refine run ?_;refine fin1 ?_;rw[an4,aI.2 uw]
end
end
section
attribute [local irreducible] Hy St Ops DH dI
section
variable {w : World} {bp : Nat} {L : JO} {P : PtD}
theorem TY(h:ry w bp L P)(i:Nat)(hi:i<P.ay.length)(n:Int)(hn:n=(i:Int)+1):Fn Tryz.prog 198 [.pointer (some ⟨bp,0,none⟩),.int .i64 n].toArray w [] (fun u _=>u=.bool (P.lD i)):=by
 have hp:=h.cp;have ho:=h.co;have hp0:=h.n.p0;have hp1:=h.n.p1;have ho1:=h.n.o1;obtain⟨q,cap,hmv,hne,hle⟩:=(h.v.mp i hi).opened;obtain⟨q2,cap2,hvv,hne2,hle2⟩:=(h.v.vc i hi).opened;obtain⟨⟨hf0,hf1⟩,_,_⟩:=h.v.wf.gs i hi;have hg0:=h.v.gs0 hi;have hg1:=h.v.gs1 hi;have hg2:=h.v.gs2 hi;have hg3:=h.v.gs3 hi;have hg4:=h.v.gs4 hi;rw[hmv] at hg4;rw[hvv] at hg3;have hrow:=h.v.vc i hi;rw[hvv] at hrow;refine enter Tryz.func198 ?_;refine run ?_;refine az (fun wc hG=>tX (h.good hG) i hi n hn) ?_;refine run ?_;refine ah _ rfl (fun hl=>?_) (fun hl=>?_)
 ·simp only[bI8] at hl;refine run ?_;refine eP 34 ?_;refine aZ ?_;refine eG (fun h1 wc hG=>ax' (h.good hG) n) ?_;refine aZ ?_;refine aC ?_;refine fin1 ?_;rw[hn];simp only[PtD.lD,hl,cond_false];by_cases hf:(P.gs i).first=0
  ·have hw:IntKind.i64.wrap ((((P.gs i).aP.length:Nat):Int)+(((P.gs i).maps.length:Nat):Int)+0)=(((P.gs i).aP.length:Nat):Int)+(((P.gs i).maps.length:Nat):Int)+0:=wrap_in bA4 bA4;rw[hf,hw]
   have e:decide ((((P.gs i).aP.length:Nat):Int)+(((P.gs i).maps.length:Nat):Int)+0=0)=(decide ((P.gs i).aP.length=0)&&decide ((P.gs i).maps.length=0)):=by
    rw[bH4];simp only[bG8,decide_eq_true_eq];omega
   rw[e]
  ·simp[hf]
 ·simp only[bJ7] at hl;refine run ?_;refine di ?_;refine aZ ?_;refine eG (fun h1 wc hG=>fQ _ _ _ wc) ?_;refine aZ ?_;refine eG (fun h1 wc hG=>XP (h.good hG) i hi n hn) ?_;refine aZ ?_;refine aC ?_;have hgd:P.lD i=(!(P.gs i).dying&&PtD.cZ (P.gs i).first 16 ((P.pages.length:Int)-5)&&decide ((P.gs i).aP.length≤2)&&P.mapped i&&allB 5 (fun k=>decide ((P.pg ((P.gs i).first.toNat+k)).own= -1)&&decide ((P.pg ((P.gs i).first.toNat+k)).wit= -2))&&allB (P.gs i).aP.length (P.nC i)):=by simp only[PtD.lD,hl,cond_true]
  refine ah _ rfl (fun hc=>?_) (fun hc=>?_)
  ·refine run ?_;refine fin1 ?_;rw[hgd];have e:decide ((P.gs i).aP.length≤2)=!decide ((2:Int)<((P.gs i).aP.length:Nat)):=by rw[bH4];simp;omega
   rw[e];revert hc;cases (P.gs i).dying<;>cases PtD.cZ (P.gs i).first 16 ((P.pages.length:Int)-5)<;>cases decide ((2:Int)<((P.gs i).aP.length:Nat))<;>cases P.mapped i<;>simp
  simp only[bJ9,bJ7,decide_eq_false_iff_not] at hc;obtain⟨⟨⟨hdy,hbt⟩,hv2⟩,hmp⟩:=hc;have aW6:=hbt;simp only[PtD.cZ,bG8,decide_eq_true_eq] at aW6;rw[hdy,hbt,hmp,show decide ((P.gs i).aP.length≤2)=true by simp;omega] at hgd;simp only[bK3,bH6] at hgd;refine run ?_;refine bH (fun wc hG=>LP _ _ (P.gs i).first bA4 bA4 wc (hG.cell hg2 bA6)) (fun v hn hA=>?_);obtain⟨T,tc,cur,rfl,rfl,KA⟩:=hA.open bA6;simp only[bH2,bH5,bG9,bK8,bR0,bJ4,Nat.reduceAdd];refine run ?_;refine aK (σ:=Nat) (fun k=>[(88,.int .i64 (k:Int))]) (fun _=>[⟨T,cur,3⟩]) (fun k=>k≤5∧∀ j,j<k→(decide ((P.pg ((P.gs i).first.toNat+j)).own= -1)&&decide ((P.pg ((P.gs i).first.toNat+j)).wit= -2))=true) (fun k=>5-k) 0 ⟨by omega,fun j hj=>absurd hj bA4⟩ ?_;rintro k m hm ⟨hk,hall⟩;refine run ?_;refine ah _ rfl (fun hc=>?_) (fun hc=>?_)
  ·have hlt:k<5:=by simp at hc;omega
   have hx:nth cur.toList k=some (.int .i64 ((P.gs i).first+(k:Int))):=by
    have h1:([(P.gs i).first,(P.gs i).first+1,(P.gs i).first+2,(P.gs i).first+3,(P.gs i).first+4].map bY)[k]?=some (bY ((P.gs i).first+(k:Int))):=by
     have:k=0∨k=1∨k=2∨k=3∨k=4:=by omega
     rcases this with rfl | rfl | rfl | rfl | rfl<;>simp
    have:=xx (k:=0) (KA k _ h1) rfl;simpa using this
   have hr:=h.v.pg ((P.gs i).first.toNat+k) bA4;rw[show (P.gs i).first.toNat+k=((P.gs i).first+(k:Int)).toNat by omega] at hr;refine run ?_;refine di ?_;refine dF ?_;refine fB (fun wc hG=>OM wc) ?_;refine dF ?_;refine run ?_;rw[show ((P.gs i).first+(k:Int)).toNat=(P.gs i).first.toNat+k by omega];refine ah _ rfl (fun hc=>?_) (fun hc=>?_)
   ·refine run ?_;refine fin1 ?_;rw[hgd]
    rw[show allB 5 (fun k=>decide ((P.pg ((P.gs i).first.toNat+k)).own= -1)&&decide ((P.pg ((P.gs i).first.toNat+k)).wit= -2))=false by
     rw[←bK',aI];intro ha;have:=ha k hlt;simp[aW,iH] at hc this;simp[this] at hc]
    rfl
   ·refine run ?_;refine aF (k+1) ⟨by omega,fun j hj=>?_⟩;rcases bI1.1 hj with hj | rfl
    ·exact hall j hj
    ·simpa [aW,iH] using hc
  ·have hge:k=5:=by simp at hc;omega
   subst hge;rw[show allB 5 (fun k=>decide ((P.pg ((P.gs i).first.toNat+k)).own= -1)&&decide ((P.pg ((P.gs i).first.toNat+k)).wit= -2))=true from aI.2 hall,bH6] at hgd;refine run ?_;refine aK (σ:=Nat) (fun k=>[(108,.int .i64 (k:Int))]) (fun _=>[]) (fun k=>k≤(P.gs i).aP.length∧∀ j,j<k→P.nC i j=true) (fun k=>(P.gs i).aP.length-k) 0 ⟨by omega,fun j hj=>absurd hj bA4⟩ ?_;rintro k m hm ⟨hk,uw⟩;refine run ?_;refine ah _ rfl (fun hc=>?_) (fun hc=>?_)
   ·have hlt:k<(P.gs i).aP.length:=by simp at hc;omega
    obtain⟨b2,o2,rfl⟩:=hne2 bC3;have hx:=ak (hrow.row hlt);rw[bJ5] at hx;have hva:P.nC i k=(decide ((P.gs i).aP.getD k 0= -1)||(PtD.cZ ((P.gs i).aP.getD k 0) 0 ((P.on.length:Int)-1)&&(decide ((P.st ((P.gs i).aP.getD k 0).toNat).vm=(i:Int)+1)&&decide ((P.st ((P.gs i).aP.getD k 0).toNat).cpu=(k:Int))))):=rfl;rw[show (default:Int)=0 from rfl] at hx;generalize (P.gs i).aP.getD k 0=x at hx hva
    have hno:P.nC i k=false→P.lD i=false:=fun h=>by
     rw[hgd,←bK',aI];intro ha;rw[ha k hlt] at h;cases h
    have hyes:P.nC i k=true→∀ j,j<k+1→P.nC i j=true:=fun h j hj=>by
     rcases bI1.1 hj with hj | rfl
     ·exact uw j hj
     ·exact h
    refine run ?_;cases hd:decide (x= -1)
    ·refine aC ?_;refine bG (fun h1 wc hG=>fQ _ _ _ wc) ?_;cases hb:PtD.cZ x 0 ((P.on.length:Int)-1)
     ·refine aC ?_;refine ah _ rfl (fun hc=>?_) (fun hc=>absurd hc bA6);refine run ?_;refine fin1 ?_;rw[hno (by rw[hva,hd,hb];rfl)]
     ·have hb':=hb;simp only[PtD.cZ,bG8,decide_eq_true_eq] at hb';have hr:=h.v.st x.toNat bA4;refine aC ?_;refine ah _ rfl (fun hc=>?_) (fun hc=>?_)
      ·refine run ?_;refine fin1 ?_;rw[hno (by rw[hva,hd,hb];rw[hn] at hc;simp[aW,iH] at hc;simp;intro h1 h2;rcases hc with hc | hc<;>contradiction)]
      ·refine run ?_;refine aF (k+1) ⟨by omega,hyes (by rw[hva,hd,hb];rw[hn] at hc;simpa [aW,iH] using hc)⟩
    ·refine aC ?_;refine ah _ rfl (fun hc=>absurd hc bA6) (fun hc=>?_);refine run ?_;refine aF (k+1) ⟨by omega,hyes (by rw[hva,hd];rfl)⟩
   ·have hge:k=(P.gs i).aP.length:=by simp at hc;omega
    subst hge;rw[aI.2 uw] at hgd;refine run ?_;refine fin1 ?_;rw[hgd]
end
end
section
attribute [local irreducible] Hy St Ops DH dI
theorem aJ.ae4{r:Hp}:∀ {h h':Hp},h.Perm h'→aJ r h→aJ r h':=by
 cases r with
 | nil=>intros;trivial
 | cons e r=>
  rintro h h' hp ⟨x,h1,h2⟩;exact⟨x,h1.trans hp,h2⟩
theorem XQ(hlt:k<5):([f,f+1,f+2,f+3,f+4].map bY)[k]?=some (bY (f+(k:Int))):=by
 have:k=0∨k=1∨k=2∨k=3∨k=4:=by omega
 rcases this with rfl | rfl | rfl | rfl | rfl<;>simp
theorem aL2{pv gv ov:Value}{P:PtD}{bp:Nat}(h:dN w pv gv ov P)(c0:w.cell? ⟨bp,0,none⟩=some pv)(c1:w.cell? ⟨bp,1,none⟩=some gv)(c2:w.cell? ⟨bp,2,none⟩=some ov):
  Fn Tryz.prog 120 [.pointer (some ⟨bp,0,none⟩)].toArray w [] (fun u _=>u=.bool P.may):=by
 obtain⟨p,pc,e1,_,hle1⟩:=h.pages.opened;obtain⟨o,oc,e3,_,hle3⟩:=h.on.opened
 obtain⟨g,gc,e2,hle2⟩:∃ g gc,gv=.slice g P.ay.length gc∧P.ay.length≤281474976710656:=by
  obtain⟨vv,mv,⟨⟨g,gc,e,_⟩,hl⟩,_⟩:=h.ay;simp only[bG9,bN2] at e hl;exact⟨g,gc,e,hl⟩
 have c0':=c0;have c1':=c1;have c2':=c2;rw[e1] at c0';rw[e2] at c1';rw[e3] at c2';refine enter Tryz.func120 ?_;refine run ?_;refine az (fun wc hG=>fQ _ _ _ wc) ?_;refine aC ?_;refine bG (fun h1 wc hG=>fQ _ _ _ wc) ?_;refine aC ?_
 have hlen:(!(PtD.cZ (P.pages.length:Int) 24 64)||!decide ((P.ay.length:Int)=4)||!(PtD.cZ (P.on.length:Int) 1 3))=false→P.Len:=fun h=>by
  simp only[bJ9,bJ7,PtD.cZ,bG8,decide_eq_true_eq] at h;exact⟨by omega,by omega,by omega,by omega,by omega⟩
 refine ah _ rfl (fun hc=>?_) (fun hc=>?_)
 ·refine run ?_;refine fin1 ?_
  have:P.may=false:=by
   rw[←bK'];intro hm;simp only[PtD.may,bG8,decide_eq_true_eq] at hm;obtain⟨⟨⟨⟨⟨a,b⟩,c,d⟩,_⟩,_⟩,_⟩:=hm;simp only[PtD.cZ,bI9,bI8,bM9,decide_eq_false_iff_not,bQ1] at hc;omega
  rw[this]
 have hn:=hlen (by simpa using hc);obtain⟨L,rfl,rfl,rfl,hv⟩:=h.open hn;have hQ:ry w bp L P:=⟨hv,hn,c0,c1,c2⟩
 cases e1;cases e2;cases e3
 have hmay:P.may=(allB 4 P.round&&allB P.pages.length (P.oz (P.taken 4))&&allB P.on.length P.seated):=by
  obtain⟨a,b,c,d,e⟩:=hn;simp only[PtD.may,a,b,c,d,e,decide_true,bQ0,bH6]
 have h4:=hn.g4;refine run ?_;refine aK (σ:=Nat×Value×Hp) (fun s=>[(3,s.2.1),(37,.int .i64 (s.1:Int))]) (fun s=>s.2.2) (fun s=>s.1≤5∧(∀ j,j<s.1-1→P.round j=true)∧Acc 3 1 s.2.1 s.2.2 ((P.taken (s.1-1)).map bY)) (fun s=>5-s.1) (0,_,[]) ⟨by omega,fun j hj=>absurd hj bA4,Acc.nil _ _⟩ ?_;rintro⟨k,tv,ha⟩ m hm ⟨hk,hall,hA⟩;dsimp only at hm hk hall hA ⊢;refine run ?_;refine ah _ rfl (fun hc=>?_) (fun hc=>?_)
 ·have hlt:k<5:=by simp at hc;omega
  refine run ?_;refine ah _ rfl (fun hc=>?_) (fun hc=>?_)
  ·have hk0:k=0:=by simp at hc;omega
   subst hk0;refine run ?_;refine aF (1,tv,ha) ⟨by omega,fun j hj=>absurd hj bA6,hA⟩
  have hk0:0<k:=by simp at hc;omega
  obtain⟨i,rfl⟩:∃ i,k=i+1:=⟨k-1,by omega⟩
  rw[bU2] at hall hA
  have hno:P.round i=false→allB 4 P.round=false:=fun h=>by
   rw[←bK',aI];intro ha;rw[ha i bA4] at h;cases h
  have hyes:P.round i=true→∀ j,j<i+1→P.round j=true:=fun h j hj=>by
   rcases bI1.1 hj with hj | rfl
   ·exact hall j hj
   ·exact h
  refine run ?_;refine az (fun wc hG=>TY (hQ.good hG) i bA4 ((i+1:Nat):Int) bA4) ?_;refine run ?_;refine ah _ rfl (fun hc=>?_) (fun hc=>?_)
  ·refine run ?_;refine fin1 ?_;simp only[bI8] at hc;rw[hmay,hno (by rw[PtD.round,hc];rfl)];rfl
  simp only[bJ7] at hc;have hg0:=hv.gs0 (i:=i) bA4;refine run ?_;refine az (fun wc hG=>tX (hQ.good hG) i bA4 ((i+1:Nat):Int) bA4) ?_;refine run ?_;refine ah _ rfl (fun hl=>?_) (fun hl=>?_)
  ·have hf:16≤(P.gs i).first∧(P.gs i).first≤(P.pages.length:Int)-5:=by
    have:=hc;simp only[PtD.lD,hl,cond_true,PtD.cZ,bG8,decide_eq_true_eq] at this;exact this.1.1.1.1.2
   have hp1:=hn.p1;have hrow:P.rows i=[(P.gs i).first,(P.gs i).first+1,(P.gs i).first+2,(P.gs i).first+3,(P.gs i).first+4]:=by rw[PtD.rows,hl];rfl
   have hrd:P.round i=allB 5 fun k=>!((P.taken i).any fun t=>decide (t=(P.gs i).first+(k:Int))):=by rw[PtD.round,hc,hl];rfl
   refine run ?_;refine bH (fun wc hG=>LP _ _ (P.gs i).first bA4 bA4 wc (hG.cell (hv.gs2 (i:=i) bA4) bA6)) (fun v hn hA2=>?_);obtain⟨T,tc,cur,rfl,rfl,KA⟩:=hA2.open bA6;simp only[bH2,bH5,bG9,bK8,bR0,bJ4,Nat.reduceAdd];refine run ?_;refine aK (σ:=Nat×Value×Hp) (fun s=>[(3,s.2.1),(56,.int .i64 (s.1:Int))]) (fun s=>⟨T,cur,3⟩::s.2.2) (fun s=>s.1≤5∧(∀ j,j<s.1→((P.taken i).any fun t=>decide (t=(P.gs i).first+(j:Int)))=false)∧Acc 3 1 s.2.1 s.2.2 ((P.taken i++(List.range s.1).map fun (j:Nat)=>(P.gs i).first+(j:Int)).map bY)) (fun s=>5-s.1) (0,tv,ha) ⟨by omega,fun j hj=>absurd hj bA6,by simpa using hA⟩ ?_;rintro⟨k2,tv2,ha2⟩ m2 hm2 ⟨hk2,uw,hA3⟩;dsimp only at hm2 hk2 uw hA3 ⊢
   have hlen3:((P.taken i++(List.range k2).map fun (j:Nat)=>(P.gs i).first+(j:Int)).map bY).length≤1000:=by
    have hl:∀ m,m≤4→(P.taken m).length≤m*5:=by
     intro m
     induction m with
     | zero=>intro _;simp[PtD.taken]
     | succ m ih=>
      intro hm;have:=ih bA4;rw[PtD.taken,bN7,bW',bJ0]
      have e:(List.flatMap P.rows [m]).length≤5:=by
       simp only[List.flatMap_cons,List.flatMap_nil,bI3,PtD.rows];cases (P.gs m).live<;>simp
      unfold PtD.taken at this;omega
    have:=hl i bA4;simp only[bG9,bJ0,bN2];omega
   refine run ?_;refine ah _ rfl (fun hc=>?_) (fun hc=>?_)
   ·have hlt2:k2<5:=by simp at hc;omega
    have hx:nth cur.toList k2=some (.int .i64 ((P.gs i).first+(k2:Int))):=by
     have:=xx (k:=0) (KA k2 _ (XQ hlt2)) rfl;simpa using this
    refine run ?_;refine az (fun wc hG=>vF ((P.gs i).first+(k2:Int)) _ tv2 (hA3.aH8 hG (fun b hb=>bH8 _ hb) bA4)) ?_;refine run ?_
    have hany:((P.taken i++(List.range k2).map fun (j:Nat)=>(P.gs i).first+(j:Int)).any fun t=>decide (t=(P.gs i).first+(k2:Int)))=(P.taken i).any fun t=>decide (t=(P.gs i).first+(k2:Int)):=by
     rw[bZ0]
     have:((List.range k2).map fun (j:Nat)=>(P.gs i).first+(j:Int)).any (fun t=>decide (t=(P.gs i).first+(k2:Int)))=false:=by
      rw[bR8];intro x hx;obtain⟨j,hj,rfl⟩:=bH9.1 hx;have:=bI2.1 hj;simp;omega
     rw[this,bT5]
    rw[hany];refine ah _ rfl (fun hc=>?_) (fun hc=>?_)
    ·refine run ?_;refine fin1 ?_;rw[hmay,hno (by rw[hrd,←bK',aI];intro h;have:=h k2 hlt2;rw[hc] at this;cases this)];rfl
    ·refine run ?_;intro X;refine dK (c:=bY ((P.gs i).first+(k2:Int))) hA3 (fun v' ha' hA'=>?_) bA4 (aY (m:=1) mh rfl) (hperm:=bI7 (l₂:=[_,_]));refine run ?_;refine aF (k2+1,v',ha') ⟨by omega,fun j hj=>?_,?_⟩ (h2:=aJ.ae4 (bI7 (l₁:=[_,_])) ⟨_,p1,aJ.skip (aJ.refl _)⟩)
     ·rcases bI1.1 hj with hj | rfl
      ·exact uw j hj
      ·exact hc
     ·simpa [bN7] using hA'
   ·have hk5:k2=5:=by simp at hc;omega
    subst hk5;refine run ?_;refine aF (i+2,tv2,ha2) ⟨by omega,hyes (by rw[hrd,aI];intro j hj;rw[uw j hj];rfl),?_⟩
    have:P.taken (i+2-1)=P.taken i++(List.range 5).map fun (j:Nat)=>(P.gs i).first+(j:Int):=by
     show P.taken (i+1)=_;rw[PtD.taken,bN7,bW'];simp[hrow,PtD.taken,bN7]
    rw[this];exact hA3
  ·refine run ?_;refine aF (i+2,tv,ha) ⟨by omega,hyes (by rw[PtD.round,hc,hl];rfl),?_⟩
   have:P.taken (i+2-1)=P.taken i:=by
    show P.taken (i+1)=_;rw[PtD.taken,bN7,bW'];simp[PtD.rows,hl,PtD.taken]
   rw[this];exact hA
 ·have hk5:k=5:=by simp at hc;omega
  subst hk5;rw[show allB 4 P.round=true from aI.2 hall,bH6] at hmay
  have hlA:((P.taken (5-1)).map bY).length≤281474976710656:=by
   rw[bG9]
   have hl:∀ m,(P.taken m).length≤m*5:=by
    intro m
    induction m with
    | zero=>simp[PtD.taken]
    | succ m ih=>
     rw[PtD.taken,bN7,bW',bJ0]
     have e:(List.flatMap P.rows [m]).length≤5:=by
      simp only[List.flatMap_cons,List.flatMap_nil,bI3,PtD.rows];cases (P.gs m).live<;>simp
     unfold PtD.taken at ih;omega
   have:=hl (5-1);omega
  refine run ?_;refine aK (σ:=Nat) (fun k=>[(75,.int .i64 (k:Int))]) (fun _=>ha) (fun k=>k≤P.pages.length∧∀ j,j<k→P.oz (P.taken 4) j=true) (fun k=>P.pages.length-k) 0 ⟨by omega,fun j hj=>absurd hj bA4⟩ ?_;rintro k m2 hm2 ⟨hk2,uw⟩;refine run ?_;refine ah _ rfl (fun hc=>?_) (fun hc=>?_)
  ·have hlt:k<P.pages.length:=by simp at hc;omega
   refine run ?_;refine az (fun wc hG=>ae3 (hQ.good hG) k hlt (P.taken 4) tv (hA.aH8 hG (fun b hb=>hb) hlA)) ?_;refine run ?_;refine ah _ rfl (fun hc3=>?_) (fun hc3=>?_)
   ·refine run ?_;refine fin1 ?_
    rw[hmay,show allB P.pages.length (P.oz (P.taken 4))=false by
     rw[←bK',aI];intro h;rw[h k hlt] at hc3;simp at hc3]
    rfl
   ·refine run ?_;refine aF (k+1) ⟨by omega,fun j hj=>?_⟩;rcases bI1.1 hj with hj | rfl
    ·exact uw j hj
    ·simpa using hc3
  have hge:k=P.pages.length:=by simp at hc;omega
  subst hge;rw[show allB P.pages.length (P.oz (P.taken 4))=true from aI.2 uw,bH6] at hmay;refine run ?_;refine aK (σ:=Nat) (fun k=>[(90,.int .i64 (k:Int))]) (fun _=>[]) (fun k=>k≤P.on.length∧∀ j,j<k→P.seated j=true) (fun k=>P.on.length-k) 0 ⟨by omega,fun j hj=>absurd hj bA4⟩ ?_;rintro k m3 QV ⟨hk3,an5⟩;refine run ?_;refine ah _ rfl (fun hc=>?_) (fun hc=>?_)
  ·have hlt:k<P.on.length:=by simp at hc;omega
   refine run ?_;refine az (fun wc hG=>XN (hQ.good hG) k hlt) ?_;refine run ?_;refine ah _ rfl (fun hc3=>?_) (fun hc3=>?_)
   ·refine run ?_;refine fin1 ?_
    rw[hmay,show allB P.on.length P.seated=false by
     rw[←bK',aI];intro h;rw[h k hlt] at hc3;simp at hc3]
   ·refine run ?_;refine aF (k+1) ⟨by omega,fun j hj=>?_⟩;rcases bI1.1 hj with hj | rfl
    ·exact an5 j hj
    ·simpa using hc3
  have hge:k=P.on.length:=by simp at hc;omega
  subst hge;refine run ?_;refine fin1 ?_;rw[hmay,aI.2 an5]
end
section
attribute [local irreducible] Hy St Ops DH dI
section
variable {w : World} {pv gv ov : Value} {P : PtD}
theorem LU{w0 w:World}{mu:List Nat}{hp:Hp}(hG:Good w0 mu hp w){t:Nat}{x y z:Value}(hm:(⟨b,#[x,y,z],t⟩:mP)∈hp):w.cell? ⟨b,0,none⟩=some x∧w.cell? ⟨b,1,none⟩=some y∧w.cell? ⟨b,2,none⟩=some z:=by
 have h:=hG.here _ hm;refine⟨?_,?_,?_⟩<;>(rw[cell_of_block h];rfl)
theorem wJ(h:P.may=true):P.Len:=by
 simp only[PtD.may,bG8,decide_eq_true_eq] at h;exact⟨by omega,by omega,by omega,by omega,by omega⟩
theorem XR(h:dN w pv gv ov P){w':World}{hp:Hp}(hG:Good w [] hp w'){t:Nat}(hm:(⟨b,#[pv,gv,ov],t⟩:mP)∈hp):Fn Tryz.prog 120 [.pointer (some ⟨b,0,none⟩)].toArray w' [] (fun u _=>u=.bool P.may):=by
 obtain⟨a,b,c⟩:=LU hG hm;exact aL2 (h.good hG) a b c
end
end
section
attribute [local irreducible] Hy St Ops DH dI
theorem an6(n:Int)(w:World):Fn Tryz.prog 45 [.int .i64 n].toArray w [] (fun u _=>u=.bool (PtD.who n)):=by
 refine enter Tryz.func45 ?_;refine aC ?_;exact fin1 rfl
theorem Jk(n m:Int)(w:World):Fn Tryz.prog 96 [.int .i64 n,.int .i64 m].toArray w [] (fun u _=>u=.bool (decide (0≤n)&&decide (n≤m))):=by
 refine enter Tryz.func96 ?_;refine aC ?_;exact fin1 rfl
theorem AU(xs:List jT)(v:Value)(w:World)(h:aA w v 2 (xs.map eu))(f:Int):Fn Tryz.prog 103 [v,.int .i64 f].toArray w [] (fun u _=>u=.int .i64 (PtD.lF xs f)):=by
 obtain⟨q,cap,rfl,hne,hle⟩:=h.opened;refine enter Tryz.func103 ?_;refine run ?_;refine aK (σ:=Nat) (fun k=>[(5,.int .i64 (k:Int))]) (fun _=>[]) (fun k=>k≤xs.length∧∀ j,j<k→decide ((xs.getD j default).dZ=f)=false) (fun k=>xs.length-k) 0 ⟨bH3 _,fun j hj=>absurd hj bA4⟩ ?_;rintro k m hm ⟨hk,hno⟩;refine run ?_;refine ah _ rfl (fun hc=>?_) (fun hc=>?_)
 ·have hlt:k<xs.length:=by simp at hc;omega
  obtain⟨b,o,rfl⟩:=hne bA8;have h1:=cO (k:=1) (h.row hlt) rfl;refine run ?_;refine ah _ rfl (fun hp=>?_) (fun hp=>?_)
  ·refine run ?_;refine fin1 ?_;simp only[PtD.lF,(PtD.DX (p:=fun m=>decide (m.dZ=f)) hlt hp).2 hno]
  ·refine run ?_;refine aF (k+1) ⟨hlt,fun j hj=>?_⟩;rcases bI1.1 hj with hj | rfl
   ·exact hno j hj
   ·exact hp
 ·have hge:k=xs.length:=by simp at hc;omega
  subst hge;refine run ?_;refine fin1 ?_;unfold PtD.lF;rw[D6 (p:=fun (m:jT)=>decide (m.dZ=f)) hno]
section
variable {w : World} {L : JO} {P : PtD}
theorem LV(h:jo w L P)(n m:Nat)(vm:Int)(hvm:I64 vm):Fn Tryz.prog 47 [.agg #[L.pv n,L.gv P.ay.length,L.ov m],.int .i64 vm].toArray w [] (fun u _=>u=.bool (P.pO vm)):=by
 obtain⟨hv0,hv1⟩:=hvm;refine enter Tryz.func47 ?_;refine run ?_;intro B;by_cases hin:1≤vm∧vm≤P.ay.length
 ·have h0:=h.gs0 (i:=(vm-1).toNat) bA4;refine aC ?_;refine fin1 ?_;simp only[PtD.pO]
 ·have hf:(decide (1≤vm)&&decide (vm≤(P.ay.length:Int)))=false:=by
   rw[←bK'];intro h;simp at h;exact hin h
  refine aC ?_;rw[hf];refine aC ?_;refine fin1 ?_;rw[PtD.pO,hf];rfl
theorem G5(h:jo w L P)(n m:Nat)(hn:P.ay.length≤1000)(f:Int)(hf:I64 f):Fn Tryz.prog 46 [.agg #[L.pv n,L.gv P.ay.length,L.ov m],.int .i64 f].toArray w [] (fun u _=>u=.int .i64 (P.jH f)):=by
 obtain⟨hv0,hv1⟩:=hf;refine enter Tryz.func46 ?_;refine run ?_;intro B;refine run ?_;refine aK (σ:=Nat) (fun k=>[(5,.int .i64 (k:Int))]) (fun _=>[⟨B,#[L.pv n,L.gv P.ay.length,L.ov m],48⟩]) (fun k=>k≤P.ay.length∧∀ j,j<k→PtD.within f (P.gs j)=false) (fun k=>P.ay.length-k) 0 ⟨bH3 _,fun j hj=>absurd hj bA4⟩ ?_;rintro k m hm ⟨hk,hno⟩;refine run ?_;refine ah _ rfl (fun hc=>?_) (fun hc=>?_)
 ·have hlt:k<P.ay.length:=by simp at hc;omega
  have hr:=h.gs k hlt;obtain⟨q,cap,hmv,_⟩:=(h.mp k hlt).opened;obtain⟨q2,cap2,hvv,_⟩:=(h.vc k hlt).opened;rw[hmv,hvv] at hr;refine run ?_;intro G;refine aC ?_;have hw:((P.gs k).live&&decide ((P.gs k).first≤f)&&decide (IntKind.i64.wrap (f-(P.gs k).first)<5))=PtD.within f (P.gs k):=rfl;refine ah _ rfl (fun hp=>?_) (fun hp=>?_)
  ·refine run ?_;refine fin1 ?_;unfold PtD.jH;rw[(PtD.DX (p:=PtD.within f) hlt hp).2 hno];simp
  ·refine run ?_;refine aF (k+1) ⟨hlt,fun j hj=>?_⟩;rcases bI1.1 hj with hj | rfl
   ·exact hno j hj
   ·exact hp
 ·have hge:k=P.ay.length:=by simp at hc;omega
  subst hge;refine run ?_;refine fin1 ?_;unfold PtD.jH;rw[D6 (p:=PtD.within f) hno]
end
end
section
attribute [local irreducible] Hy St Ops DH dI
section
variable {w : World} {L : JO} {P : PtD}
set_option maxHeartbeats 4000000 in
theorem O8(h:jo w L P)(hn:P.Len)(i:Nat)(hi:i<P.ay.length)(vm:Int)(hvm:vm=(i:Int)+1):Fn Tryz.prog 48 [.agg #[L.pv P.pages.length,L.gv P.ay.length,L.ov P.on.length],.int .i64 vm].toArray w [] (fun u _=>u=.bool (P.oJ i)):=by
 obtain⟨np0,np1,ng4,no0,no1⟩:=hn;have hr:=h.gs i hi;obtain⟨q,cap,hmv,hne,hle⟩:=(h.mp i hi).opened;obtain⟨q2,cap2,hvv,hne2,hle2⟩:=(h.vc i hi).opened;obtain⟨⟨hf0,hf1⟩,_,_⟩:=h.wf.gs i hi;have hrow:=h.vc i hi;have G6:=h.mp i hi;rw[hvv] at hrow;rw[hmv] at G6;rw[hmv,hvv] at hr;obtain rfl:vm=((i+1:Nat):Int):=by omega
 have hr':w.rangeAt L.gb (L.go+(((i+1:Nat):Int)-1).toNat*5) [.bool (P.gs i).live,.bool (P.gs i).dying,.int .i64 (P.gs i).first,.slice q2 (P.gs i).aP.length cap2,.slice q (P.gs i).maps.length cap]:=by
  rw[show (((i+1:Nat):Int)-1).toNat=i by omega];exact hr
 refine enter Tryz.func48 ?_;refine run ?_;intro B G;refine run ?_;refine aK (σ:=Nat×Nat) (fun s=>[(6,.int .i64 (s.2:Int)),(7,.int .i64 (s.1:Int))]) (fun s=>[⟨G,#[.bool (P.gs i).live,.bool (P.gs i).dying,.int .i64 (P.gs i).first,.slice q2 (P.gs i).aP.length cap2,.slice q (P.gs i).maps.length cap],100⟩,⟨B,#[L.pv P.pages.length,L.gv P.ay.length,L.ov P.on.length],48⟩]) (fun s=>s.1≤P.pages.length∧s.2≤s.1∧decide (0<s.2)=(P.pages.take s.1).any fun x=>decide (x.own=((i+1:Nat):Int))) (fun s=>P.pages.length-s.1) (0,0) ⟨by omega,by omega,by simp⟩ ?_;rintro⟨k,ow⟩ m hm ⟨hk,hok,how⟩;dsimp only at hm hk hok how ⊢;refine run ?_;refine ah _ rfl (fun hc=>?_) (fun hc=>?_)
 ·have hlt:k<P.pages.length:=by simp at hc;omega
  have h0:=h.pg0 hlt
  have htk:P.pages.take (k+1)=P.pages.take k++[P.pg k]:=by
   rw[bL7 hlt,PtD.pg,bG',bH0 hlt];rfl
  refine run ?_;refine ah _ rfl (fun hp=>?_) (fun hp=>?_)
  ·refine run ?_;exact aF (k+1,ow+1) ⟨by dsimp only;omega,by dsimp only;omega,by dsimp only;rw[htk,bZ0,←how];simp at hp;simp[hp]⟩
  ·refine run ?_;exact aF (k+1,ow) ⟨by dsimp only;omega,by dsimp only;omega,by dsimp only;rw[htk,bZ0,←how];simp at hp;simp[hp]⟩
 have hge:k=P.pages.length:=by simp at hc;omega
 subst hge;rw[bM6] at how;have how':decide (0<ow)=P.owns ((i:Int)+1):=how;refine run ?_;refine ah _ rfl (fun hl=>?_) (fun hl=>?_)
 ·simp only[bI8] at hl;refine aC ?_;refine fin1 ?_;simp only[PtD.oJ,hl,cond_false,←how'];simp
 simp only[bJ7] at hl
 have hone:P.oJ i=(!((P.gs i).dying||decide ((P.gs i).first<16)||decide ((P.gs i).first > (P.pages.length:Int)-5)||decide ((P.gs i).aP.length > 2)) &&
  allB 5 (fun k=>decide (P.jH ((P.gs i).first+k)=(i:Int)+1))&&allB (P.ay.length-(i+1)) (fun k=>P.pR i (i+1+k)) &&
  allB (P.gs i).aP.length (P.yH i)&&allB (P.gs i).maps.length (PtD.IG (P.gs i).maps P.pages.length)&&allB P.pages.length (P.II i)):=by simp only[PtD.oJ,hl,cond_true]
 have hv2:decide ((P.gs i).aP.length > 2)=decide ((2:Int)<((P.gs i).aP.length:Nat)):=by rw[decide_eq_decide];omega
 rw[hv2] at hone;refine aC ?_;refine ah _ rfl (fun hc=>?_) (fun hc=>?_)
 ·refine run ?_;refine fin1 ?_;rw[hone,show ((P.gs i).dying||decide ((P.gs i).first<16)||decide ((P.gs i).first > (P.pages.length:Int)-5)||decide ((2:Int)<((P.gs i).aP.length:Nat)))=true from hc];rfl
 rw[show ((P.gs i).dying||decide ((P.gs i).first<16)||decide ((P.gs i).first > (P.pages.length:Int)-5)||decide ((2:Int)<((P.gs i).aP.length:Nat)))=false from hc] at hone;simp only[bK3,bH6] at hone;simp only[bJ9,decide_eq_false_iff_not] at hc;obtain⟨⟨⟨hdy,hb1⟩,hb2⟩,hb3⟩:=hc
 have hno:∀ (n:Nat) (p:Nat→Bool) (k:Nat),k<n→p k=false→allB n p=false:=fun n p k hk h=>by
  rw[←bK',aI];intro ha;rw[ha k hk] at h;cases h
 have hyes:∀ (p:Nat→Bool) (k:Nat),(∀ j,j<k→p j=true)→p k=true→∀ j,j<k+1→p j=true:=fun p k h h2 j hj=>by
  rcases bI1.1 hj with hj | rfl
  ·exact h j hj
  ·exact h2
 refine run ?_;refine aK (σ:=Nat) (fun k=>[(8,.int .i64 ((P.gs i).first+(k:Int)))]) (fun s=>[⟨G,#[.bool (P.gs i).live,.bool (P.gs i).dying,.int .i64 (P.gs i).first,.slice q2 (P.gs i).aP.length cap2,.slice q (P.gs i).maps.length cap],100⟩,⟨B,#[L.pv P.pages.length,L.gv P.ay.length,L.ov P.on.length],48⟩]) (fun k=>k≤5∧∀ j,j<k→decide (P.jH ((P.gs i).first+(j:Int))=(i:Int)+1)=true) (fun k=>5-k) 0 ⟨by omega,fun j hj=>absurd hj bA4⟩ ?_ (hl:=by simp only[Int.natCast_zero,Int.add_zero];(repeat (first | exact True.intro | (refine And.intro bB4 ?_))));rintro k m hm ⟨hk,hall⟩;refine run ?_;refine ah _ rfl (fun hc=>?_) (fun hc=>?_)
 ·have hlt:k<5:=by simp at hc;omega
  refine run ?_;refine az (fun wc hG=>G5 (h.good hG) _ _ bA4 ((P.gs i).first+(k:Int)) ⟨by omega,by omega⟩) ?_;refine run ?_;refine ah _ rfl (fun hp=>?_) (fun hp=>?_)
  ·refine run ?_;refine fin1 ?_;rw[hone,hno 5 _ k hlt bE0];rfl
  ·refine run ?_;simp only[show (P.gs i).first+(k:Int)+1=(P.gs i).first+((k+1:Nat):Int) by omega];exact aF (k+1) ⟨by omega,hyes (fun j=>decide (P.jH ((P.gs i).first+(j:Int))=(i:Int)+1)) k hall bE0⟩
 have hge:k=5:=by simp at hc;omega
 subst hge;rw[show allB 5 (fun k=>decide (P.jH ((P.gs i).first+(k:Int))=(i:Int)+1))=true from aI.2 hall,bH6] at hone;clear hall hm hk hc;refine run ?_;refine aK (σ:=Nat) (fun k=>[(9,.int .i64 ((i+1+k:Nat):Int))]) (fun s=>[⟨G,#[.bool (P.gs i).live,.bool (P.gs i).dying,.int .i64 (P.gs i).first,.slice q2 (P.gs i).aP.length cap2,.slice q (P.gs i).maps.length cap],100⟩,⟨B,#[L.pv P.pages.length,L.gv P.ay.length,L.ov P.on.length],48⟩]) (fun k=>k≤P.ay.length-(i+1)∧∀ j,j<k→P.pR i (i+1+j)=true) (fun k=>P.ay.length-(i+1)-k) 0 ⟨by omega,fun j hj=>absurd hj bA4⟩ ?_;rintro k m hm ⟨hk,hall⟩;refine run ?_;refine ah _ rfl (fun hc=>?_) (fun hc=>?_)
 ·have hlt:i+1+k<P.ay.length:=by simp at hc;omega
  have hrj:=h.gs (i+1+k) hlt;obtain⟨qj,bm9,aW8,_⟩:=(h.mp (i+1+k) hlt).opened;obtain⟨qj2,bf',aW9,_⟩:=(h.vc (i+1+k) hlt).opened;rw[aW8,aW9] at hrj;refine run ?_;intro O;refine aC ?_;refine ah _ rfl (fun hp=>?_) (fun hp=>?_)
  ·refine run ?_;refine fin1 ?_;rw[hone,hno _ _ k bA4 (by rw[PtD.pR,hp];rfl)];rfl
  ·refine run ?_;exact aF (k+1) ⟨by omega,hyes (fun j=>P.pR i (i+1+j)) k hall (by show P.pR i (i+1+k)=true;rw[PtD.pR,hp];rfl)⟩
 have hge:k=P.ay.length-(i+1):=by simp at hc;omega
 subst hge;rw[show allB (P.ay.length-(i+1)) (fun k=>P.pR i (i+1+k))=true from aI.2 hall,bH6] at hone;clear hall hm hk hc;refine run ?_;refine aK (σ:=Nat) (fun k=>[(11,.int .i64 (k:Int))]) (fun s=>[⟨G,#[.bool (P.gs i).live,.bool (P.gs i).dying,.int .i64 (P.gs i).first,.slice q2 (P.gs i).aP.length cap2,.slice q (P.gs i).maps.length cap],100⟩,⟨B,#[L.pv P.pages.length,L.gv P.ay.length,L.ov P.on.length],48⟩]) (fun k=>k≤(P.gs i).aP.length∧∀ j,j<k→P.yH i j=true) (fun k=>(P.gs i).aP.length-k) 0 ⟨by omega,fun j hj=>absurd hj bA4⟩ ?_;rintro k m hm ⟨hk,hall⟩;refine run ?_;refine ah _ rfl (fun hc=>?_) (fun hc=>?_)
 ·have hlt:k<(P.gs i).aP.length:=by simp at hc;omega
  obtain⟨b2,o2,rfl⟩:=hne2 bC3;have hx:=ak (hrow.row hlt);rw[bJ5,show (default:Int)=0 from rfl] at hx;have hva:P.yH i k=!(decide ((P.gs i).aP.getD k 0< -1)||decide ((P.gs i).aP.getD k 0 ≥ P.on.length)||(decide ((P.gs i).aP.getD k 0 ≥ 0)&&!(decide ((P.st ((P.gs i).aP.getD k 0).toNat).vm=(i:Int)+1)&&decide ((P.st ((P.gs i).aP.getD k 0).toNat).cpu=(k:Int))))):=rfl;generalize (P.gs i).aP.getD k 0=x at hx hva;by_cases hin:0≤x∧x<P.on.length
  ·have hst:=h.st x.toNat bA4;refine aC ?_;refine ah _ rfl (fun hp=>?_) (fun hp=>?_)
   ·refine run ?_;refine fin1 ?_;rw[hone,hno _ _ k hlt (by rw[hva,bJ7];simpa [aW,iH] using hp)];rfl
   ·refine run ?_;exact aF (k+1) ⟨by omega,hyes (P.yH i) k hall (by rw[hva,bI8];simpa [aW,iH] using hp)⟩
  ·rcases (by omega:x< -1∨x= -1∨(P.on.length:Int)≤x) with h1 | h1 | h1
   ·have e1:decide (x< -1)=true:=by simpa using h1
    refine aC ?_;simp only[e1];refine aC ?_;refine ah _ rfl (fun hp=>?_) (fun hp=>absurd hp bA6);refine run ?_;refine fin1 ?_;rw[hone,hno _ _ k hlt (by rw[hva,e1];rfl)];rfl
   ·have e1:decide (x< -1)=false:=by simp;omega
    have e2:decide ((P.on.length:Int)≤x)=false:=by simp;omega
    have e3:decide (0≤x)=false:=by simp;omega
    refine aC ?_;simp only[e1,e2,e3];refine aC ?_;refine ah _ rfl (fun hp=>absurd hp bA6) (fun hp=>?_);refine run ?_;exact aF (k+1) ⟨by omega,hyes (P.yH i) k hall (by rw[hva,e1,show decide (x ≥ (P.on.length:Int))=false from e2,show decide (x ≥ 0)=false from e3];rfl)⟩
   ·have e1:decide (x< -1)=false:=by simp;omega
    have e2:decide ((P.on.length:Int)≤x)=true:=by simpa using h1
    refine aC ?_;simp only[e1,e2];refine aC ?_;refine ah _ rfl (fun hp=>?_) (fun hp=>absurd hp bA6);refine run ?_;refine fin1 ?_;rw[hone,hno _ _ k hlt (by rw[hva,e1,show decide (x ≥ (P.on.length:Int))=true from e2];rfl)];rfl
 have hge:k=(P.gs i).aP.length:=by simp at hc;omega
 subst hge;rw[show allB (P.gs i).aP.length (P.yH i)=true from aI.2 hall,bH6] at hone;clear hall hm hk hc;refine run ?_;refine aK (σ:=Nat) (fun k=>[(13,.int .i64 (k:Int))]) (fun s=>[⟨G,#[.bool (P.gs i).live,.bool (P.gs i).dying,.int .i64 (P.gs i).first,.slice q2 (P.gs i).aP.length cap2,.slice q (P.gs i).maps.length cap],100⟩,⟨B,#[L.pv P.pages.length,L.gv P.ay.length,L.ov P.on.length],48⟩]) (fun k=>k≤(P.gs i).maps.length∧∀ j,j<k→PtD.IG (P.gs i).maps P.pages.length j=true) (fun k=>(P.gs i).maps.length-k) 0 ⟨by omega,fun j hj=>absurd hj bA4⟩ ?_;rintro k m hm ⟨hk,hall⟩;refine run ?_;refine ah _ rfl (fun hc=>?_) (fun hc=>?_)
 ·have hlt:k<(P.gs i).maps.length:=by simp at hc;omega
  obtain⟨b2,o2,rfl⟩:=hne bC3;have hrm:=G6.row hlt;simp only[eu] at hrm;have hmd:PtD.IG (P.gs i).maps P.pages.length k=!(!(decide (0≤((P.gs i).maps.getD k default).mid)&&decide (((P.gs i).maps.getD k default).mid≤15))||(decide (k > 0)&&decide (((P.gs i).maps.getD (k-1) default).mid ≥ ((P.gs i).maps.getD k default).mid))||!(decide (0≤((P.gs i).maps.getD k default).dZ)&&decide (((P.gs i).maps.getD k default).dZ≤(P.pages.length:Int)-1))||decide (PtD.lF (P.gs i).maps ((P.gs i).maps.getD k default).dZ≠(k:Int))):=rfl;generalize (P.gs i).maps.getD k default=x at hrm hmd;refine run ?_;intro X;refine di ?_;refine aZ ?_;refine fB (fun wc hG=>Jk _ _ wc) ?_;cases hb1:(decide (0≤x.mid)&&decide (x.mid≤15))
  ·refine aZ ?_;refine aC ?_;refine ah _ rfl (fun hc=>?_) (fun hc=>absurd hc bA6);refine run ?_;refine fin1 ?_;rw[hone,hno _ _ k hlt (by rw[hmd,hb1];rfl)];rfl
  rcases bU1 k with hk0 | hk0
  ·have hk0':decide (0<(k:Int))=false:=by simp;omega
   refine aZ ?_;simp only[hk0'];refine aZ ?_;refine eG (fun h1 wc hG=>Jk _ _ wc) ?_;cases hb2:(decide (0≤x.dZ)&&decide (x.dZ≤(P.pages.length:Int)-1))
   ·refine aZ ?_;refine aC ?_;refine ah _ rfl (fun hc=>?_) (fun hc=>absurd hc bA6);refine run ?_;refine fin1 ?_;rw[hone,hno _ _ k hlt (by rw[hmd,hb2];simp)];rfl
   refine aZ ?_;refine eG (fun h1 wc hG=>AU (P.gs i).maps _ wc (G6.good hG) x.dZ) ?_;refine aZ ?_;refine aC ?_;refine ah _ rfl (fun hc=>?_) (fun hc=>?_)
   ·refine run ?_;refine fin1 ?_;rw[hone,hno _ _ k hlt bF0];rfl
   ·refine run ?_;exact aF (k+1) ⟨by omega,hyes (PtD.IG (P.gs i).maps P.pages.length) k hall (by rw[hmd,hb1,hb2];rw[show decide (k > 0)=false by simpa using hk0];simp at hc;simp[hc])⟩
  have an3:=LQ G6 hlt hk0;have hk0':decide (0<(k:Int))=true:=by simp;omega
  refine aZ ?_;simp only[hk0'];cases hc2:decide (x.mid≤((P.gs i).maps.getD (k-1) default).mid)
  ·refine eG (fun h1 wc hG=>Jk _ _ wc) ?_;cases hb2:(decide (0≤x.dZ)&&decide (x.dZ≤(P.pages.length:Int)-1))
   ·refine aZ ?_;refine aC ?_;refine ah _ rfl (fun hc=>?_) (fun hc=>absurd hc bA6);refine run ?_;refine fin1 ?_;rw[hone,hno _ _ k hlt (by rw[hmd,hb2];simp)];rfl
   refine aZ ?_;refine eG (fun h1 wc hG=>AU (P.gs i).maps _ wc (G6.good hG) x.dZ) ?_;refine aZ ?_;refine aC ?_;refine ah _ rfl (fun hc=>?_) (fun hc=>?_)
   ·refine run ?_;refine fin1 ?_;rw[hone,hno _ _ k hlt bF0];rfl
   ·refine run ?_;exact aF (k+1) ⟨by omega,hyes (PtD.IG (P.gs i).maps P.pages.length) k hall (by rw[hmd,hb1,hb2];rw[show decide (((P.gs i).maps.getD (k-1) default).mid ≥ x.mid)=false from hc2];simp at hc;simp[hc])⟩
  ·refine aZ ?_;refine aC ?_;refine ah _ rfl (fun hc=>?_) (fun hc=>absurd hc bA6);refine run ?_;refine fin1 ?_;rw[hone,hno _ _ k hlt (by rw[hmd,show decide (((P.gs i).maps.getD (k-1) default).mid ≥ x.mid)=true from hc2,show decide (k > 0)=true by simpa using hk0];simp)];rfl
 have hge:k=(P.gs i).maps.length:=by simp at hc;omega
 subst hge;rw[show allB (P.gs i).maps.length (PtD.IG (P.gs i).maps P.pages.length)=true from aI.2 hall,bH6] at hone;clear hall hm hk hc;refine run ?_;refine aK (σ:=Nat) (fun k=>[(15,.int .i64 (k:Int))]) (fun s=>[⟨G,#[.bool (P.gs i).live,.bool (P.gs i).dying,.int .i64 (P.gs i).first,.slice q2 (P.gs i).aP.length cap2,.slice q (P.gs i).maps.length cap],100⟩,⟨B,#[L.pv P.pages.length,L.gv P.ay.length,L.ov P.on.length],48⟩]) (fun k=>k≤P.pages.length∧∀ j,j<k→P.II i j=true) (fun k=>P.pages.length-k) 0 ⟨by omega,fun j hj=>absurd hj bA4⟩ ?_;rintro k m hm ⟨hk,hall⟩;refine run ?_;refine ah _ rfl (fun hc=>?_) (fun hc=>?_)
 ·have hlt:k<P.pages.length:=by simp at hc;omega
  have hrp:=h.pg k hlt;refine run ?_;intro X;refine di ?_;refine aZ ?_;refine fB (fun wc hG=>AU (P.gs i).maps _ wc (G6.good hG) (k:Int)) ?_;refine aZ ?_;refine aC ?_;refine ah _ rfl (fun hp=>?_) (fun hp=>?_)
  ·refine run ?_;refine fin1 ?_
   rw[hone,hno _ _ k hlt (by
    rw[←bK'];intro hu;simp only[PtD.II,beq_iff_eq] at hu;rw[bne_iff_ne] at hp
    exact hp hu)]
  ·refine run ?_;exact aF (k+1) ⟨by omega,hyes (P.II i) k hall (by simp only[PtD.II,beq_iff_eq];exact bne_eq_false_iff_eq.1 hp)⟩
 have hge:k=P.pages.length:=by simp at hc;omega
 subst hge;rw[show allB P.pages.length (P.II i)=true from aI.2 hall] at hone;refine run ?_;refine fin1 ?_;rw[hone]
end
end
section
attribute [local irreducible] Hy St Ops DH dI
set_option maxHeartbeats 4000000 in
theorem ae5{pv gv ov:Value}{P:PtD}(h:dN w pv gv ov P):Fn Tryz.prog 25 [.agg #[pv,gv,ov]].toArray w [] (fun u _=>u=.bool P.DV):=by
 obtain⟨p,pc,e1,_,hle1⟩:=h.pages.opened;obtain⟨o,oc,e3,_,hle3⟩:=h.on.opened
 obtain⟨g,gc,e2,hle2⟩:∃ g gc,gv=.slice g P.ay.length gc∧P.ay.length≤281474976710656:=by
  obtain⟨vv,mv,⟨⟨g,gc,e,_⟩,hl⟩,_⟩:=h.ay;simp only[bG9,bN2] at e hl;exact⟨g,gc,e,hl⟩
 rw[e1,e2,e3];refine enter Tryz.func25 ?_;refine run ?_;intro B;refine aC ?_
 have hlen:(decide ((P.pages.length:Int)<24)||decide ((64:Int)<(P.pages.length:Int))||!decide ((P.ay.length:Int)=4)||decide ((P.on.length:Int)<1)||decide ((3:Int)<(P.on.length:Int)))=(decide (P.pages.length<24)||decide (P.pages.length > 64)||decide (P.ay.length≠4)||decide (P.on.length<1)||decide (P.on.length > 3)):=by
  rw[bH4];simp only[bI9,decide_eq_true_eq,bI8,decide_eq_false_iff_not];omega
 refine ah _ rfl (fun hc=>?_) (fun hc=>?_)
 ·refine run ?_;refine fin1 ?_;rw[hlen] at hc;rw[PtD.DV,hc];rfl
 rw[hlen] at hc;have hmay:P.DV=(allB P.pages.length P.uH&&allB 4 P.oJ&&allB P.on.length P.uI):=by rw[PtD.DV,hc];rfl
 have hn:P.Len:=by
  simp only[bJ9,decide_eq_false_iff_not] at hc;exact⟨by omega,by omega,by omega,by omega,by omega⟩
 have hno:∀ (n:Nat) (p:Nat→Bool) (k:Nat),k<n→p k=false→allB n p=false:=fun n p k hk h=>by
  rw[←bK',aI];intro ha;rw[ha k hk] at h;cases h
 have hyes:∀ (p:Nat→Bool) (k:Nat),(∀ j,j<k→p j=true)→p k=true→∀ j,j<k+1→p j=true:=fun p k h h2 j hj=>by
  rcases bI1.1 hj with hj | rfl
  ·exact h j hj
  ·exact h2
 obtain⟨L,rfl,rfl,rfl,hv⟩:=h.open hn;cases e1;cases e2;cases e3;obtain⟨np0,np1,ng4,no0,no1⟩:=hn;refine run ?_;refine aK (σ:=Nat) (fun k=>[(4,.int .i64 (k:Int))]) (fun s=>[⟨B,#[L.pv P.pages.length,L.gv P.ay.length,L.ov P.on.length],48⟩]) (fun k=>k≤P.pages.length∧∀ j,j<k→P.uH j=true) (fun k=>P.pages.length-k) 0 ⟨by omega,fun j hj=>absurd hj bA4⟩ ?_;rintro k m hm ⟨hk,hall⟩;refine run ?_;refine ah _ rfl (fun hc=>?_) (fun hc=>?_)
 ·have hlt:k<P.pages.length:=by simp at hc;omega
  have hrp:=hv.pg k hlt
  have hpr:P.uH k=(!(!PtD.who (P.pg k).own||(!decide ((P.pg k).wit= -2)&&!PtD.who (P.pg k).wit)||decide ((P.pg k).wit=(P.pg k).own)) &&
   !((P.Cc k != decide ((P.pg k).own= -1))||(P.Cc k&&!decide ((P.pg k).wit= -2))) &&
   !((decide ((P.pg k).own=0)&&decide (0<(P.pg k).wit)&&!P.pO (P.pg k).wit)||(decide (0<(P.pg k).own)&&!decide ((P.pg k).wit= -2)&&!decide ((P.pg k).wit=0))) &&
   !(decide (0<(P.pg k).own)&&!(P.gs ((P.pg k).own-1).toNat).live&&(!(P.gs ((P.pg k).own-1).toNat).dying||!decide ((P.pg k).wit= -2)))):=by
   simp only[PtD.uH,ne_eq,decide_not,gt_iff_lt]
  have hbad:P.uH k=false→P.DV=false:=fun h=>by rw[hmay,hno _ _ k hlt h];rfl
  have hcast:decide (k<16)=decide ((k:Int)<16):=by rw[decide_eq_decide];omega
  have WB:P.Cc k=(decide ((k:Int)<16)||decide (0<P.jH (k:Int))):=by rw[PtD.Cc,hcast]
  have hwf:=(hv.wf.pg k hlt).2;generalize P.pg k=x at hrp hpr hwf;refine run ?_;intro X;refine az (fun wc hG=>an6 _ wc) ?_;refine aC ?_;refine IB (fun h0 h1 wc hG=>an6 x.wit wc) ?_;refine aC ?_;refine ah _ rfl (fun hc1=>?_) (fun hc1=>?_)
  ·refine run ?_;refine fin1 ?_;rw[hbad (by rw[hpr,hc1];rfl)]
  rw[hc1] at hpr;refine aC ?_;refine bG (fun h1 wc hG=>G5 (hv.good hG) _ _ bA4 (k:Int) ⟨by omega,by omega⟩) ?_;refine aC ?_;rw[←WB];refine ah _ rfl (fun hc2=>?_) (fun hc2=>?_)
  ·refine run ?_;refine fin1 ?_;rw[hbad (by rw[hpr,hc2];rfl)]
  rw[hc2] at hpr
  have hown:-1≤x.own∧x.own≤4:=by
   simp only[bJ9,bJ7,PtD.who,bG8,decide_eq_true_eq] at hc1;exact hc1.1.1
  refine aC ?_;refine bG (fun h1 wc hG=>LV (hv.good hG) _ _ x.wit hwf) ?_;refine aC ?_;refine ah _ rfl (fun hc3=>?_) (fun hc3=>?_)
  ·refine run ?_;refine fin1 ?_;rw[hbad (by rw[hpr,hc3];rfl)]
  rw[hc3] at hpr;cases hpos:decide (0<x.own)
  ·refine aC ?_;simp only[hpos];refine aC ?_;refine ah _ rfl (fun hc4=>absurd hc4 bA6) (fun hc4=>?_);refine run ?_;exact aF (k+1) ⟨by omega,hyes P.uH k hall (by rw[hpr,hpos];rfl)⟩
  ·have hpos':0<x.own:=by simpa using hpos
   have hg0:=hv.gs0 (i:=(x.own-1).toNat) bA4;have hg1:=hv.gs1 (i:=(x.own-1).toNat) bA4;refine aC ?_;refine ah _ rfl (fun hc4=>?_) (fun hc4=>?_)
   ·refine run ?_;refine fin1 ?_;rw[hbad (by rw[hpr,hc4];rfl)]
   ·refine run ?_;exact aF (k+1) ⟨by omega,hyes P.uH k hall (by rw[hpr,hc4];rfl)⟩
 have hge:k=P.pages.length:=by simp at hc;omega
 subst hge;rw[show allB P.pages.length P.uH=true from aI.2 hall,bH6] at hmay;clear hall hm hk hc;refine run ?_;refine aK (σ:=Nat) (fun k=>[(7,.int .i64 (k:Int))]) (fun s=>[⟨B,#[L.pv P.pages.length,L.gv P.ay.length,L.ov P.on.length],48⟩]) (fun k=>k≤4∧∀ j,j<k→P.oJ j=true) (fun k=>4-k) 0 ⟨by omega,fun j hj=>absurd hj bA4⟩ ?_;rintro k m hm ⟨hk,hall⟩;refine run ?_;refine ah _ rfl (fun hc=>?_) (fun hc=>?_)
 ·have hlt:k<4:=by simp at hc;omega
  refine run ?_;refine az (fun wc hG=>O8 (hv.good hG) ⟨np0,np1,ng4,no0,no1⟩ k bA4 ((k:Int)+1) rfl) ?_;refine run ?_;refine ah _ rfl (fun hp=>?_) (fun hp=>?_)
  ·refine run ?_;refine fin1 ?_;rw[hmay,hno 4 _ k hlt bE0];rfl
  ·refine run ?_;exact aF (k+1) ⟨by omega,hyes P.oJ k hall bE0⟩
 have hge:k=4:=by simp at hc;omega
 subst hge;rw[show allB 4 P.oJ=true from aI.2 hall,bH6] at hmay;clear hall hm hk hc;refine run ?_;refine aK (σ:=Nat) (fun k=>[(8,.int .i64 (k:Int))]) (fun s=>[⟨B,#[L.pv P.pages.length,L.gv P.ay.length,L.ov P.on.length],48⟩]) (fun k=>k≤P.on.length∧∀ j,j<k→P.uI j=true) (fun k=>P.on.length-k) 0 ⟨by omega,fun j hj=>absurd hj bA4⟩ ?_;rintro k m hm ⟨hk,hall⟩;refine run ?_;refine ah _ rfl (fun hc=>?_) (fun hc=>?_)
 ·have hlt:k<P.on.length:=by simp at hc;omega
  have hrs:=hv.st k hlt
  have NL:P.uI k=!((decide ((P.st k).vm=0)&&!decide ((P.st k).cpu=0))||(!decide ((P.st k).vm=0)&&(!P.pO (P.st k).vm||decide ((P.st k).cpu<0)||decide ((((P.gs ((P.st k).vm-1).toNat).aP.length:Nat):Int)≤(P.st k).cpu)||!decide ((P.gs ((P.st k).vm-1).toNat).aP.getD (P.st k).cpu.toNat 0=(k:Int))))):=by
   simp only[PtD.uI,ne_eq,decide_not,ge_iff_le]
  have hbad:P.uI k=false→P.DV=false:=fun h=>by rw[hmay,hno _ _ k hlt h]
  obtain⟨hwf,aW'⟩:=hv.wf.st k hlt;generalize P.st k=x at hrs NL hwf aW';refine run ?_;intro X;refine di ?_;refine aZ ?_;cases h0:decide (x.vm=0)
  case true=>
   rw[h0] at NL;cases hz:decide (x.cpu=0)
   ·refine aZ ?_;refine aC ?_;refine ah _ rfl (fun hp=>?_) (fun hp=>absurd hp bA6);refine run ?_;refine fin1 ?_;rw[hbad (by rw[NL,hz];rfl)]
   ·refine aZ ?_;refine aC ?_;refine ah _ rfl (fun hp=>absurd hp bA6) (fun hp=>?_);refine run ?_;exact aF (k+1) ⟨by omega,hyes P.uI k hall (by rw[NL,hz];rfl)⟩
  rw[h0] at NL;refine IC (fun h0 h1 wc hG=>LV (hv.good hG) _ _ x.vm hwf) ?_;cases hgu:P.pO x.vm
  case false=>
   rw[hgu] at NL;refine aZ ?_;refine aC ?_;refine ah _ rfl (fun hp=>?_) (fun hp=>absurd hp bA6);refine run ?_;refine fin1 ?_;rw[hbad (by rw[NL];simp)]
  rw[hgu] at NL;have Sr:=hgu;simp only[PtD.pO,bG8,decide_eq_true_eq] at Sr;have hi4:(x.vm-1).toNat<P.ay.length:=by omega
  obtain⟨q2,cap2,hvv,hne2,hle2⟩:=(hv.vc _ hi4).opened;have hg3:=hv.gs3 hi4;have hrow:=hv.vc _ hi4;rw[hvv] at hg3 hrow;refine aZ ?_;cases hlo:decide (x.cpu<0)
  case true=>
   rw[hlo] at NL;refine aZ ?_;refine aC ?_;refine ah _ rfl (fun hp=>?_) (fun hp=>absurd hp bA6);refine run ?_;refine fin1 ?_;rw[hbad (by rw[NL];simp)]
  rw[hlo] at NL;refine aZ ?_;cases hhi:decide ((((P.gs (x.vm-1).toNat).aP.length:Nat):Int)≤x.cpu)
  case true=>
   rw[hhi] at NL;refine aZ ?_;refine aC ?_;refine ah _ rfl (fun hp=>?_) (fun hp=>absurd hp bA6);refine run ?_;refine fin1 ?_;rw[hbad (by rw[NL];simp)]
  rw[hhi] at NL;simp only[decide_eq_false_iff_not] at hlo hhi;obtain⟨b2,o2,rfl⟩:=hne2 (by intro e;rw[e] at hhi;simp at hhi;omega);have hx:=ak (hrow.row (k:=x.cpu.toNat) bA4);rw[bJ5,show (default:Int)=0 from rfl] at hx;refine aZ ?_;refine aC ?_;refine ah _ rfl (fun hp=>?_) (fun hp=>?_)
  ·refine run ?_;refine fin1 ?_;rw[hbad (by rw[NL];simp at hp;simp[hp])]
  ·refine run ?_;exact aF (k+1) ⟨by omega,hyes P.uI k hall (by rw[NL];simp at hp;simp[hp])⟩
 have hge:k=P.on.length:=by simp at hc;omega
 subst hge;rw[show allB P.on.length P.uI=true from aI.2 hall] at hmay;refine run ?_;refine fin1 ?_;rw[hmay]
end
section
attribute [local irreducible] Hy St Ops DH dI
structure PtD.Small(P:PtD)(n:Nat):Prop where
 pg:P.pages.length≤n
 gs:P.ay.length≤n
 on:P.on.length≤n
 vc:∀ i,i<P.ay.length→(P.gs i).aP.length≤n∧(P.gs i).maps.length≤n
section
variable {w : World} {pv gv ov : Value} {P : PtD}
end
end
section
attribute [local irreducible] Hy St Ops DH dI
theorem dN.slices{pv gv ov:Value}{P:PtD}(h:dN w pv gv ov P):∃ p pc g gc o oc,pv=.slice p P.pages.length pc∧gv=.slice g P.ay.length gc∧ov=.slice o P.on.length oc∧P.pages.length≤281474976710656∧P.ay.length≤281474976710656∧P.on.length≤281474976710656:=by
 obtain⟨p1,⟨vv,mv,⟨⟨g,gc,e2,hg⟩,hl⟩,g2⟩,o1,wf⟩:=h;obtain⟨p,pc,rfl,_,hl1⟩:=p1.opened;obtain⟨o,oc,rfl,_,hl2⟩:=o1.opened;simp only[bG9,bN2] at e2 hl;exact⟨p,pc,g,gc,o,oc,rfl,e2,rfl,hl1,hl,hl2⟩
end
section
attribute [local irreducible] Hy St Ops DH dI jl iR gX DS iw lV
theorem O9{w:World}{F:Nat}{us:List Value}(p:Zk→Bool)(xs:List (Zk))(v:Value)(h:aA w v 3 (xs.map QY))(hF:∀ x,x∈xs→∀ w',rO w w'→Fn Tryz.prog F ([]++[Value.agg (QY x).toArray]++us).toArray w' [] (fun u _=>u=.bool (p x)))(bK:mem iZ F=true:=by rfl):
  Fn Tryz.prog 330 [v,.func (.func F) [].toArray us.toArray].toArray w [] (fun u _=>u=.int .i64 (gV p xs)):=by
 obtain⟨q,cap,rfl,hne,hle⟩:=h.opened;refine enter Tryz.func330 ?_;refine run ?_;refine aK (σ:=Nat) (fun k=>[(8,.int .i64 (k:Int))]) (fun _=>[]) (fun k=>k≤xs.length∧∀ j,j<k→p (xs.getD j default)=false) (fun k=>xs.length-k) 0 ⟨bH3 _,fun j hj=>absurd hj bA4⟩ ?_;rintro k m rfl ⟨hk,hno⟩;refine run ?_;refine ah _ rfl (fun hc=>?_) (fun hc=>?_)
 ·have hlt:k<xs.length:=by simpa using hc
  obtain⟨b,o,rfl⟩:=hne bA8;have hr:=h.row hlt;refine run ?_;refine l9 (fun wc hG=>hF (xs.getD k default) (getD_mem hlt) wc ⟨_,hG⟩) (bK:=bK) ?_;refine run ?_;refine ah _ rfl (fun hp=>?_) (fun hp=>?_)
  ·refine run ?_;refine fin1 ?_;rw[fH hlt hp hno]
  ·refine run ?_;refine aF (k+1) ⟨hlt,fun j hj=>?_⟩;rcases bI1.1 hj with hj | rfl
   ·exact hno j hj
   ·exact hp
 ·have hge:k=xs.length:=by simp at hc;omega
  subst hge;refine run ?_;refine fin1 ?_;rw[dV hno]
theorem Pg{w:World}{F:Nat}{us:List Value}(p:jT→Bool)(xs:List (jT))(v:Value)(h:aA w v 2 (xs.map eu))(hF:∀ x,x∈xs→∀ w',rO w w'→Fn Tryz.prog F ([]++[Value.agg (eu x).toArray]++us).toArray w' [] (fun u _=>u=.bool (p x)))(bK:mem iZ F=true:=by rfl):
  Fn Tryz.prog 156 [v,.func (.func F) [].toArray us.toArray].toArray w [] (fun u _=>u=.int .i64 (gV p xs)):=by
 obtain⟨q,cap,rfl,hne,hle⟩:=h.opened;refine enter Tryz.func156 ?_;refine run ?_;refine aK (σ:=Nat) (fun k=>[(8,.int .i64 (k:Int))]) (fun _=>[]) (fun k=>k≤xs.length∧∀ j,j<k→p (xs.getD j default)=false) (fun k=>xs.length-k) 0 ⟨bH3 _,fun j hj=>absurd hj bA4⟩ ?_;rintro k m rfl ⟨hk,hno⟩;refine run ?_;refine ah _ rfl (fun hc=>?_) (fun hc=>?_)
 ·have hlt:k<xs.length:=by simpa using hc
  obtain⟨b,o,rfl⟩:=hne bA8;have hr:=h.row hlt;refine run ?_;refine l9 (fun wc hG=>hF (xs.getD k default) (getD_mem hlt) wc ⟨_,hG⟩) (bK:=bK) ?_;refine run ?_;refine ah _ rfl (fun hp=>?_) (fun hp=>?_)
  ·refine run ?_;refine fin1 ?_;rw[fH hlt hp hno]
  ·refine run ?_;refine aF (k+1) ⟨hlt,fun j hj=>?_⟩;rcases bI1.1 hj with hj | rfl
   ·exact hno j hj
   ·exact hp
 ·have hge:k=xs.length:=by simp at hc;omega
  subst hge;refine run ?_;refine fin1 ?_;rw[dV hno]
theorem Ph{w:World}{F:Nat}{us:List Value}(p:AA→Bool)(xs:List (AA))(v:Value)(h:aA w v 16 (xs.map zO))(hF:∀ x,x∈xs→∀ w',rO w w'→Fn Tryz.prog F ([]++[Value.agg (zO x).toArray]++us).toArray w' [] (fun u _=>u=.bool (p x)))(bK:mem iZ F=true:=by rfl):
  Fn Tryz.prog 207 [v,.func (.func F) [].toArray us.toArray].toArray w [] (fun u _=>u=.int .i64 (gV p xs)):=by
 obtain⟨q,cap,rfl,hne,hle⟩:=h.opened;refine enter Tryz.func207 ?_;refine run ?_;refine aK (σ:=Nat) (fun k=>[(8,.int .i64 (k:Int))]) (fun _=>[]) (fun k=>k≤xs.length∧∀ j,j<k→p (xs.getD j default)=false) (fun k=>xs.length-k) 0 ⟨bH3 _,fun j hj=>absurd hj bA4⟩ ?_;rintro k m rfl ⟨hk,hno⟩;refine run ?_;refine ah _ rfl (fun hc=>?_) (fun hc=>?_)
 ·have hlt:k<xs.length:=by simpa using hc
  obtain⟨b,o,rfl⟩:=hne bA8;have hr:=h.row hlt;refine run ?_;refine l9 (fun wc hG=>hF (xs.getD k default) (getD_mem hlt) wc ⟨_,hG⟩) (bK:=bK) ?_;refine run ?_;refine ah _ rfl (fun hp=>?_) (fun hp=>?_)
  ·refine run ?_;refine fin1 ?_;rw[fH hlt hp hno]
  ·refine run ?_;refine aF (k+1) ⟨hlt,fun j hj=>?_⟩;rcases bI1.1 hj with hj | rfl
   ·exact hno j hj
   ·exact hp
 ·have hge:k=xs.length:=by simp at hc;omega
  subst hge;refine run ?_;refine fin1 ?_;rw[dV hno]
theorem Pj{w:World}{F:Nat}{us:List Value}(p:eF→Bool)(xs:List (eF))(v:Value)(h:aA w v 6 (xs.map mW))(hF:∀ x,x∈xs→∀ w',rO w w'→Fn Tryz.prog F ([]++[Value.agg (mW x).toArray]++us).toArray w' [] (fun u _=>u=.bool (p x)))(bK:mem iZ F=true:=by rfl):
  Fn Tryz.prog 208 [v,.func (.func F) [].toArray us.toArray].toArray w [] (fun u _=>u=.int .i64 (gV p xs)):=by
 obtain⟨q,cap,rfl,hne,hle⟩:=h.opened;refine enter Tryz.func208 ?_;refine run ?_;refine aK (σ:=Nat) (fun k=>[(8,.int .i64 (k:Int))]) (fun _=>[]) (fun k=>k≤xs.length∧∀ j,j<k→p (xs.getD j default)=false) (fun k=>xs.length-k) 0 ⟨bH3 _,fun j hj=>absurd hj bA4⟩ ?_;rintro k m rfl ⟨hk,hno⟩;refine run ?_;refine ah _ rfl (fun hc=>?_) (fun hc=>?_)
 ·have hlt:k<xs.length:=by simpa using hc
  obtain⟨b,o,rfl⟩:=hne bA8;have hr:=h.row hlt;refine run ?_;refine l9 (fun wc hG=>hF (xs.getD k default) (getD_mem hlt) wc ⟨_,hG⟩) (bK:=bK) ?_;refine run ?_;refine ah _ rfl (fun hp=>?_) (fun hp=>?_)
  ·refine run ?_;refine fin1 ?_;rw[fH hlt hp hno]
  ·refine run ?_;refine aF (k+1) ⟨hlt,fun j hj=>?_⟩;rcases bI1.1 hj with hj | rfl
   ·exact hno j hj
   ·exact hp
 ·have hge:k=xs.length:=by simp at hc;omega
  subst hge;refine run ?_;refine fin1 ?_;rw[dV hno]
theorem Pm{w:World}{F:Nat}{us:List Value}(p:Nat→Bool)(xs:List (Nat))(v:Value)(h:aA w v 1 (xs.map uV))(hF:∀ x,x∈xs→∀ w',rO w w'→Fn Tryz.prog F ([]++[Value.int .u64 (x:Int)]++us).toArray w' [] (fun u _=>u=.bool (p x)))(bK:mem iZ F=true:=by rfl):
  Fn Tryz.prog 213 [v,.func (.func F) [].toArray us.toArray].toArray w [] (fun u _=>u=.int .i64 (gV p xs)):=by
 obtain⟨q,cap,rfl,hne,hle⟩:=h.opened;refine enter Tryz.func213 ?_;refine run ?_;refine aK (σ:=Nat) (fun k=>[(8,.int .i64 (k:Int))]) (fun _=>[]) (fun k=>k≤xs.length∧∀ j,j<k→p (xs.getD j default)=false) (fun k=>xs.length-k) 0 ⟨bH3 _,fun j hj=>absurd hj bA4⟩ ?_;rintro k m rfl ⟨hk,hno⟩;refine run ?_;refine ah _ rfl (fun hc=>?_) (fun hc=>?_)
 ·have hlt:k<xs.length:=by simpa using hc
  obtain⟨b,o,rfl⟩:=hne bA8;have hr:=ak (h.row hlt);simp only[bJ5] at hr;refine run ?_;refine l9 (fun wc hG=>hF (xs.getD k default) (getD_mem hlt) wc ⟨_,hG⟩) (bK:=bK) ?_;refine run ?_;refine ah _ rfl (fun hp=>?_) (fun hp=>?_)
  ·refine run ?_;refine fin1 ?_;rw[fH hlt hp hno]
  ·refine run ?_;refine aF (k+1) ⟨hlt,fun j hj=>?_⟩;rcases bI1.1 hj with hj | rfl
   ·exact hno j hj
   ·exact hp
 ·have hge:k=xs.length:=by simp at hc;omega
  subst hge;refine run ?_;refine fin1 ?_;rw[dV hno]
theorem FN{w:World}{F:Nat}{us:List Value}(p:Zk→Bool)(xs:List (Zk))(v:Value)(h:aA w v 3 (xs.map QY))(hF:∀ x,x∈xs→∀ w',rO w w'→Fn Tryz.prog F ([]++[Value.agg (QY x).toArray]++us).toArray w' [] (fun u _=>u=.bool (p x)))(bK:mem iZ F=true:=by rfl):
  Fn Tryz.prog 284 [v,.func (.func F) [].toArray us.toArray].toArray w [] (fun u _=>u=.bool (xs.any p)):=by
 refine enter Tryz.func284 ?_;refine run ?_;refine az (fun wc hG=>O9 p xs v (h.good hG) (fun x hx w' ha=>hF x hx w' ?_) bK) ?_
 ·obtain⟨hp,hg⟩:=ha;exact⟨_,hG.trans hg⟩
 refine run ?_;refine fin1 ?_;rw[←gG]
theorem FO{w:World}{F:Nat}{us:List Value}(p:jT→Bool)(xs:List (jT))(v:Value)(h:aA w v 2 (xs.map eu))(hF:∀ x,x∈xs→∀ w',rO w w'→Fn Tryz.prog F ([]++[Value.agg (eu x).toArray]++us).toArray w' [] (fun u _=>u=.bool (p x)))(bK:mem iZ F=true:=by rfl):
  Fn Tryz.prog 224 [v,.func (.func F) [].toArray us.toArray].toArray w [] (fun u _=>u=.bool (xs.any p)):=by
 refine enter Tryz.func224 ?_;refine run ?_;refine az (fun wc hG=>Pg p xs v (h.good hG) (fun x hx w' ha=>hF x hx w' ?_) bK) ?_
 ·obtain⟨hp,hg⟩:=ha;exact⟨_,hG.trans hg⟩
 refine run ?_;refine fin1 ?_;rw[←gG]
theorem FP{w:World}{F:Nat}{us:List Value}(p:AA→Bool)(xs:List (AA))(v:Value)(h:aA w v 16 (xs.map zO))(hF:∀ x,x∈xs→∀ w',rO w w'→Fn Tryz.prog F ([]++[Value.agg (zO x).toArray]++us).toArray w' [] (fun u _=>u=.bool (p x)))(bK:mem iZ F=true:=by rfl):
  Fn Tryz.prog 124 [v,.func (.func F) [].toArray us.toArray].toArray w [] (fun u _=>u=.bool (xs.any p)):=by
 refine enter Tryz.func124 ?_;refine run ?_;refine az (fun wc hG=>Ph p xs v (h.good hG) (fun x hx w' ha=>hF x hx w' ?_) bK) ?_
 ·obtain⟨hp,hg⟩:=ha;exact⟨_,hG.trans hg⟩
 refine run ?_;refine fin1 ?_;rw[←gG]
theorem xe{w:World}{F:Nat}{us:List Value}(p:eF→Bool)(xs:List (eF))(v:Value)(h:aA w v 6 (xs.map mW))(hF:∀ x,x∈xs→∀ w',rO w w'→Fn Tryz.prog F ([]++[Value.agg (mW x).toArray]++us).toArray w' [] (fun u _=>u=.bool (p x)))(bK:mem iZ F=true:=by rfl):
  Fn Tryz.prog 126 [v,.func (.func F) [].toArray us.toArray].toArray w [] (fun u _=>u=.bool (xs.any p)):=by
 refine enter Tryz.func126 ?_;refine run ?_;refine az (fun wc hG=>Pj p xs v (h.good hG) (fun x hx w' ha=>hF x hx w' ?_) bK) ?_
 ·obtain⟨hp,hg⟩:=ha;exact⟨_,hG.trans hg⟩
 refine run ?_;refine fin1 ?_;rw[←gG]
theorem FQ{w:World}{F:Nat}{us:List Value}(p:Nat→Bool)(xs:List (Nat))(v:Value)(h:aA w v 1 (xs.map uV))(hF:∀ x,x∈xs→∀ w',rO w w'→Fn Tryz.prog F ([]++[Value.int .u64 (x:Int)]++us).toArray w' [] (fun u _=>u=.bool (p x)))(bK:mem iZ F=true:=by rfl):
  Fn Tryz.prog 132 [v,.func (.func F) [].toArray us.toArray].toArray w [] (fun u _=>u=.bool (xs.any p)):=by
 refine enter Tryz.func132 ?_;refine run ?_;refine az (fun wc hG=>Pm p xs v (h.good hG) (fun x hx w' ha=>hF x hx w' ?_) bK) ?_
 ·obtain⟨hp,hg⟩:=ha;exact⟨_,hG.trans hg⟩
 refine run ?_;refine fin1 ?_;rw[←gG]
theorem FT{w:World}{F:Nat}{us:List Value}(p:fG→Bool)(xs:List (fG))(v:Value)(h:aA w v 14 (xs.map iC))(hF:∀ x,x∈xs→∀ w',rO w w'→Fn Tryz.prog F ([]++[Value.agg (iC x).toArray]++us).toArray w' [] (fun u _=>u=.bool (p x)))(bK:mem iZ F=true:=by rfl):
  Fn Tryz.prog 137 [v,.func (.func F) [].toArray us.toArray].toArray w [] (fun u _=>u=.bool (xs.any p)):=by
 refine enter Tryz.func137 ?_;refine run ?_;refine az (fun wc hG=>EF p xs v (h.good hG) (fun x hx w' ha=>hF x hx w' ?_) bK) ?_
 ·obtain⟨hp,hg⟩:=ha;exact⟨_,hG.trans hg⟩
 refine run ?_;refine fin1 ?_;rw[←gG]
theorem aX0(a x:jT):aW (eu a) (eu x)=(decide (x.mid=a.mid)&&decide (x.dZ=a.dZ)):=by
 rw[bH4,bG8,decide_eq_true_eq,decide_eq_true_eq];simp only[eu,aW,iH,bG8,decide_eq_true_eq,and_true];exact⟨fun h=>⟨h.1.symm,h.2.symm⟩,fun h=>⟨h.1.symm,h.2.symm⟩⟩
theorem TZ(a:jT)(xs:List jT)(v:Value)(h:aA w v 2 (xs.map eu)):
  Fn Tryz.prog 294 [v,.agg (eu a).toArray].toArray w [] (fun u _=>u=.int .i64 (gV (fun t=>decide (t.mid=a.mid)&&decide (t.dZ=a.dZ)) xs)):=by
 obtain⟨q,cap,rfl,hne,hle⟩:=h.opened;refine enter Tryz.func294 ?_;refine run ?_;intro B;refine run ?_;refine aK (σ:=Nat) (fun k=>[(8,.int .i64 (k:Int))]) (fun _=>[⟨B,(eu a).toArray,173⟩]) (fun k=>k≤xs.length∧∀ j,j<k→(decide ((xs.getD j default).mid=a.mid)&&decide ((xs.getD j default).dZ=a.dZ))=false) (fun k=>xs.length-k) 0 ⟨bH3 _,fun j hj=>absurd hj bA4⟩ ?_;rintro k m rfl ⟨hk,hno⟩;refine run ?_;refine ah _ rfl (fun hc=>?_) (fun hc=>?_)
 ·have hlt:k<xs.length:=by simpa using hc
  obtain⟨b,o,rfl⟩:=hne bA8;have hr:=h.row hlt;refine run ?_;refine di ?_;refine dF ?_;refine run ?_;try rw[show List.take 2 (eu a)=eu a from rfl]
  rw[aX0];refine ah _ rfl (fun hp=>?_) (fun hp=>?_)
  ·refine run ?_;refine fin1 ?_;rw[fH hlt hp hno]
  ·refine run ?_;refine aF (k+1) ⟨hlt,fun j hj=>?_⟩;rcases bI1.1 hj with hj | rfl
   ·exact hno j hj
   ·exact hp
 ·have hge:k=xs.length:=by simp at hc;omega
  subst hge;refine run ?_;refine fin1 ?_;rw[dV hno]
theorem Jl(a:jT)(xs:List jT)(v:Value)(h:aA w v 2 (xs.map eu)):
  Fn Tryz.prog 211 [v,.agg (eu a).toArray].toArray w [] (fun u _=>u=.bool (xs.any fun t=>decide (t.mid=a.mid)&&decide (t.dZ=a.dZ))):=by
 refine enter Tryz.func211 ?_;refine run ?_;intro B;refine run ?_;refine az (fun wc hG=>TZ a xs v (h.good hG)) ?_;refine run ?_;refine fin1 ?_;rw[←gG]
theorem LW(v:Value)(xs:List (List Value))(h:aA w v 19 xs)(hall:∀ c∈xs,c.length=19∧c.all (·.oneCell')=true)(hl:xs.length<1000000):Fn Tryz.prog 70 [v].toArray w [] (fun u hn=>Own 74 19 u hn xs):=by
 obtain⟨⟨q,cap,rfl,hne⟩,_⟩:=h;refine enter Tryz.func70 ?_;refine run ?_;refine jL bA9 (nH aB rfl rfl) ?_;refine run ?_;refine ah _ rfl (fun hp=>?_) (fun hp=>?_)
 ·obtain rfl:xs=[]:=by
   rcases bL8 (xs=[]) with h | h
   ·exact h
   ·obtain⟨b,o,rfl,_⟩:=hne h;cases hp
  refine run ?_;refine fin1 ?_;exact⟨by simp,.inl ⟨rfl,rfl,rfl⟩⟩
 refine run ?_;refine iF aB bA9 bA9 (fun g=>?_);refine run ?_;rcases bL8 (xs=[]) with rfl | hx
 ·cases q with
  | none=>cases hp
  | some q=>
  refine jL bA9 (iE aB (jB:=0) rfl rfl rfl (bI0 _)) ?_;refine run ?_;refine fin1 ?_;exact⟨by simp,.inr ⟨g,0,#[],rfl,rfl,⟨rfl,bI0 _,by decide,rfl,rfl⟩⟩⟩
 ·obtain⟨b,o,rfl,hr⟩:=hne hx;refine eX aB bA9 rfl ⟨rfl,bI0 _,by decide,rfl,rfl⟩ rfl rfl rfl rfl rfl rfl (.refl _) rfl hall hr bA6 hl (fun v' ha' hA=>?_);refine run ?_;refine fin1 ?_;rw[bI3];exact hA
theorem Pn(v:Value)(xs:List (List Value))(h:aA w v 6 xs)(hall:∀ c∈xs,c.length=6∧c.all (·.oneCell')=true)(hl:xs.length<1000000):Fn Tryz.prog 71 [v].toArray w [] (fun u hn=>Own 62 6 u hn xs):=by
 obtain⟨⟨q,cap,rfl,hne⟩,_⟩:=h;refine enter Tryz.func71 ?_;refine run ?_;refine jL bA9 (nH aB rfl rfl) ?_;refine run ?_;refine ah _ rfl (fun hp=>?_) (fun hp=>?_)
 ·obtain rfl:xs=[]:=by
   rcases bL8 (xs=[]) with h | h
   ·exact h
   ·obtain⟨b,o,rfl,_⟩:=hne h;cases hp
  refine run ?_;refine fin1 ?_;exact⟨by simp,.inl ⟨rfl,rfl,rfl⟩⟩
 refine run ?_;refine iF aB bA9 bA9 (fun g=>?_);refine run ?_;rcases bL8 (xs=[]) with rfl | hx
 ·cases q with
  | none=>cases hp
  | some q=>
  refine jL bA9 (iE aB (jB:=0) rfl rfl rfl (bI0 _)) ?_;refine run ?_;refine fin1 ?_;exact⟨by simp,.inr ⟨g,0,#[],rfl,rfl,⟨rfl,bI0 _,by decide,rfl,rfl⟩⟩⟩
 ·obtain⟨b,o,rfl,hr⟩:=hne hx;refine eX aB bA9 rfl ⟨rfl,bI0 _,by decide,rfl,rfl⟩ rfl rfl rfl rfl rfl rfl (.refl _) rfl hall hr bA6 hl (fun v' ha' hA=>?_);refine run ?_;refine fin1 ?_;rw[bI3];exact hA
theorem LX(v:Value)(xs:List (List Value))(h:aA w v 15 xs)(hall:∀ c∈xs,c.length=15∧c.all (·.oneCell')=true)(hl:xs.length<1000000):Fn Tryz.prog 72 [v].toArray w [] (fun u hn=>Own 68 15 u hn xs):=by
 obtain⟨⟨q,cap,rfl,hne⟩,_⟩:=h;refine enter Tryz.func72 ?_;refine run ?_;refine jL bA9 (nH aB rfl rfl) ?_;refine run ?_;refine ah _ rfl (fun hp=>?_) (fun hp=>?_)
 ·obtain rfl:xs=[]:=by
   rcases bL8 (xs=[]) with h | h
   ·exact h
   ·obtain⟨b,o,rfl,_⟩:=hne h;cases hp
  refine run ?_;refine fin1 ?_;exact⟨by simp,.inl ⟨rfl,rfl,rfl⟩⟩
 refine run ?_;refine iF aB bA9 bA9 (fun g=>?_);refine run ?_;rcases bL8 (xs=[]) with rfl | hx
 ·cases q with
  | none=>cases hp
  | some q=>
  refine jL bA9 (iE aB (jB:=0) rfl rfl rfl (bI0 _)) ?_;refine run ?_;refine fin1 ?_;exact⟨by simp,.inr ⟨g,0,#[],rfl,rfl,⟨rfl,bI0 _,by decide,rfl,rfl⟩⟩⟩
 ·obtain⟨b,o,rfl,hr⟩:=hne hx;refine eX aB bA9 rfl ⟨rfl,bI0 _,by decide,rfl,rfl⟩ rfl rfl rfl rfl rfl rfl (.refl _) rfl hall hr bA6 hl (fun v' ha' hA=>?_);refine run ?_;refine fin1 ?_;rw[bI3];exact hA
theorem Jm(v:Value)(xs:List (List Value))(h:aA w v 16 xs)(hall:∀ c∈xs,c.length=16∧c.all (·.oneCell')=true)(hl:xs.length<1000000):Fn Tryz.prog 75 [v].toArray w [] (fun u hn=>Own 102 16 u hn xs):=by
 obtain⟨⟨q,cap,rfl,hne⟩,_⟩:=h;refine enter Tryz.func75 ?_;refine run ?_;refine jL bA9 (nH aB rfl rfl) ?_;refine run ?_;refine ah _ rfl (fun hp=>?_) (fun hp=>?_)
 ·obtain rfl:xs=[]:=by
   rcases bL8 (xs=[]) with h | h
   ·exact h
   ·obtain⟨b,o,rfl,_⟩:=hne h;cases hp
  refine run ?_;refine fin1 ?_;exact⟨by simp,.inl ⟨rfl,rfl,rfl⟩⟩
 refine run ?_;refine iF aB bA9 bA9 (fun g=>?_);refine run ?_;rcases bL8 (xs=[]) with rfl | hx
 ·cases q with
  | none=>cases hp
  | some q=>
  refine jL bA9 (iE aB (jB:=0) rfl rfl rfl (bI0 _)) ?_;refine run ?_;refine fin1 ?_;exact⟨by simp,.inr ⟨g,0,#[],rfl,rfl,⟨rfl,bI0 _,by decide,rfl,rfl⟩⟩⟩
 ·obtain⟨b,o,rfl,hr⟩:=hne hx;refine eX aB bA9 rfl ⟨rfl,bI0 _,by decide,rfl,rfl⟩ rfl rfl rfl rfl rfl rfl (.refl _) rfl hall hr bA6 hl (fun v' ha' hA=>?_);refine run ?_;refine fin1 ?_;rw[bI3];exact hA
theorem XT(v:Nat→Value):∀ k:Nat,k<4→(#[v 0,v 1,v 2,v 3]:Array Value)[k]?=some (v k):=by
 intro k hk;have:k=0∨k=1∨k=2∨k=3:=by omega
 rcases this with rfl | rfl | rfl | rfl<;>rfl
def HyD.oP(H:HyD)(f s:Int)(i:Nat):Bool:=(H.msA i).any fun m=>decide (m.dZ=f)&&decide (m.soft=s)
theorem Po(H:HyD)(f s:Int):H.pz f s=if H.oP f s 0 then 1 else if H.oP f s 1 then 2 else if H.oP f s 2 then 3 else if H.oP f s 3 then 4 else 0:=by
 unfold HyD.pz;simp only[PtD.idx];change (match (bif H.oP f s 0 then some 0 else bif H.oP f s 1 then some 1 else bif H.oP f s 2 then some 2 else bif H.oP f s 3 then some 3 else none:Option Nat) with | some i=>(i:Int)+1 | none=>0)=_;cases H.oP f s 0<;>cases H.oP f s 1<;>cases H.oP f s 2<;>cases H.oP f s 3<;>rfl
theorem XU{s:Int}(hk:k<4)(h:H.oP f s k=true)(hn:∀ j,j<k→H.oP f s j=false):H.pz f s=(k:Int)+1:=by
 rw[Po];have:k=0∨k=1∨k=2∨k=3:=by omega
 rcases this with rfl | rfl | rfl | rfl
 ·simp[h]
 ·simp[h,hn 0 bA4]
 ·simp[h,hn 0 bA4,hn 1 bA4]
 ·simp[h,hn 0 bA4,hn 1 bA4,hn 2 bA4]
theorem XV{s:Int}(hn:∀ j,j<4→H.oP f s j=false):H.pz f s=0:=by
 rw[Po,hn 0 bA4,hn 1 bA4,hn 2 bA4,hn 3 bA4];rfl
theorem Pq(H:HyD)(f s:Int):0≤H.pz f s∧H.pz f s≤4:=by
 rw[Po];cases H.oP f s 0<;>cases H.oP f s 1<;>cases H.oP f s 2<;>cases H.oP f s 3<;>simp
theorem ae6(m:Zk)(f s:Int)(Y Z:Nat)(w:World)(hY:w.cell? ⟨Y,0,none⟩=some (.int .i64 f))(hZ:w.cell? ⟨Z,0,none⟩=some (.int .i64 s)):Fn Tryz.prog 285 ([]++[Value.agg (QY m).toArray]++[Value.pointer (some ⟨Y,0,none⟩),.pointer (some ⟨Z,0,none⟩)]).toArray w [] (fun u _=>u=.bool (decide (m.dZ=f)&&decide (m.soft=s))):=by
 refine enter Tryz.func285 ?_;refine run ?_;intro B;refine aC ?_;exact fin1 rfl
theorem Q3(h:w.rangeAt X 4 [mv 0,mv 1,mv 2,mv 3])(hm:∀ i,i<4→aA w (mv i) 3 ((H.msA i).map QY))(f s:Int):Fn Tryz.prog 197 [.pointer (some ⟨X,0,none⟩),.int .i64 f,.int .i64 s].toArray w [] (fun u _=>u=.int .i64 (H.pz f s)):=by
 refine enter Tryz.func197 ?_;refine run ?_;intro Y Z;refine aK (σ:=Nat) (fun k=>[(13,.int .i64 (k:Int))]) (fun _=>[⟨Z,#[.int .i64 s],3⟩,⟨Y,#[.int .i64 f],3⟩]) (fun k=>k≤4∧∀ j,j<k→H.oP f s j=false) (fun k=>4-k) 0 ⟨bH3 _,fun j hj=>absurd hj (bK2 _)⟩ ?_;rintro k m hm2 ⟨hk,hK⟩;refine run ?_;refine ah _ rfl (fun hc=>?_) (fun hc=>?_)
 ·have hk3:k<4:=by simp at hc;omega
  refine run ?_;refine jL bA9 (Es rfl rfl rfl rfl bA4 bA4 (XT mv k hk3)) ?_;refine run ?_;refine az (fun wc hG=>FN (us:=[.pointer (some ⟨Y,0,none⟩),.pointer (some ⟨Z,0,none⟩)]) (fun m=>decide (m.dZ=f)&&decide (m.soft=s)) (H.msA k) (mv k) ((hm k hk3).good hG) (fun m _ w' ha=>ae6 m f s Y Z w' ?_ ?_)) ?_
  ·obtain⟨hp,hg⟩:=ha;exact hg.cell (by rw[cell_of_block (hG.here ⟨Y,#[.int .i64 f],3⟩ bA6)];rfl) bA6
  ·obtain⟨hp,hg⟩:=ha;exact hg.cell (by rw[cell_of_block (hG.here ⟨Z,#[.int .i64 s],3⟩ bA6)];rfl) bA6
  refine run ?_;refine ah _ rfl (fun hd=>?_) (fun hd=>?_)
  ·refine run ?_;refine fin1 ?_;rw[XU hk3 hd hK];rfl
  ·refine aN ?_;refine aF (k+1) ⟨hk3,fun j hj=>?_⟩;by_cases e:j=k
   ·subst e;exact hd
   ·exact hK j bA4
 ·have hk4:k=4:=by simp at hc;omega
  subst hk4;refine run ?_;refine fin1 ?_;rw[XV hK]
theorem ae7{vv rv:Value}(h:w.rangeAt X 0 [wv,cv,vv,rv,mv 0,mv 1,mv 2,mv 3])(hms:∀ i,i<4→aA w (mv i) 3 ((H.msA i).map QY))(hw:lT H.ws)(hs:aA w wv 1 (H.ws.map uV))(hm:fM H.ws.length=true)(f:Nat)(hf:f≤4095):Fn Tryz.prog 118 [.pointer (some ⟨X,0,none⟩),.int .i64 (f:Int)].toArray w [] (fun u _=>u=.agg #[.int .i64 (H.mJ f).own,.int .i64 (H.mJ f).wit]):=by
 have h0:w.rangeAt X 0 [wv]:=aV (k:=0) (n:=1) h rfl;have h4:w.rangeAt X 4 [mv 0,mv 1,mv 2,mv 3]:=aV (k:=4) (n:=4) h rfl;refine enter Tryz.func118 ?_;refine run ?_;intro R O;refine run ?_;refine az (fun wc hG=>I9 H.ws hw (hs.good hG) hm 0 f hf) ?_;unfold HyD.mJ;generalize iG H.ws 0 f=g;refine run ?_;intro D;dsimp only;refine ah _ rfl (fun hc=>?_) (fun hc=>?_)
 ·rw[hc,cond_true];refine run ?_;exact dS (cs:=#[.int .i64 (-1),.int .i64 (-2)]) rfl
 rw[hc,cond_false];refine aC ?_;refine ah _ rfl (fun hc2=>?_) (fun hc2=>?_)
 ·rw[hc2,cond_true];refine run ?_;exact dS (cs:=#[.int .i64 0,.int .i64 (-2)]) rfl
 rw[hc2,cond_false];refine aC ?_;refine ah _ rfl (fun hc3=>?_) (fun hc3=>?_)
 ·rw[hc3,cond_true];refine run ?_;refine az (fun wc hG=>Q3 (hG.range h4 bQ5) (fun i hi=>(hms i hi).good hG) f 2) ?_;generalize H.pz f 2=n;refine run ?_;refine ah _ rfl (fun hd=>?_) (fun hd=>?_)
  ·rw[hd,cond_true];refine run ?_;exact dS (cs:=#[.int .i64 0,.int .i64 n]) rfl
  ·rw[hd,cond_false];refine run ?_;exact dS (cs:=#[.int .i64 0,.int .i64 (-1)]) rfl
 rw[hc3,cond_false];refine aC ?_;refine ah _ rfl (fun hc4=>?_) (fun hc4=>?_)
 ·rw[hc4,cond_true];refine run ?_;refine az (fun wc hG=>Q3 (hG.range h4 bQ5) (fun i hi=>(hms i hi).good hG) f 1) ?_;generalize H.pz f 1=n;refine run ?_;refine ah _ rfl (fun hd=>?_) (fun hd=>?_)
  ·rw[hd,cond_true];refine run ?_;exact dS (cs:=#[.int .i64 n,.int .i64 0]) rfl
  ·rw[hd,cond_false];refine aN ?_;exact dS (cs:=#[.int .i64 (-1),.int .i64 (-2)]) rfl
 rw[hc4,cond_false];refine aC ?_;refine ah _ rfl (fun hc5=>?_) (fun hc5=>?_)
 ·rw[hc5,cond_true];have hn:1<g.d.note∧g.d.note≤5:=by simp at hc5;omega
  refine run ?_;exact dS (cs:=#[.int .i64 (g.d.note-1),.int .i64 (-2)]) rfl
 rw[hc5,cond_false];refine run ?_;exact dS (cs:=#[.int .i64 (-1),.int .i64 (-2)]) rfl
theorem jJ{α:Type}[Inhabited α](l:List α)(h:k<l.length):l[k]=l.getD k default:=by
 rw[bG',bH0 h];rfl
structure xN(w:World)(X:Nat)(wv cv vv rv:Value)(mv:Nat→Value)(H:HyD):Prop where
 x:w.rangeAt X 0 [wv,cv,vv,rv,mv 0,mv 1,mv 2,mv 3]
 h:vw w wv cv vv rv H
 m:∀ i,i<4→aA w (mv i) 3 ((H.msA i).map QY)
 ok:H.iq=true
theorem xN.good{w':World}{hp:Hp}{vv rv:Value}(h:xN w X wv cv vv rv mv H)(hG:Good w [] hp w'):xN w' X wv cv vv rv mv H:=⟨hG.range h.x bQ5,h.h.good hG,fun i hi=>(h.m i hi).good hG,h.ok⟩
structure vG(H:HyD):Prop where
 m:fM H.ws.length=true
 f:24≤H.ws.length/8
 c1:1≤H.cs.length
 c3:H.cs.length≤3
 r:H.rs.length=H.cs.length
 v:H.vs.length=4
theorem jv(h:H.iq=true):vG H:=by
 simp only[HyD.iq,bG8,decide_eq_true_eq] at h;obtain⟨⟨⟨⟨a,b⟩,c,d⟩,e⟩,f⟩:=h;exact⟨a,b,c,d,e,f⟩
theorem XW{vv rv:Value}(h:xN w X wv cv vv rv mv H)(i:Nat)(hi:i<4):Fn Tryz.prog 119 [.pointer (some ⟨X,0,none⟩),.int .i64 (i:Int)].toArray w [] (fun u hn=>∃ v1 h1 v2 h2,u=.agg #[.bool (H.bU i).live,.bool (H.bU i).dying,.int .i64 (H.bU i).first,v1,v2]∧Own 3 1 v1 h1 ((H.bU i).aP.map bY)∧Own 173 2 v2 h2 ((H.bU i).maps.map eu)∧aJ (h1++h2) hn):=by
 have hL:=jv h.ok;have h2:w.rangeAt X 2 [vv]:=aV (k:=2) (n:=1) h.x rfl;have h2':=ak h2;have h4:w.rangeAt X 4 [mv 0,mv 1,mv 2,mv 3]:=aV (k:=4) (n:=4) h.x rfl
 have h4i:w.cell? ⟨X,4+i,none⟩=some (mv i):=by
  have:i=0∨i=1∨i=2∨i=3:=by omega
  rcases this with rfl | rfl | rfl | rfl
  ·exact h4 0 _ rfl
  ·exact h4 1 _ rfl
  ·exact h4 2 _ rfl
  ·exact h4 3 _ rfl
 have hms:=h.m i hi;obtain⟨cs,vs,e1,e2,_,hH⟩:=h.h.ex;have hvl:vs.length=4:=by rw[←hL.v,←e2,bG9]
 have hfit:=h.h.fit.v (H.vu i) (getD_mem bG1);have hop:=hH.vs.rows.opened;rw[hvl] at hop;obtain⟨q,cap,rfl,hne,_⟩:=hop;obtain⟨b,o,rfl⟩:=hne bB';have hr:=hH.vs.rows.row (k:=i) bA4;have hfs:=hH.vs.fs _ (getD_mem (l:=vs) (k:=i) bA4);have mQ:=hH.vs.vs _ (getD_mem (l:=vs) (k:=i) bA4);have hu:=rM e2 i;rw[show H.vs.getD i default=H.vu i from rfl] at hu;have aX1:(H.msA i).length≤4096:=by unfold HyD.msA;rw[bG9];exact zi H i
 obtain⟨g,hg⟩:∃ g,g=H.bU i:=⟨_,rfl⟩
 rw[←hg];unfold HyD.bU at hg;rw[←hu] at hfit hg;have hmm:H.wY i=(H.msA i).map fun m=>⟨m.mid,m.dZ⟩:=by unfold HyD.msA;rw[bW1];exact (List.map_id _).symm
 rw[hmm] at hg;generalize H.msA i=ms at hms aX1 hg;generalize vs.getD i default=v at *;simp only[eF.u,kM.root] at hfit hg;refine enter Tryz.func119 ?_;refine run ?_;intro G V Q;refine ah _ rfl (fun hc=>?_) (fun hc=>?_)
 ·have hlf:v.live=false:=by simpa using hc
  refine run ?_;refine dS (cs:=#[.bool v.live,.bool v.dying,.int .i64 0,.slice none 0 0,.slice none 0 0]) ?_;rw[hlf,cond_false] at hg;rw[hg,hlf];exact⟨_,[],_,[],rfl,Own.nil _ _,Own.nil _ _,by (exact aj)⟩
 have hlt:v.live=true:=by simpa using hc
 rw[hlt,cond_true] at hg;rw[hlt];refine run ?_;have aX2:=hfs.opened;refine sG (σ:=Int) (fun _=>[]) (fun z=>[⟨Q,#[.bool true,.bool v.dying,.int .i64 z,.slice none 0 0,.slice none 0 0],100⟩,⟨V,#[.bool true,.bool v.dying,.int .i64 v.aO,v.fv,v.rv,v.vv],62⟩,⟨G,#[.bool false,.bool false,.int .i64 0,.slice none 0 0,.slice none 0 0],100⟩]) (fun z=>z=bif decide (0<v.fs.length) then v.fs.getD 0 0 else 0) ?_ ?_
 ·refine ah _ rfl (fun hc2=>?_) (fun hc2=>?_)
  ·have h0:0<v.fs.length:=by simpa using hc2
   obtain⟨qf,cf,ef,rP,_⟩:=aX2;obtain⟨bf,BI,rfl⟩:=rP (by intro e;rw[e] at h0;simp at h0);rw[ef] at hfs ⊢;have hrf:=ak (hfs.row h0);simp only[bJ5] at hrf;refine run ?_;exact kZ (v.fs.getD 0 0) (by rw[decide_eq_true h0,cond_true])
  ·have h0:¬ 0<v.fs.length:=by simpa using hc2
   refine run ?_;exact kZ 0 (by rw[decide_eq_false h0,cond_false])
 rintro z hz;replace hg:g=⟨true,v.dying,z,v.vs.map AA.on,ms.map fun m=>⟨m.mid,m.dZ⟩⟩:=by rw[hg,hz];rfl
 refine run ?_;have aX3:=mQ.opened;obtain⟨qv,AO,ev,XX,_⟩:=aX3;rw[ev];refine aK (σ:=Nat×Value×Hp) (fun s=>[(40,.int .i64 (s.1:Int))]) (fun s=>⟨Q,#[.bool true,.bool v.dying,.int .i64 z,s.2.1,.slice none 0 0],100⟩::⟨V,#[.bool true,.bool v.dying,.int .i64 v.aO,v.fv,v.rv,.slice qv v.vs.length AO],62⟩::⟨G,#[.bool false,.bool false,.int .i64 0,.slice none 0 0,.slice none 0 0],100⟩::s.2.2) (fun s=>s.1≤v.vs.length∧Own 3 1 s.2.1 s.2.2 (((v.vs.take s.1).map AA.on).map bY)) (fun s=>v.vs.length-s.1) (0,.slice none 0 0,[]) ⟨bH3 _,Own.nil _ _⟩ ?_ (hh:=by dsimp only;(exact aj));rintro⟨k,gv,ha⟩ m hm ⟨hk,hA⟩;dsimp only at hm hk hA ⊢;refine run ?_;refine ah _ rfl (fun hc2=>?_) (fun hc2=>?_)
 ·have hkl:k<v.vs.length:=by simp at hc2;omega
  obtain⟨bv,ov,rfl⟩:=XX bF9;rw[ev] at mQ;have Zl:=mQ.row hkl;refine run ?_;intro B1 B2;refine aS (⟨B2,#[.int .i64 (v.vs.getD k default).on],3⟩::⟨Q,#[.bool true,.bool v.dying,.int .i64 z,gv,.slice none 0 0],100⟩::⟨V,#[.bool true,.bool v.dying,.int .i64 v.aO,v.fv,v.rv,.slice (some ⟨bv,ov,none⟩) v.vs.length AO],62⟩::⟨G,#[.bool false,.bool false,.int .i64 0,.slice none 0 0,.slice none 0 0],100⟩::ha) aj ?_;refine wu (c:=[.int .i64 (v.vs.getD k default).on]) (⟨B2,#[.int .i64 (v.vs.getD k default).on],3⟩::⟨Q,#[.bool true,.bool v.dying,.int .i64 z,gv,.slice none 0 0],100⟩::⟨V,#[.bool true,.bool v.dying,.int .i64 v.aO,v.fv,v.rv,.slice (some ⟨bv,ov,none⟩) v.vs.length AO],62⟩::[⟨G,#[.bool false,.bool false,.int .i64 0,.slice none 0 0,.slice none 0 0],100⟩]) hA (fun v' ha' hA2=>?_) bA' (aY (m:=1) mh rfl) (hperm:=by (exact aT));obtain⟨q9,c9,e9⟩:=hA2.opened;subst e9;refine aS (⟨Q,#[.bool true,.bool v.dying,.int .i64 z,gv,.slice none 0 0],100⟩::⟨V,#[.bool true,.bool v.dying,.int .i64 v.aO,v.fv,v.rv,.slice (some ⟨bv,ov,none⟩) v.vs.length AO],62⟩::⟨G,#[.bool false,.bool false,.int .i64 0,.slice none 0 0,.slice none 0 0],100⟩::ha') aj ?_;refine run ?_;exact aF (k+1,_,ha') ⟨hkl,by dsimp only;rw[bL7 hkl,bI6,bI6,bM7,bM7,jJ v.vs hkl];exact hA2⟩ (hm:=by dsimp only;omega) (h2:=by (exact aj))
 have hke:k=v.vs.length:=by simp at hc2;omega
 subst hke;rw[bM6] at hA;obtain⟨qa,ca,xa⟩:=hA.opened;simp only[bG9] at xa;subst xa;obtain⟨qm,cm,em,aX4,_⟩:=hms.opened;rw[em] at hms h4i;refine run ?_;refine aK (σ:=Nat×Value×Hp) (fun s=>[(59,.int .i64 (s.1:Int))]) (fun s=>⟨Q,#[.bool true,.bool v.dying,.int .i64 z,.slice qa v.vs.length ca,s.2.1],100⟩::⟨V,#[.bool true,.bool v.dying,.int .i64 v.aO,v.fv,v.rv,.slice qv v.vs.length AO],62⟩::⟨G,#[.bool false,.bool false,.int .i64 0,.slice none 0 0,.slice none 0 0],100⟩::(ha++s.2.2)) (fun s=>s.1≤ms.length∧Own 173 2 s.2.1 s.2.2 (((ms.take s.1).map fun m=>(⟨m.mid,m.dZ⟩:jT)).map eu)) (fun s=>ms.length-s.1) (0,.slice none 0 0,[]) ⟨bH3 _,Own.nil _ _⟩ ?_ (hh:=by dsimp only;(exact aj));rintro⟨k,gv,hb⟩ m hm ⟨hk,hB⟩;dsimp only at hm hk hB ⊢;refine run ?_;refine ah _ rfl (fun hc3=>?_) (fun hc3=>?_)
 ·have hkl:k<ms.length:=by simp at hc3;omega
  obtain⟨bm,om,rfl⟩:=aX4 bF9;have hrm:=hms.row hkl;refine run ?_;intro B1 B2;refine aS (⟨B2,#[.int .i64 (ms.getD k default).mid,.int .i64 (ms.getD k default).dZ],173⟩::⟨Q,#[.bool true,.bool v.dying,.int .i64 z,.slice qa v.vs.length ca,gv],100⟩::⟨V,#[.bool true,.bool v.dying,.int .i64 v.aO,v.fv,v.rv,.slice qv v.vs.length AO],62⟩::⟨G,#[.bool false,.bool false,.int .i64 0,.slice none 0 0,.slice none 0 0],100⟩::(ha++hb)) aj ?_;refine wu (c:=[.int .i64 (ms.getD k default).mid,.int .i64 (ms.getD k default).dZ]) (⟨B2,#[.int .i64 (ms.getD k default).mid,.int .i64 (ms.getD k default).dZ],173⟩::⟨Q,#[.bool true,.bool v.dying,.int .i64 z,.slice qa v.vs.length ca,gv],100⟩::⟨V,#[.bool true,.bool v.dying,.int .i64 v.aO,v.fv,v.rv,.slice qv v.vs.length AO],62⟩::⟨G,#[.bool false,.bool false,.int .i64 0,.slice none 0 0,.slice none 0 0],100⟩::ha) hB (fun v' ha' hA2=>?_) bA' (aY (m:=2) mh rfl) (hperm:=by (exact aT));obtain⟨q9,c9,e9⟩:=hA2.opened;subst e9;refine aS (⟨Q,#[.bool true,.bool v.dying,.int .i64 z,.slice qa v.vs.length ca,gv],100⟩::⟨V,#[.bool true,.bool v.dying,.int .i64 v.aO,v.fv,v.rv,.slice qv v.vs.length AO],62⟩::⟨G,#[.bool false,.bool false,.int .i64 0,.slice none 0 0,.slice none 0 0],100⟩::(ha++ha')) aj ?_;refine run ?_;exact aF (k+1,_,ha') ⟨hkl,by dsimp only;rw[bL7 hkl,bI6,bI6,bM7,bM7,jJ ms hkl];exact hA2⟩ (hm:=by dsimp only;omega) (h2:=by (exact aj))
 have hke:k=ms.length:=by simp at hc3;omega
 subst hke;rw[bM6] at hB;obtain⟨qb,cb,xb⟩:=hB.opened;simp only[bG9] at xb;subst xb;refine run ?_;refine dS (cs:=#[.bool true,.bool v.dying,.int .i64 z,.slice qa v.vs.length ca,.slice qb ms.length cb]) ?_;rw[hg];exact⟨_,ha,_,hb,rfl,hA,hB,by (exact aj)⟩
theorem Dl{ws:List Nat}{root:Int}{q:Nat}{m:jT}:∀ {n:Nat} {xs:List jT},dL ws root q n=some xs→m∈xs→∃ k,k<n∧lU ws root (q+k)=some [m]:=by
 intro n
 induction n with
 | zero=>intro xs h hm;cases h;cases hm
 | succ n ih=>
  intro xs h hm;rw[dL] at h
  cases h1:dL ws root q n with
  | none=>rw[h1] at h;cases h
  | some a=>
   rw[h1] at h;dsimp only at h
   cases h2:lU ws root (q+n) with
   | none=>rw[h2] at h;cases h
   | some b=>
    rw[h2] at h;cases h;rcases bJ6.1 hm with h3 | h3
    ·obtain⟨k,hk,e⟩:=ih h1 h3;exact⟨k,by omega,e⟩
    ·refine⟨n,by omega,?_⟩;rw[h2];unfold lU at h2;dsimp only at h2;revert h2
     cases (!(aQ ws root (q+n) 3).ok) with
     | true=>intro h2;cases h2
     | false=>
      cases decide ((aQ ws root (q+n) 3).d.kind=2) with
      | true=>intro h2;cases h2;rw[bM5.1 h3]
      | false=>intro h2;cases h2;cases h3
theorem vH{ws:List Nat}{root:Int}{q:Nat}{m:jT}(h:lU ws root q=some [m]):(aQ ws root q 3).ok=true∧(aQ ws root q 3).d.kind=2∧m.mid=(q:Int)∧m.dZ=(aQ ws root q 3).d.frame+((q%au (aQ ws root q 3).lv:Nat):Int):=by
 unfold lU at h;dsimp only at h;revert h
 cases (aQ ws root q 3).ok with
 | false=>intro h;cases h
 | true=>
  by_cases hk:(aQ ws root q 3).d.kind=2
  ·rw[decide_eq_true hk];intro h;cases h;exact⟨rfl,hk,rfl,rfl⟩
  ·rw[decide_eq_false hk];intro h;cases h
theorem ae8{m:jT}(h:m∈H.wY i):∃ q:Nat,q≤15∧(H.vu i).has=true∧lU H.ws (H.vu i).root q=some [m]:=by
 unfold HyD.wY at h
 cases hh:(H.vu i).has with
 | false=>rw[hh] at h;cases h
 | true=>
  rw[hh,cond_true] at h;obtain⟨h1,h2⟩:=bN1.1 h
  cases hp:dL H.ws (H.vu i).root 0 4096 with
  | none=>rw[hp] at h1;cases h1
  | some xs=>
   rw[hp] at h1;obtain⟨k,hk,e⟩:=Dl hp h1;rw[bJ4] at e;have:=(vH e).2.2.1;rw[this] at h2;exact⟨k,by simp at h2;omega,rfl,e⟩
theorem Q4{m:jT}(h:m∈H.wY i):0≤m.mid∧m.mid≤15∧0≤m.dZ∧m.dZ≤8191:=by
 obtain⟨q,hq,_,e⟩:=ae8 h;obtain⟨h1,h2,h3,h4⟩:=vH e;have hf:=jR h1;have hd:=mF H.ws ((aQ H.ws (H.vu i).root q 3).place q) (aQ H.ws (H.vu i).root q 3).lv;rw[←hf.d] at hd;have:=(gI hd).2.2.2 h2;have hm:q%au (aQ H.ws (H.vu i).root q 3).lv≤q:=Nat.mod_le _ _;omega
end
theorem Ua{ws:List Nat}{p down:Nat}:∀ (k level:Nat) (f:Int) (fs:List Int) (d:DsD),fs.length≤(bT ws p down k level f fs d).fs.length:=by
 intro k
 induction k with
 | zero=>intro level f fs d;exact bI0 _
 | succ k ih=>
  intro level f fs d;rw[bT]
  cases bJ ws.length f with
  | false=>exact bI0 _
  | true=>
   simp only[cond_true]
   cases (!decide ((gQ ws (jk f level p) level).kind=1)||decide (level=down)) with
   | true=>simp
   | false=>
    have:=ih (level+1) (gQ ws (jk f level p) level).frame (fs++[f]) (gQ ws (jk f level p) level);rw[bJ0] at this;simp only[cond_false];omega
theorem Ub{ws:List Nat}{p q:Nat}:∀ (k level:Nat) (f:Int) (fs:List Int) (d:DsD),fs.length=level→(∀ l,level≤l→l<(bT ws p 3 k level f fs d).fs.length→mD l q=mD l p)→bT ws q 3 k level f fs d=bT ws p 3 k level f fs d:=by
 intro k
 induction k with
 | zero=>intro level f fs d _ _;rfl
 | succ k ih=>
  intro level f fs d hfs h
  have hg:bJ ws.length f=true→level<(bT ws p 3 (k+1) level f fs d).fs.length:=fun hh=>by
   rw[bT,hh];simp only[cond_true]
   cases (!decide ((gQ ws (jk f level p) level).kind=1)||decide (level=3)) with
   | true=>simp[hfs]
   | false=>
    have:=Ua (ws:=ws) (p:=p) (down:=3) k (level+1) (gQ ws (jk f level p) level).frame (fs++[f]) (gQ ws (jk f level p) level);rw[bJ0,hfs] at this;simp only[cond_false];exact this
  cases hh:bJ ws.length f with
  | false=>rw[bT,bT,hh];rfl
  | true=>
   have hi:=h level (bI0 _) (hg hh);rw[bT] at h;rw[bT,bT,hh];simp only[cond_true];rw[show jk f level q=jk f level p by unfold jk;rw[hi]];rw[hh] at h;simp only[cond_true] at h
   cases hc:(!decide ((gQ ws (jk f level p) level).kind=1)||decide (level=3)) with
   | true=>rfl
   | false=>
    rw[hc] at h;simp only[cond_false] at h ⊢;exact ih _ _ _ _ (by simp[hfs]) fun l h1 h2=>h l bA4 h2
theorem Pv{l:Nat}:au l=2 ^ lS l:=by unfold au;rw[Nat.one_shiftLeft]
theorem Uc{ws:List Nat}{root:Int}{p q:Nat}(h:q/au (aQ ws root p 3).lv=p/au (aQ ws root p 3).lv):aQ ws root q 3=aQ ws root p 3:=by
 refine Ub 4 0 root [] dG rfl fun l _ hl=>?_;have hle:l≤(aQ ws root p 3).lv:=by unfold qQ.lv aQ;omega
 have h4:=yT ws root p 3;generalize (aQ ws root p 3).lv=lv at h hle;unfold mD;rw[bO8,bO8];rw[Pv] at h;have hb:lS l=lS lv+(lS l-lS lv):=by unfold lS;omega
 rw[hb,Nat.pow_add,←Nat.div_div_eq_div_mul,←Nat.div_div_eq_div_mul,h]
section
attribute [local irreducible] Hy St Ops DH dI
def an8(r:Option (List jT))(u:Value)(hn:Hp):Prop:=match r with
 | none=>u=.tuple #[.slice none 0 0,.bool false]
 | some xs=>∃ v h,u=.tuple #[v,.bool true]∧Own 173 2 v h (xs.map eu)∧aJ h hn
theorem ay0(ws:List Nat)(hw:lT ws)(h:aA w v 1 (ws.map uV))(root:Int)(hn:ws.length<1000000):Fn Tryz.prog 92 [.agg #[v],.int .i64 root].toArray w [] (fun u hn=>an8 (dL ws root 0 4096) u hn):=by
 obtain⟨q,cap,rfl,hne,hle⟩:=h.opened;refine enter Tryz.func92 ?_;refine run ?_;intro B;refine run ?_;refine aK (σ:=Nat×Value×Hp×List jT) (fun s=>[(7,.int .i64 (s.1:Int)),(6,s.2.1)]) (fun s=>⟨B,#[.slice q ws.length cap],24⟩::s.2.2.1) (fun s=>s.1≤4096∧s.2.2.2.length≤s.1∧dL ws root 0 s.1=some s.2.2.2∧(∀ q,q<s.1→(q/au (aQ ws root q 3).lv+1)*au (aQ ws root q 3).lv≤s.1)∧Acc 173 2 s.2.1 s.2.2.1 (s.2.2.2.map eu)) (fun s=>4096-s.1) (0,.slice none 0 0,[],[]) ⟨bH3 _,bI0 _,rfl,fun q hq=>absurd hq bA4,Acc.nil _ _⟩ ?_;rintro⟨mid,av,ha,xs⟩ m hm ⟨hmid,hxl,qG,hbl,hA⟩;dsimp only at hm hmid hxl qG hbl hA ⊢;obtain⟨qa,ca,ea⟩:=hA.own.opened;rw[bG9] at ea;subst ea;refine run ?_;refine ah _ rfl (fun hc=>?_) (fun hc=>?_)
 ·have hlt:mid≤4095:=by simp at hc;omega
  refine run ?_;refine bH (fun wc hG=>OA ws hw (h.good hG) root mid hlt bA4) ?_;rintro u hn2 ⟨v2,h2,rfl,hO,hle2⟩;have hl4:=yT ws root mid 3;have hwb:=fun p2=>Uc (ws:=ws) (root:=root) (p:=mid) (q:=p2);generalize hW:aQ ws root mid 3=W at hO hl4 hwb ⊢;obtain⟨q2,c2,e2⟩:=hO.opened;rw[bG9] at e2;subst e2;refine aS (⟨B,#[.slice q ws.length cap],24⟩::ha) aj ?_;refine run ?_;intro D;refine run ?_
  cases hok:W.ok with
  | false=>
   have hnone:dL ws root 0 4096=none:=LC (k:=mid) (by unfold lU;rw[bJ4,hW];simp[hok]) bA4;rw[hnone];refine aN ?_
   exact fin2 rfl
  | true=>
   have kH:=jR (hW▸hok);rw[hW] at kH;have hpos:=kH.pos;have hc9:=fK (level:=W.lv) (by unfold qQ.lv;omega);simp only[cond_true];refine aN ?_;refine az (fun wc hG=>o8 W.lv (by unfold qQ.lv;omega) wc) ?_;refine run ?_;generalize hcv:au W.lv=c at *
   have hal:mid%c=0:=by
    rcases bU1 (mid%c) with h0 | h0
    ·exact h0
    ·exfalso;have hdm:=Nat.div_add_mod mid c;have hm0:mid≠0:=by intro e;rw[e,Nat.zero_mod] at h0;omega
     have hq:(mid-1)/c=mid/c:=by
      have:mid-1=(mid%c-1)+c*(mid/c):=by omega
      have hlt2:=bU' mid (show 0<c by omega);rw[this,Nat.add_mul_div_left _ _ bA4,Nat.div_eq_of_lt bA4,bJ4]
     have h1:=hbl (mid-1) bA4;rw[hwb (mid-1) hq,hcv,hq,bM8] at h1;have hlt2:=bU' mid (show 0<c by omega);rw[bP6] at h1;omega
   have hc4:c=512∨c=64∨c=8∨c=1:=by
    rw[←hcv];have h4:W.lv<4:=by unfold qQ.lv;omega
    generalize W.lv=lv at h4;obtain rfl | rfl | rfl | rfl:lv=0∨lv=1∨lv=2∨lv=3:=by omega
    all_goals decide
   have hmc:mid+c≤4096:=by clear hcv;rcases hc4 with rfl | rfl | rfl | rfl<;>omega
   have hqd:∀ q,mid≤q→q<mid+c→q/c=mid/c:=fun q h1 h2=>by clear hcv;rcases hc4 with rfl | rfl | rfl | rfl<;>omega
   have aL3:∀ q,q<mid+c→(q/au (aQ ws root q 3).lv+1)*au (aQ ws root q 3).lv≤mid+c:=fun q hq=>by
    rcases bP5 q mid with h1 | h1
    ·exact bO' (hbl q h1) bA4
    ·rw[hwb q (hqd q h1 hq),hcv,hqd q h1 hq,bM8,bP6];have:=Nat.div_add_mod mid c;omega
   have hws:∀ j,j<c→aQ ws root (mid+j) 3=W:=fun j hj=>hwb _ (hqd _ bA4 bA4)
   have hall:dL ws root 0 (mid+c)=some (xs++bif decide (W.d.kind=2) then rJ mid W.d.frame c else []):=by
    rw[wH,qG];dsimp only;rw[bJ4];by_cases hk:W.d.kind=2
    ·rw[LD hok hk (by rw[hcv];exact hal) c (by rw[hcv];exact bI0 _) hws,decide_eq_true hk];rfl
    ·rw[XH hok hk c hws,decide_eq_false hk];rfl
   have hfr:W.d.kind=2→0≤W.d.frame∧W.d.frame≤4095:=fun hk=>by
    have hmay:W.d.may 2 W.lv=true:=by rw[kH.d];exact mF _ _ _
    obtain⟨_,_,_,k4⟩:=gI hmay;have:=k4 hk;omega
   refine ah _ rfl (fun hc2=>?_) (fun hc2=>?_)
   ·have hk:W.d.kind=2:=of_decide_eq_true hc2;have hfr2:=hfr hk;rw[decide_eq_true hk] at hall;refine run ?_;refine aK (σ:=Nat×Value×Hp) (fun s=>[(13,.int .i64 (s.1:Int)),(6,s.2.1)]) (fun s=>⟨D,#[.int .i64 W.d.kind,.int .i64 W.d.frame,.bool W.d.r,.bool W.d.w,.bool W.d.x,.bool W.d.af,.bool W.d.ng,.int .i64 W.d.soft,.int .i64 W.d.note],95⟩::⟨B,#[.slice q ws.length cap],24⟩::s.2.2) (fun s=>s.1≤c∧Acc 173 2 s.2.1 s.2.2 ((xs++rJ mid W.d.frame s.1).map eu)) (fun s=>c-s.1) (0,.slice qa xs.length ca,ha) ⟨bH3 _,by simpa [rJ] using hA⟩ ?_;rintro⟨k,kv,hk2⟩ m2 hm2 ⟨hkc,hA2⟩;dsimp only at hm2 hkc hA2 ⊢;obtain⟨qb,cb,eb⟩:=hA2.own.opened;subst eb;refine run ?_;refine ah _ rfl (fun hc3=>?_) (fun hc3=>?_)
    ·have ay5:k<c:=by simp at hc3;omega
     refine run ?_;intro T;refine dK (c:=eu ⟨((mid+k:Nat):Int),W.d.frame+(k:Int)⟩) (hp':=[⟨T,#[.int .i64 ((mid:Int)+(k:Int)),.int .i64 (W.d.frame+(k:Int))],173⟩,⟨D,#[.int .i64 W.d.kind,.int .i64 W.d.frame,.bool W.d.r,.bool W.d.w,.bool W.d.x,.bool W.d.af,.bool W.d.ng,.int .i64 W.d.soft,.int .i64 W.d.note],95⟩,⟨B,#[.slice q ws.length cap],24⟩]) hA2 (fun v' ha' hA'=>?_) (by simp[zg];omega) (aY (m:=2) mh rfl) (hperm:=by (exact aT));rw[show (xs++rJ mid W.d.frame k).map eu++[eu ⟨((mid+k:Nat):Int),W.d.frame+(k:Int)⟩]=(xs++rJ mid W.d.frame (k+1)).map eu by rw[rJ];simp] at hA';refine aS (⟨D,#[.int .i64 W.d.kind,.int .i64 W.d.frame,.bool W.d.r,.bool W.d.w,.bool W.d.x,.bool W.d.af,.bool W.d.ng,.int .i64 W.d.soft,.int .i64 W.d.note],95⟩::⟨B,#[.slice q ws.length cap],24⟩::ha') aj ?_;refine run ?_;refine aF (k+1,v',ha') ⟨ay5,hA'⟩ (hm:=by dsimp only;omega) (h2:=by (exact aj))
    ·have ay6:k=c:=by simp at hc3;omega
     subst ay6;refine run ?_;refine aF (mid+k,.slice qb ((xs++rJ mid W.d.frame k).map eu).length cb,hk2,xs++rJ mid W.d.frame k) ⟨hmc,by simp[zg];omega,hall,aL3,hA2⟩ (hm:=by dsimp only;omega) (h2:=by (exact aj))
   ·have hk:¬ W.d.kind=2:=of_decide_eq_false hc2;rw[decide_eq_false hk] at hall;refine run ?_;refine aF (mid+c,.slice qa xs.length ca,ha,xs) ⟨hmc,by dsimp only;omega,by simpa using hall,aL3,hA⟩ (hm:=by dsimp only;omega) (h2:=by (exact aj))
 ·refine run ?_;have:mid=4096:=by simp at hc;omega
  subst this;rw[qG];exact fin2 ⟨_,ha,rfl,hA.own,by (exact aj)⟩
end
theorem aA.an9{w':World}{hp:Hp}{mu:List Nat}{o cap sz:Nat}{xs:List (List Value)}(h:aA w (.slice (some ⟨b,o,none⟩) n cap) sz xs)(hb:b∉mu)(hG:Good w mu hp w'):aA w' (.slice (some ⟨b,o,none⟩) n cap) sz xs:=by
 obtain⟨⟨p,c,e,hp⟩,hl⟩:=h;refine⟨⟨p,c,e,fun hne=>?_⟩,hl⟩;obtain⟨b',off,rfl,hr⟩:=hp hne;injection e with e
 injection e with e
 injection e with e1 e2
 subst e1;exact⟨b,off,rfl,fun i c hc=>hG.range (hr i c hc) hb⟩
theorem Good.apart{w0:World}{hp:Hp}{mu:List Nat}{o cap:Nat}{ws:List Nat}(hG:Good w0 mu hp w)(h:aA w0 (.slice (some ⟨b,o,none⟩) n cap) 1 (ws.map uV))(hne:ws≠[])(hb:b∉mu):b∉hp.map (·.b):=by
 have h0:0<ws.length:=List.length_pos_iff.2 hne;have hr:=h.row h0;have hc:=hr 0 _ rfl;have hlt:b<w0.heap.size:=block_lt_of_cell hc;intro hm;obtain⟨e,he,rfl⟩:=bH9.1 hm;rcases hG.own e he with h1 | h1
 ·exact hb h1
 ·omega
theorem ae9{ws:List Nat}{root:Int}{q:Nat}:∀ {n:Nat} {xs:List jT},dL ws root q n=some xs→xs.length≤n:=by
 intro n
 induction n with
 | zero=>intro xs h;cases h;exact bI0 _
 | succ n ih=>
  intro xs h;rw[dL] at h
  cases h1:dL ws root q n with
  | none=>rw[h1] at h;cases h
  | some ys=>
   rw[h1] at h;dsimp only at h;have hy:=ih h1
   cases h2:lU ws root (q+n) with
   | none=>rw[h2] at h;cases h
   | some zs=>
    rw[h2] at h;cases h
    have hz:zs.length≤1:=by
     unfold lU at h2;dsimp only at h2
     cases h3:(!(aQ ws root (q+n) 3).ok) with
     | true=>rw[h3] at h2;cases h2
     | false=>
      rw[h3,cond_false] at h2
      cases h4:decide ((aQ ws root (q+n) 3).d.kind=2) with
      | true=>rw[h4] at h2;cases h2;exact bI0 _
      | false=>rw[h4] at h2;cases h2;exact bH3 _
    rw[bJ0];omega
section
attribute [local irreducible] Hy St Ops DH dI
def aL4(r:Option (List jT))(xs:List jT)(u:Value)(hn:Hp):Prop:=match r with
 | none=>u=.tuple #[.slice none 0 0,.bool false]
 | some ys=>∃ v h,u=.tuple #[v,.bool true]∧Acc 173 2 v h ((xs++ys).map eu)∧aJ h hn
theorem ae'(ws:List Nat)(hw:lT ws)(hm:fM ws.length=true)(root:Int):∀ (k level:Nat),level+k=3→∀ (w:World) (b o cap:Nat) (h:aA w (.slice (some ⟨b,o,none⟩) ws.length cap) 1 (ws.map uV)) (f:Int) (page:Nat) (hp:page%(8*au level)=0) (hpl:page+8*au level≤4096) (hon:BD ws root f level page) (xs:List jT) (hxl:xs.length≤page) (v:Value) (ha:Hp) (hA:Acc 173 2 v ha (xs.map eu)) (hN:eU ha w) (hb:b∉ha.map (·.b)),
  Fn Tryz.prog 194 [.agg #[.slice (some ⟨b,o,none⟩) ws.length cap,.int .i64 root],v,.int .i64 f,.int .i64 (level:Int),.int .i64 (page:Int)].toArray w (ha.map (·.b)) (fun u hn=>aL4 (dL ws root page (8*au level)) xs u hn):=by
 intro k
 induction k using Nat.strongRecOn with
 | ind k ih=>
 intro level hlk w b o cap h f page hp hpl hon xs hxl v ha hA hN hb;have rZ:=bP hm;have hl:level<4:=by omega
 have hc9:=fK hl;obtain⟨q,c,ev⟩:=hA.own.opened;rw[bG9] at ev;subst ev;refine eH ha hN Tryz.func194 ?_;refine run ?_;intro B;refine run ?_;refine az (fun wc hG=>OD ws.length cap _ root bA4 f wc) ?_;refine run ?_;refine ah _ rfl (fun hc=>?_) (fun hc=>?_)
 ·have hh:bJ ws.length f=false:=by simpa using hc
  rw[O4 hl hon hh];refine run ?_;exact fin2 rfl
 have hh:bJ ws.length f=true:=by simpa using hc
 have hfi:=iK hh;refine run ?_;refine az (fun wc hG=>Gv level hl wc) ?_;refine run ?_;have hwl:ws≠[]:=by intro e;rw[e] at rZ;simp at rZ
 generalize hcv:au level=cv at *;have aX7:dL ws root page 0=some []:=rfl;refine aK (σ:=Nat×Value×Hp×List jT) (fun s=>[(29,.int .i64 (s.1:Int)),(1,s.2.1)]) (fun s=>⟨B,#[.slice (some ⟨b,o,none⟩) ws.length cap,.int .i64 root],272⟩::s.2.2.1) (fun s=>s.1≤8∧dL ws root page (s.1*cv)=some s.2.2.2∧s.2.2.2.length≤s.1*cv∧Acc 173 2 s.2.1 s.2.2.1 ((xs++s.2.2.2).map eu)) (fun s=>8-s.1) (0,.slice q xs.length c,ha,[]) ⟨bH3 _,by simp only[bQ6];exact aX7,bH3 _,by simpa using hA⟩ ?_;rintro⟨i,ov,h1,ys⟩ m hm2 ⟨hi,qG,hyl,hA1⟩;dsimp only at hm2 hi qG hyl hA1 ⊢;obtain⟨q1,c1,e1⟩:=hA1.own.opened;subst e1;refine run ?_;refine ah _ rfl (fun hc2=>?_) (fun hc2=>?_)
 ·have NK:i<8:=by simp at hc2;omega
  have hic:i*cv≤7*cv:=bK0 _ bA4;have hmul:(i:Int)*(cv:Int)=((i*cv:Nat):Int):=(Int.natCast_mul _ _).symm;have hsl:=TM hl (hcv▸hp) NK hh hon;rw[hcv] at hsl;refine run ?_;rw[show f*8+(i:Int)=((f.toNat*8+i:Nat):Int) by omega,show (page:Int)+(i:Int)*(cv:Int)=((page+i*cv:Nat):Int) by rw[hmul];omega];have hdm:=mF ws (f.toNat*8+i) level;have hdt:(gQ ws (f.toNat*8+i) level).kind=1→level<3:=fun e=>tu e;have aX8:=fun hl3=>xK (ws:=ws) (root:=root) (f:=f) (level:=level) (page:=page) (i:=i) hl3 (hcv▸hp) NK hh hon;refine az (fun wc hG=>am8 ws hw (h.an9 hb hG) root (f.toNat*8+i) level hl bA4 bA4) ?_;generalize gQ ws (f.toNat*8+i) level=d at *;obtain⟨hk3,hk0,hk1,hk2⟩:=gI hdm
  have hstep:∀ zs,dL ws root (page+i*cv) cv=some zs→dL ws root page ((i+1)*cv)=some (ys++zs):=fun zs hz=>by
   rw[bM8,wH,qG];dsimp only;rw[hz]
  have hstop:dL ws root (page+i*cv) cv=none→dL ws root page (8*cv)=none:=fun hz=>by
   have e:8*cv=i*cv+(cv+(7*cv-i*cv)):=by omega
   rw[e,wH,qG];dsimp only;rw[wH,hz]
  refine run ?_;intro D;refine run ?_;rcases hk3 with hk | hk | hk
  ·rw[hk];refine aN ?_;have h2:=hstep [] (hsl.2 hk);rw[bI3] at h2;refine aF (i+1,.slice q1 ((xs++ys).map eu).length c1,h1,ys) ⟨NK,h2,by dsimp only;rw[bM8];omega,hA1⟩ (hm:=by dsimp only;omega) (h2:=by (exact aj))
  ·rw[hk];refine aN ?_;have hl3:=hdt hk;have hcn:8*au (level+1)=cv:=by rw[←hcv,kK hl3]
   have hcm:(page+i*cv)%cv=0:=by
    have h8:cv ∣ page:=bW9 ⟨8,bP6 _ _⟩ (bQ8 hp);exact bS6 (Nat.dvd_add h8 ⟨i,bP6 _ _⟩)
   refine ja (R:=fun u hn=>aL4 (dL ws root (page+i*cv) cv) (xs++ys) u hn) h1 [⟨D,#[.int .i64 1,.int .i64 d.frame,.bool d.r,.bool d.w,.bool d.x,.bool d.af,.bool d.ng,.int .i64 d.soft,.int .i64 d.note],95⟩,⟨B,#[.slice (some ⟨b,o,none⟩) ws.length cap,.int .i64 root],272⟩] (fun wc hG=>by
    have h5:=ih (k-1) bA4 (level+1) bA4 wc b o cap (h.an9 hb hG) d.frame (page+i*cv) (by rw[hcn];exact hcm) (by rw[hcn];omega) (hcv▸aX8 hl3 hk) (xs++ys) (by rw[bJ0];omega) _ h1 hA1 hG.iT (fun hmem=>(hG.apart h hwl hb) (by rw[bI6];exact bI4 _ hmem));rw[hcn] at h5
    exact h5) ?_ aT
   intro u hn hR
   cases hz:dL ws root (page+i*cv) cv with
   | none=>
    rw[hz] at hR;obtain rfl:u=.tuple #[.slice none 0 0,.bool false]:=hR;rw[hstop hz];refine aN ?_
    exact fin2 rfl
   | some zs=>
    rw[hz] at hR;obtain⟨v',h',rfl,hA',hle'⟩:=hR;have hzl:=ae9 hz;refine ig hle' ?_;refine aN ?_;refine aF (i+1,v',h',ys++zs) ⟨NK,hstep zs hz,by dsimp only;rw[bJ0,bM8];omega,by rw[←bJ'];exact hA'⟩ (hm:=by dsimp only;omega) (h2:=by (exact aj))
  ·rw[hk];refine aN ?_;have hk4:=hk2 hk;have hfull:=hstep _ (hsl.1 hk);refine aK (σ:=Nat×Value×Hp) (fun s=>[(65,.int .i64 (s.1:Int)),(1,s.2.1)]) (fun s=>⟨D,#[.int .i64 2,.int .i64 d.frame,.bool d.r,.bool d.w,.bool d.x,.bool d.af,.bool d.ng,.int .i64 d.soft,.int .i64 d.note],95⟩::⟨B,#[.slice (some ⟨b,o,none⟩) ws.length cap,.int .i64 root],272⟩::s.2.2) (fun s=>s.1≤cv∧Acc 173 2 s.2.1 s.2.2 ((xs++(ys++rJ (page+i*cv) d.frame s.1)).map eu)) (fun s=>cv-s.1) (0,.slice q1 ((xs++ys).map eu).length c1,h1) ⟨bH3 _,by simpa [rJ] using hA1⟩ ?_;rintro⟨j,kv,hk2⟩ m2 QV ⟨hkc,hA2⟩;dsimp only at QV hkc hA2 ⊢;obtain⟨qb,cb,eb⟩:=hA2.own.opened;subst eb;refine run ?_;refine ah _ rfl (fun hc3=>?_) (fun hc3=>?_)
   ·have ay5:j<cv:=by simp at hc3;omega
    refine run ?_;intro T;refine dK (c:=eu ⟨((page+i*cv+j:Nat):Int),d.frame+(j:Int)⟩) (hp':=[⟨T,#[.int .i64 (((page+i*cv:Nat):Int)+(j:Int)),.int .i64 (d.frame+(j:Int))],173⟩,⟨D,#[.int .i64 2,.int .i64 d.frame,.bool d.r,.bool d.w,.bool d.x,.bool d.af,.bool d.ng,.int .i64 d.soft,.int .i64 d.note],95⟩,⟨B,#[.slice (some ⟨b,o,none⟩) ws.length cap,.int .i64 root],272⟩]) hA2 (fun v' ha' hA'=>?_) (by simp[zg];omega) (aY (m:=2) mh rfl) (hperm:=by (exact aT));rw[show (xs++(ys++rJ (page+i*cv) d.frame j)).map eu++[eu ⟨((page+i*cv+j:Nat):Int),d.frame+(j:Int)⟩]=(xs++(ys++rJ (page+i*cv) d.frame (j+1))).map eu by rw[rJ];simp] at hA';refine aS (⟨D,#[.int .i64 2,.int .i64 d.frame,.bool d.r,.bool d.w,.bool d.x,.bool d.af,.bool d.ng,.int .i64 d.soft,.int .i64 d.note],95⟩::⟨B,#[.slice (some ⟨b,o,none⟩) ws.length cap,.int .i64 root],272⟩::ha') aj ?_;refine run ?_;refine aF (j+1,v',ha') ⟨ay5,hA'⟩ (hm:=by dsimp only;omega) (h2:=by (exact aj))
   ·have ay6:j=cv:=by simp at hc3;omega
    subst ay6;refine run ?_;refine aF (i+1,.slice qb ((xs++(ys++rJ (page+i*j) d.frame j)).map eu).length cb,hk2,ys++rJ (page+i*j) d.frame j) ⟨NK,hfull,by dsimp only;rw[bJ0,zg,bM8];omega,hA2⟩ (hm:=by dsimp only;omega) (h2:=by (exact aj))
 ·have NK:i=8:=by simp at hc2;omega
  subst NK;rw[qG];refine run ?_;exact fin2 ⟨_,h1,rfl,hA1,by (exact aj)⟩
theorem LY{G R:Prop}(k:R)(h:yF R→G:=by (intro nR;(repeat (first | (with_reducible apply HY) | (with_reducible apply vN) | (with_reducible apply vO) | (with_reducible apply H9) | (with_reducible apply CJ) | (with_reducible apply vT) | (with_reducible apply su) | (with_reducible apply CO) | (with_reducible apply yh) | (with_reducible apply CE) | (with_reducible apply H6) | (with_reducible apply Cm) | (with_reducible apply CB) | ((with_reducible apply yj);rfl) | ((with_reducible apply jL);rfl;(first | exact Ws)) | ((with_reducible apply Ql);rfl;rfl;(exact l7);intro blk) | ((with_reducible apply CP aB);rfl;rfl;(exact l7);intro blk) | ((with_reducible apply yt aB);rfl;rfl;(exact l7);rfl;rfl;(exact DU);(exact Wp);(exact Wq);(exact xB)) | ((with_reducible apply yu aB);rfl;rfl;rfl;(exact l7);rfl;rfl;rfl;rfl;(exact Qy);intro blk) | ((with_reducible apply RY);rfl;rfl;rfl;rfl;(intro hg1;(try simp only[hg1,bI,bH6]);(first | exact hyG | exact Bq hg1 rfl))) | ((with_reducible apply Dx);rfl;rfl;rfl;rfl;(intro hg0 hg1;have hgC:=hg0;(try simp only[bG8] at hg0);(try simp only[hg0,hg1,bI,bH6,bM1,bQ0]);(first | exact hyG | exact Bq hg1 rfl | exact Ik hgC rfl))) | ((with_reducible apply VP);rfl;rfl;rfl;rfl)));(repeat revert blk);exact nR.get)):G:=h ⟨k⟩
def aL5(r:Option (List jT))(u:Value)(hn:Hp):Prop:=match r with
 | none=>u=.tuple #[.slice none 0 0,.int .i64 2]
 | some xs=>∃ v h,u=.tuple #[v,.int .i64 0]∧Own 173 2 v h (xs.map eu)∧aJ h hn
theorem XY(ws:List Nat)(hw:lT ws)(h:aA w v 1 (ws.map uV))(hm:fM ws.length=true)(root:Int):Fn Tryz.prog 116 [.agg #[v],.int .i64 root].toArray w [] (fun u hn=>aL5 (dL ws root 0 4096) u hn):=by
 have rZ:=bP hm;obtain⟨q,cap,rfl,hne,hle⟩:=h.opened;obtain⟨b,o,rfl⟩:=hne bE3;refine enter Tryz.func116 ?_;refine run ?_;intro B;refine run ?_;refine az (fun wc hG=>yQ ws.length cap bA4 _ wc) ?_;rw[hm];refine aN ?_;refine bH (fun wc hG=>ae' ws hw hm root 3 0 rfl wc b o cap (h.good hG) root 0 bA5 bA5 (qo ws root) [] (bI0 _) (.slice none 0 0) [] (Acc.nil _ _) ⟨by simp,by simp⟩ bA6) ?_;intro u hn hR;have e4:8*au 0=4096:=by decide
 rw[e4] at hR
 cases hz:dL ws root 0 4096 with
 | none=>
  rw[hz] at hR;obtain rfl:u=.tuple #[.slice none 0 0,.bool false]:=hR;refine aN ?_
  exact fin2 rfl
 | some zs=>
  rw[hz] at hR;obtain⟨v',h',rfl,hA',hle'⟩:=hR;refine ig hle' ?_;refine aN ?_;exact fin2 ⟨_,h',rfl,hA'.own,by (exact aj)⟩
end
section
attribute [local irreducible] Hy St Ops DH dI jl iR gX DS iw lV
theorem zn(H:HyD)(f:Nat):(-1≤(H.mJ f).own∧(H.mJ f).own≤4)∧-2≤(H.mJ f).wit∧(H.mJ f).wit≤4:=by
 unfold HyD.mJ;have h1:=Pq H f 1;have h2:=Pq H f 2;generalize iG H.ws 0 f=g;dsimp only
 cases (!decide (g.e=0)) with
 | true=>(simp only[cond_true,cond_false];omega)
 | false=>
  cases (decide (g.d.kind=2)&&decide (g.d.soft=0)) with
  | true=>(simp only[cond_true,cond_false];omega)
  | false=>
   cases (decide (g.d.kind=2)&&decide (g.d.soft=1)) with
   | true=>(simp only[cond_true,cond_false];cases decide (0<H.pz f 2)<;>(simp only[cond_true,cond_false];omega))
   | false=>
    cases (decide (g.d.kind=2)&&decide (g.d.soft=2)) with
    | true=>(simp only[cond_true,cond_false];cases decide (0<H.pz f 1)<;>(simp only[cond_true,cond_false];omega))
    | false=>
     cases hn:(decide (g.d.kind=0)&&decide (1<g.d.note)&&decide (g.d.note≤5)) with
     | true=>
      simp only[bG8,decide_eq_true_eq] at hn;simp only[cond_true,cond_false]
      omega
     | false=>(simp only[cond_true,cond_false];omega)
def LZ(H:HyD)(hx:Hp)(i:Nat)(r:List Value):Prop:=∃ v1 v2,r=[.bool (H.bU i).live,.bool (H.bU i).dying,.int .i64 (H.bU i).first,v1,v2]∧∀ w,Here hx w→aA w v1 1 ((H.bU i).aP.map bY)∧aA w v2 2 ((H.bU i).maps.map eu)
theorem LZ.le{a b:Hp}{r:List Value}(h:LZ H a i r)(hle:∀ e∈a,e∈b):LZ H b i r:=by
 obtain⟨v1,v2,e,h5⟩:=h;exact⟨v1,v2,e,fun w hw=>h5 w fun e he=>hw e (hle e he)⟩
theorem G7{H:HyD}(hf:H.Fit){i:Nat}(hi:i<H.vs.length):I64 (H.bU i).first∧(∀ x∈(H.bU i).aP,I64 x)∧(∀ x∈(H.bU i).maps,I64 x.mid∧I64 x.dZ)∧(H.bU i).aP.length<100000∧(H.bU i).maps.length<100000:=by
 have hv:=hf.v (H.vu i) (getD_mem hi);unfold HyD.bU
 cases (H.vu i).live with
 | false=>exact⟨(⟨by decide,by decide⟩:I64 0),by simp,by simp,by simp,by simp⟩
 | true=>
  rw[cond_true];refine⟨?_,?_,?_,by simpa using hv.2.2.1,?_⟩
  ·show I64 (bif decide (0<(H.vu i).fs.length) then (H.vu i).root else 0)
   cases hd:decide (0<(H.vu i).fs.length) with
   | false=>exact (⟨by decide,by decide⟩:I64 0)
   | true=>
    rw[cond_true];have h0:=of_decide_eq_true hd;refine hv.2.2.2.1 _ ?_;unfold kM.root;rw[bG',bH0 h0];exact bW8 h0
  ·intro x hx;obtain⟨c,hc,rfl⟩:=bH9.1 hx;exact hv.2.2.2.2.2 c hc
  ·intro x hx;have:=Q4 hx;unfold I64;omega
  ·have:=zi H i;show (H.wY i).length<100000;omega
theorem rQ(H:HyD):(∀ f,f<H.ws.length/8→H.aG.pg f=H.mJ f)∧(∀ i,i<4→H.aG.gs i=H.bU i)∧(∀ c,c<H.cs.length→H.aG.st c=⟨(H.cu c).vm,(H.cu c).vc⟩):=by
 refine⟨fun f hf=>?_,fun i hi=>?_,fun c hc=>?_⟩
 ·simp only[HyD.aG,PtD.pg,bG',bJ1,bO1 hf,bK7,bO3]
 ·simp only[HyD.aG,PtD.gs,bG',bJ1,bO1 hi,bK7,bO3]
 ·simp only[HyD.aG,PtD.st,HyD.cu,bG',bJ1,bH0 hc,bK7,bO3]
theorem G8{pv gv ov:Value}{ha hg hx ho:Hp}{G:List (List Value)}(hA:Acc 51 2 pv ha (((List.range (H.ws.length/8)).map H.mJ).map sU))(hB:Acc 100 5 gv hg G)(Ud:G.length=4)(hR:∀ i,i<4→LZ H hx i (G.getD i []))(hC:Own 104 2 ov ho ((H.cs.map fun c=>(⟨c.vm,c.vc⟩:JM)).map yJ))(hf:H.Fit)(hv:H.vs.length=4)(h:Here (ha++hg++hx++ho) w):dN w pv gv ov H.aG:=by
 obtain⟨hp1,hp2,hp3⟩:=rQ H
 have hex:∀ i,∃ p:Value×Value,i<4→G.getD i []=[.bool (H.bU i).live,.bool (H.bU i).dying,.int .i64 (H.bU i).first,p.1,p.2]∧∀ w,Here hx w→aA w p.1 1 ((H.bU i).aP.map bY)∧aA w p.2 2 ((H.bU i).maps.map eu):=fun i=>by
  by_cases hi:i<4
  ·obtain⟨v1,v2,e,h5⟩:=hR i hi;exact⟨(v1,v2),fun _=>⟨e,h5⟩⟩
  ·exact⟨(default,default),fun h=>absurd h hi⟩
 have hgl:H.aG.ay.length=4:=by simp[HyD.aG]
 refine⟨hA.lie (h.sub fun e he=>by simp[he]) (by have:=hf.l.1;simp;omega),⟨fun i=>(Classical.choose (hex i)).1,fun i=>(Classical.choose (hex i)).2,?_,fun i hi=>?_⟩,?_,?_⟩
 ·have e:((List.range H.aG.ay.length).map fun i=>[Value.bool (H.aG.gs i).live,.bool (H.aG.gs i).dying,.int .i64 (H.aG.gs i).first,(Classical.choose (hex i)).1,(Classical.choose (hex i)).2])=G:=by
   rw[hgl];refine List.ext_getElem (by simp[Ud]) fun i h1 h2=>?_;rw[List.getElem_map,List.getElem_range,hp2 i bA4];have:=(bS9 (hex i) bA4).1;rw[←this,bG',bH0 h2];rfl
  rw[e];exact hB.lie (h.sub fun e he=>by simp[he]) bA4
 ·rw[hgl] at hi;rw[hp2 i hi];exact (bS9 (hex i) hi).2 w (h.sub fun e he=>by simp[he])
 ·exact hC.lie (fun e he=>h e bC2) (by have:=hf.l.2.1;simp;omega)
 ·refine⟨fun f hf2=>?_,fun i hi=>?_,fun c hc=>?_⟩
  ·rw[hp1 f (by simpa [HyD.aG] using hf2)];have:=zn H f;unfold I64;omega
  ·rw[hgl] at hi;rw[hp2 i hi];have:=G7 hf (i:=i) bA4;exact⟨this.1,this.2.1,this.2.2.1⟩
  ·have hc':c<H.cs.length:=by simpa [HyD.aG] using hc
   rw[hp3 c hc'];have:=hf.c (H.cu c) (getD_mem hc');exact this.2.2
theorem Q5{w:World}{vv rv:Value}(h:xN w X wv cv vv rv mv H):Fn Tryz.prog 59 [.pointer (some ⟨X,0,none⟩)].toArray w [] (fun u hn=>∃ p1 p2 p3 k1 k2 k3:_,∃ n1 n2 n3:Nat,u=.agg #[.slice p1 n1 k1,.slice p2 n2 k2,.slice p3 n3 k3]∧∀ w,Here hn w→dN w (.slice p1 n1 k1) (.slice p2 n2 k2) (.slice p3 n3 k3) H.aG):=by
 have h':=h;have hL:=jv h.ok;have rZ:=bP hL.m;have hfit:=h.h.fit;obtain⟨cs,vs,e1,e2,_,hH⟩:=h.h.ex;have hvl:vs.length=4:=by rw[←hL.v,←e2,bG9]
 have hcl:cs.length=H.cs.length:=by rw[←e1,bG9]
 have h0:w.rangeAt X 0 [wv]:=aV (k:=0) (n:=1) h.x rfl;have h0':=ak h0;have hpe:∀ wc hp,Good w [] hp wc→∀ k:Nat,k≤4095→Fn Tryz.prog 118 [.pointer (some ⟨X,0,none⟩),.int .i64 (k:Int)].toArray wc [] (fun u _=>u=.agg #[.int .i64 (H.mJ k).own,.int .i64 (H.mJ k).wit]):=fun wc hp hG k hk=>ae7 (hG.range h.x bQ5) (fun i hi=>(h.m i hi).good hG) hH.Df (hH.ws.good hG) hL.m k hk;have hws:=hH.ws;obtain⟨q,cap,rfl,_,_⟩:=hws.opened;refine enter Tryz.func59 ?_;refine run ?_;intro R P;refine jL bA9 (uK rfl rfl H.ws.length 8 rfl rfl bA5 bA4) ?_;refine run ?_;refine aK (σ:=Nat×Value×Hp) (fun s=>[(16,.int .i64 (s.1:Int))]) (fun s=>⟨P,#[s.2.1,.slice none 0 0,.slice none 0 0],48⟩::⟨R,#[.slice none 0 0,.slice none 0 0,.slice none 0 0],48⟩::s.2.2) (fun s=>s.1≤H.ws.length/8∧Acc 51 2 s.2.1 s.2.2 (((List.range s.1).map H.mJ).map sU)) (fun s=>H.ws.length/8-s.1) (0,.slice none 0 0,[]) ⟨bH3 _,Acc.nil _ _⟩ ?_;rintro⟨k,pv,ha⟩ m hm ⟨hk,hA⟩;dsimp only at hm hk hA ⊢;obtain⟨qa,ca,xa⟩:=hA.own.opened;simp only[bG9,bN2] at xa;subst xa;refine run ?_;refine ah _ rfl (fun hc=>?_) (fun hc=>?_)
 ·have hlt:k<H.ws.length/8:=by simp at hc;omega
  refine run ?_;refine ve 9 6 [0,1,2,3,4,7] [(5,false),(6,false),(8,false)] [⟨R,#[.slice none 0 0,.slice none 0 0,.slice none 0 0],48⟩] ?_;refine kW ?_;refine Ed (fun wc hx hG=>hpe wc _ hG k bA4) ?_;refine kW ?_;generalize qG:H.mJ k=pg;refine xC ?_;refine Af [.int .i64 pg.own,.int .i64 pg.wit] (fun Z=>?_);refine dh ?_;refine XC (c:=sU pg) (hp':=⟨Z,#[.int .i64 pg.own,.int .i64 pg.wit],51⟩::⟨P,#[.slice qa k ca,.slice none 0 0,.slice none 0 0],48⟩::[⟨R,#[.slice none 0 0,.slice none 0 0,.slice none 0 0],48⟩]) hA (aY (m:=2) mh rfl) (by rw[bG9,bG9,bN2];omega) aT aj (fun v' ha' hA2=>?_);obtain⟨q9,c9,e9⟩:=hA2.own.opened;subst e9;refine xC ?_;refine jg (b:=P) (tb:=48) (cs:=#[.slice qa k ca,.slice none 0 0,.slice none 0 0]) (cs':=#[.slice q9 _ c9,.slice none 0 0,.slice none 0 0]) (hp':=ha'++(⟨Z,#[.int .i64 pg.own,.int .i64 pg.wit],51⟩::[⟨R,#[.slice none 0 0,.slice none 0 0,.slice none 0 0],48⟩])) ?_ aT;refine dh ?_;refine Jg ?_;refine kR ?_;refine run ?_;exact aF (k+1,_,ha') ⟨hlt,by dsimp only;rw[bN7,bI6,bI6,bM7,bM7,qG];exact hA2⟩ (hm:=by dsimp only;omega) (h2:=by (exact aj))
 have hkF:k=H.ws.length/8:=by simp at hc;omega
 subst hkF;have hop:=hH.vs.rows.opened;rw[hvl] at hop;obtain⟨q2,cap2,rfl,hne2,_⟩:=hop;have h2:w.rangeAt X 2 [.slice q2 4 cap2]:=aV (k:=2) (n:=1) h.x rfl;have h2':=ak h2;refine run ?_;refine aK (σ:=Nat×Value×Hp×List (List Value)×Hp) (fun s=>[(34,.int .i64 (s.1:Int))]) (fun s=>⟨P,#[.slice qa (H.ws.length/8) ca,s.2.1,.slice none 0 0],48⟩::⟨R,#[.slice none 0 0,.slice none 0 0,.slice none 0 0],48⟩::(ha++(s.2.2.1++s.2.2.2.2))) (fun s=>s.1≤4∧Acc 100 5 s.2.1 s.2.2.1 s.2.2.2.1∧s.2.2.2.1.length=s.1∧∀ i,i<s.1→LZ H s.2.2.2.2 i (s.2.2.2.1.getD i [])) (fun s=>4-s.1) (0,.slice none 0 0,[],[],[]) ⟨bH3 _,Acc.nil _ _,rfl,fun i hi=>absurd hi (bK2 _)⟩ ?_ (hh:=by dsimp only;(exact aj));rintro⟨k,gv,hg,G,hx⟩ m2 hm2 ⟨hk2,hB,Ud,hR⟩;dsimp only at hm2 hk2 hB Ud hR ⊢;obtain⟨qb,cb,xb⟩:=hB.own.opened;rw[Ud] at xb;subst xb;refine run ?_;refine ah _ rfl (fun hc2=>?_) (fun hc2=>?_)
 ·have hlt:k<4:=by simp at hc2;omega
  refine run ?_;have hge:=fun (wc:World) (hp:Hp) (hG:Good w [] hp wc)=>XW (h'.good hG) k hlt;have hgl:=(G7 hfit (i:=k) (by rw[hL.v];exact hlt)).2.2.2;have hgr:∀ a b (r:List Value),r=[.bool (H.bU k).live,.bool (H.bU k).dying,.int .i64 (H.bU k).first,a,b]→∀ hz,(∀ w,Here hz w→aA w a 1 ((H.bU k).aP.map bY)∧aA w b 2 ((H.bU k).maps.map eu))→LZ H hz k r:=fun a b r e hz hs=>⟨a,b,e,hs⟩
  generalize H.bU k=g at hge hgl hgr;refine ve 9 6 [0,1,2,3,7] [(4,false),(5,false),(6,false),(8,false)] (⟨R,#[.slice none 0 0,.slice none 0 0,.slice none 0 0],48⟩::(ha++hx)) ?_;refine kW ?_;refine xC ?_;refine yK (fun wc hG=>hge wc _ hG) ?_;rintro _ hn ⟨v1,h1,v2,h2,rfl,g1,g2,hle2⟩;obtain⟨r1,d1,f1⟩:=g1.opened;obtain⟨r2,d2,f2⟩:=g2.opened;rw[bG9] at f1 f2;subst f1 f2;refine dh ?_;refine xC ?_;refine Af [.bool g.live,.bool g.dying,.int .i64 g.first,.slice r1 g.aP.length d1,.slice r2 g.maps.length d2] (fun Z=>?_);refine dh ?_;refine XC (c:=[.bool g.live,.bool g.dying,.int .i64 g.first,.slice r1 g.aP.length d1,.slice r2 g.maps.length d2]) (hp':=⟨Z,#[.bool g.live,.bool g.dying,.int .i64 g.first,.slice r1 g.aP.length d1,.slice r2 g.maps.length d2],100⟩::(hn++⟨P,#[.slice qa (H.ws.length/8) ca,.slice qb k cb,.slice none 0 0],48⟩::⟨R,#[.slice none 0 0,.slice none 0 0,.slice none 0 0],48⟩::(ha++hx))) hB (aY (m:=5) mh rfl) bA4 aT aj (fun v' ha' hA2=>?_);obtain⟨q9,c9,e9⟩:=hA2.own.opened;subst e9;refine xC ?_;refine jg (b:=P) (tb:=48) (cs:=#[.slice qa (H.ws.length/8) ca,.slice qb k cb,.slice none 0 0]) (cs':=#[.slice qa (H.ws.length/8) ca,.slice q9 _ c9,.slice none 0 0]) (hp':=ha'++(⟨Z,#[.bool g.live,.bool g.dying,.int .i64 g.first,.slice r1 g.aP.length d1,.slice r2 g.maps.length d2],100⟩::(hn++⟨R,#[.slice none 0 0,.slice none 0 0,.slice none 0 0],48⟩::(ha++hx)))) ?_ aT;refine dh ?_;refine Jg ?_;refine kR ?_;refine run ?_;refine aF (k+1,_,ha',_,hn++hx) ⟨hlt,hA2,by simp[Ud],fun i hi=>?_⟩ (hm:=by dsimp only;omega) (h2:=by (exact aj));dsimp only;by_cases e:i=k
  ·subst e
   have:(G++[[Value.bool g.live,.bool g.dying,.int .i64 g.first,.slice r1 g.aP.length d1,.slice r2 g.maps.length d2]]).getD i []=[.bool g.live,.bool g.dying,.int .i64 g.first,.slice r1 g.aP.length d1,.slice r2 g.maps.length d2]:=by
    rw[bG',bS8 bA4,Ud];simp
   rw[this];refine hgr _ _ _ rfl _ fun w hw=>⟨g1.lie (fun e he=>hw e (bI4 _ (hle2.mem bC2))) bA',g2.lie (fun e he=>hw e (bI4 _ (hle2.mem bC2))) bA'⟩
  ·have:(G++[[Value.bool g.live,.bool g.dying,.int .i64 g.first,.slice r1 g.aP.length d1,.slice r2 g.maps.length d2]]).getD i []=G.getD i []:=by
    rw[bG',bT1 bA4,←bG']
   rw[this];exact (hR i bA4).le fun e he=>bH7 _ he
 have hk4:k=4:=by simp at hc2;omega
 subst hk4;have L6:=hH.cs.rows.opened;rw[hcl] at L6;obtain⟨q3,cap3,rfl,jI,_⟩:=L6;have h3:w.rangeAt X 1 [.slice q3 H.cs.length cap3]:=aV (k:=1) (n:=1) h.x rfl;have h3':=ak h3;refine run ?_;refine aK (σ:=Nat×Value×Hp) (fun s=>[(52,.int .i64 (s.1:Int))]) (fun s=>⟨P,#[.slice qa (H.ws.length/8) ca,.slice qb 4 cb,s.2.1],48⟩::⟨R,#[.slice none 0 0,.slice none 0 0,.slice none 0 0],48⟩::(ha++(hg++hx)++s.2.2)) (fun s=>s.1≤H.cs.length∧Own 104 2 s.2.1 s.2.2 (((H.cs.take s.1).map fun c=>(⟨c.vm,c.vc⟩:JM)).map yJ)) (fun s=>H.cs.length-s.1) (0,.slice none 0 0,[]) ⟨bH3 _,Own.nil _ _⟩ ?_ (hh:=by dsimp only;(exact aj));rintro⟨k,ov,ho⟩ m3 QV ⟨hk3,hC⟩;dsimp only at QV hk3 hC ⊢;have hkm:min k H.cs.length=k:=by omega
 obtain⟨qc,cc,xc⟩:=hC.opened;rw[bG9,bG9,bK1,hkm] at xc;subst xc;refine run ?_;refine ah _ rfl (fun hc3=>?_) (fun hc3=>?_)
 ·have hlt:k<H.cs.length:=by simp at hc3;omega
  obtain⟨b3,o3,rfl⟩:=jI bE';have hr3:=hH.cs.rows.row (k:=k) bA4;have Ue:=FK e1 k
  have ht:(H.cs.take (k+1)).map (fun c=>(⟨c.vm,c.vc⟩:JM))=(H.cs.take k).map (fun c=>(⟨c.vm,c.vc⟩:JM))++[⟨(cs.getD k default).vm,(cs.getD k default).vc⟩]:=by
   rw[bL7 hlt,bI6,bM7,jJ H.cs hlt,←Ue];rfl
  clear Ue;generalize cs.getD k default=c at hr3 ht;refine run ?_;intro U Z;have hC3:=hL.c3;refine aS (⟨Z,#[.int .i64 c.vm,.int .i64 c.vc],104⟩::⟨P,#[.slice qa (H.ws.length/8) ca,.slice qb 4 cb,.slice qc k cc],48⟩::⟨R,#[.slice none 0 0,.slice none 0 0,.slice none 0 0],48⟩::(ha++(hg++hx)++ho)) aj ?_;refine wu (c:=[.int .i64 c.vm,.int .i64 c.vc]) (⟨Z,#[.int .i64 c.vm,.int .i64 c.vc],104⟩::⟨P,#[.slice qa (H.ws.length/8) ca,.slice qb 4 cb,.slice qc k cc],48⟩::⟨R,#[.slice none 0 0,.slice none 0 0,.slice none 0 0],48⟩::(ha++(hg++hx))) hC (fun v' ha' hA2=>?_) (by rw[bG9,bG9,bK1];omega) (aY (m:=2) mh rfl) (hperm:=by (exact aT));obtain⟨q9,c9,e9⟩:=hA2.opened;subst e9;refine aS (⟨P,#[.slice qa (H.ws.length/8) ca,.slice qb 4 cb,.slice qc k cc],48⟩::⟨R,#[.slice none 0 0,.slice none 0 0,.slice none 0 0],48⟩::(ha++(hg++hx)++ha')) aj ?_;refine run ?_;exact aF (k+1,_,ha') ⟨hlt,by dsimp only;rw[ht,bI6,bM7];exact hA2⟩ (hm:=by dsimp only;omega) (h2:=by (exact aj))
 have hkC:k=H.cs.length:=by simp at hc3;omega
 subst hkC;rw[bM6] at hC;refine run ?_;exact dS (cs:=#[.slice qa (H.ws.length/8) ca,.slice qb 4 cb,.slice qc H.cs.length cc]) ⟨_,_,_,_,_,_,_,_,_,rfl,fun w hw=>G8 hA hB Ud hR hC hfit hL.v (hw.sub (fun e he=>bH8 _ (bH8 _ (by simpa only [bJ'] using he))))⟩
theorem Px(n cap:Nat)(hn:n<4611686018427387904)(q:Option Addr)(w:World):Fn Tryz.prog 193 [.agg #[.slice q n cap]].toArray w [] (fun u _=>u=.int .i64 ((n/8:Nat):Int)):=by
 refine enter Tryz.func193 ?_;refine run ?_;intro B;refine run ?_;refine jL bA9 (uK rfl rfl n 8 bA9 bA9 bA5 bA4) ?_;refine run ?_;exact fin1 rfl
theorem Py(n cap:Nat)(hn:n<4611686018427387904)(q:Option Addr)(w:World):Fn Tryz.prog 115 [.agg #[.slice q n cap]].toArray w [] (fun u _=>u=.tuple #[.int .i64 (bif fM n then ((n/8:Nat):Int) else 0),.int .i64 (bif fM n then 0 else 1)]):=by
 refine enter Tryz.func115 ?_;refine run ?_;intro B;refine run ?_;refine az (fun wc hG=>yQ n cap hn q wc) ?_;refine run ?_;refine ah _ rfl (fun hc=>?_) (fun hc=>?_)
 ·have hm:fM n=false:=by cases h:fM n<;>simp[h] at hc ⊢
  refine run ?_;refine fin2 ?_;rw[hm];rfl
 ·have hm:fM n=true:=by cases h:fM n<;>simp[h] at hc ⊢
  refine run ?_;refine az (fun wc hG=>Px n cap hn q wc) ?_;refine run ?_;refine fin2 ?_;rw[hm];rfl
theorem qN{cs:List Value}{t:TypeId}(h:w.heap[b]?=some (.cells cs.toArray t (0,0))):w.rangeAt b 0 cs:=by
 intro j u hu;rw[cell_of_block h];simpa using hu
theorem Q7(y:jT):[y].filter (fun m=>decide (m.mid≤15))=if y.mid≤15 then [y] else []:=by
 by_cases e:y.mid≤15<;>simp[e]
def vI(m:Nat→Value)(k:Nat)(v:Value):Nat→Value:=fun i=>if i=k then v else m i
theorem Uf{m:Nat→Value}(h:m k=v):vI m k v=m:=by
 funext i
 unfold vI;split
 ·rename_i e;rw[e,h]
 ·rfl
theorem Pz(m:Nat→Value)(k:Nat)(v u:Value):vI (vI m k v) k u=vI m k u:=by
 funext i
 unfold vI;split<;>rfl
theorem Q8(m:Nat→Value)(k:Nat)(v:Value):vI m k v k=v:=if_pos rfl
def Jn(wv cv vv rv:Value)(m:Nat→Value):Array Value:=#[wv,cv,vv,rv,m 0,m 1,m 2,m 3]
theorem af0(wv cv vv rv:Value)(m:Nat→Value)(hk:k<4)(v:Value):putAt (Jn wv cv vv rv m) (4+k) [v]=Jn wv cv vv rv (vI m k v):=by
 have:k=0∨k=1∨k=2∨k=3:=by omega
 rcases this with rfl | rfl | rfl | rfl<;>rfl
theorem af1(wv cv vv rv:Value)(m:Nat→Value)(hk:k<4):nth (Jn wv cv vv rv m).toList (4+k)=some (m k):=by
 have:k=0∨k=1∨k=2∨k=3:=by omega
 rcases this with rfl | rfl | rfl | rfl<;>rfl
def FU(xs:List jT)(u:Value)(hn:Hp):Prop:=∃ v h e,u=.tuple #[v,.int .i64 e]∧Own 173 2 v h (xs.map eu)∧aJ h hn
theorem FU.of{r:Option (List jT)}{u:Value}{hn:Hp}(h:aL5 r u hn):FU (r.getD []) u hn:=by
 cases r with
 | none=>exact⟨_,[],2,h,Own.nil _ _,by (exact aj)⟩
 | some xs=>
  obtain⟨v,h1,e,hO,hle⟩:=h;exact⟨v,h1,0,e,hO,hle⟩
theorem FU.ex{xs:List jT}(h:xs.length≤4096):∃ u hn,FU xs u hn:=by
 obtain⟨v,h1,hO⟩:=dY (e:=173) (sz:=2) (xs:=xs.map eu) (fun c hc=>by obtain⟨m,_,rfl⟩:=bH9.1 hc;exact⟨rfl,rfl⟩) bA7;exact⟨_,h1,v,h1,0,rfl,hO,aJ.refl _⟩
def L8(H:HyD)(wv cv vv rv u:Value)(hn:Hp):Prop:=
 bif H.iq then ∃ X mv hx,u=.tuple #[.pointer (some ⟨X,0,none⟩),.bool true]∧(∀ i,i<4→∀ wc,Here hx wc→aA wc (mv i) 3 ((H.msA i).map QY))∧aJ (⟨X,Jn wv cv vv rv mv,142⟩::hx) hn
 else u=.tuple #[.pointer none,.bool false]
set_option maxHeartbeats 2000000 in
theorem Q9{vv rv:Value}(h:vw w wv cv vv rv H):Fn Tryz.prog 58 [.agg #[wv,cv,vv,rv]].toArray w [] (L8 H wv cv vv rv):=by
 have hfit:=h.fit;obtain⟨cs,vs,e1,e2,_,hH⟩:=h.ex;have hvl:vs.length=H.vs.length:=by rw[←e2,bG9]
 have hcl:cs.length=H.cs.length:=by rw[←e1,bG9]
 have hws:=hH.ws;obtain⟨q,cap,rfl,hne,_⟩:=hws.opened;have ho2:=hH.cs.rows.opened;have ho3:=hH.vs.rows.opened;have ho4:=hH.rs.opened;rw[hcl] at ho2;rw[hvl] at ho3;obtain⟨n2,en2⟩:∃ n,n=H.cs.length:=⟨_,rfl⟩
 obtain⟨n3,en3⟩:∃ n,n=H.vs.length:=⟨_,rfl⟩
 obtain⟨n4,en4⟩:∃ n,n=H.rs.length:=⟨_,rfl⟩
 rw[←en2] at ho2;rw[←en3] at ho3;rw[←en4] at ho4;obtain⟨q2,cap2,rfl,hne2,_⟩:=ho2;obtain⟨q3,cap3,rfl,jI,_⟩:=ho3;obtain⟨q4,cap4,rfl,oQ,_⟩:=ho4;have hlk:H.iq=(fM H.ws.length&&decide (24≤H.ws.length/8)&&(decide (1≤n2)&&decide (n2≤3))&&decide (n4=n2)&&decide (n3=4)):=by rw[en2,en3,en4];rfl
 obtain⟨L,hL⟩:∃ L,L=H.iq:=⟨_,rfl⟩
 rw[←hL] at hlk;have hfl:=hfit.l;refine enter Tryz.func58 ?_;refine run ?_;intro Y X;refine run ?_;refine az (fun wc hG=>Py H.ws.length cap bA4 q wc) ?_;refine aC ?_
 have hcond:(!decide ((bif fM H.ws.length then (0:Int) else 1)=0)||decide ((bif fM H.ws.length then ((H.ws.length/8:Nat):Int) else 0)<24)||decide ((n2:Int)<1)||decide (3<(n2:Int))||!decide ((n4:Int)=(n2:Int))||!decide ((n3:Int)=4))=!L:=by
  rw[hlk,bH4]
  cases fM H.ws.length with
  | false=>simp
  | true=>
   simp only[cond_true,bI9,bI8,bM9,decide_eq_true_eq,decide_eq_false_iff_not,bH6];simp;omega
 refine ah _ rfl (fun hb=>?_) (fun hb=>?_)
 ·rw[hcond] at hb;have hLf:L=false:=by simpa using hb
  refine run ?_;refine fin2 ?_;unfold L8;rw[←hL,hLf];rfl
 rw[hcond] at hb;have hLt:L=true:=by simpa using hb
 have hS:=jv (hL.symm.trans hLt);have h34:n3=4:=by rw[en3,hS.v]
 subst h34;clear hb hcond hlk;obtain⟨b3,o3,rfl⟩:=jI (by intro e;rw[e] at hvl;simp at hvl;omega);refine run ?_;refine aK (σ:=Nat×(Nat→Value)×Hp) (fun s=>[(61,.int .i64 (s.1:Int))]) (fun s=>⟨X,Jn (.slice q H.ws.length cap) (.slice q2 n2 cap2) (.slice (some ⟨b3,o3,none⟩) 4 cap3) (.slice q4 n4 cap4) s.2.1,142⟩::⟨Y,#[.slice q H.ws.length cap,.slice q2 n2 cap2,.slice (some ⟨b3,o3,none⟩) 4 cap3,.slice q4 n4 cap4],29⟩::s.2.2) (fun s=>s.1≤4∧(∀ i,s.1≤i→s.2.1 i=.slice none 0 0)∧(∀ i,i<s.1→∀ wc,Here s.2.2 wc→aA wc (s.2.1 i) 3 ((H.msA i).map QY))) (fun s=>4-s.1) (0,fun _=>.slice none 0 0,[]) ⟨bH3 _,fun _ _=>rfl,fun i hi=>absurd hi (bK2 _)⟩ ?_ (hh:=by dsimp only[Jn];(exact aj));rintro⟨k,mv,hx⟩ m2 hm2 ⟨hk2,hZ,hM⟩;dsimp only at hm2 hk2 hZ hM ⊢;refine run ?_;refine ah _ rfl (fun hc1=>?_) (fun hc1=>?_)
 ·have hlt:k<4:=by simp at hc1;omega
  have hr:=hH.vs.rows.row (k:=k) bA4;have hfs:=hH.vs.fs _ (getD_mem (l:=vs) (k:=k) bA4);have hu:=rM e2 k;rw[show H.vs.getD k default=H.vu k from rfl] at hu;generalize vs.getD k default=v at *;refine run ?_;intro V;refine aC ?_
  have hhas:(H.vu k).has=!(!v.live||decide ((v.fs.length:Int)=0)):=by
   rw[←hu];unfold kM.has eF.u
   cases v.live with
   | false=>rfl
   | true=>
    rw[bH4];simp only[bH6,bJ3,bK5,bI8,decide_eq_true_eq,decide_eq_false_iff_not];omega
  refine ah _ rfl (fun hd=>?_) (fun hd=>?_)
  ·rw[hd] at hhas;have hms:H.msA k=[]:=by unfold HyD.msA HyD.wY;rw[hhas];rfl
   refine run ?_;refine aF (k+1,mv,hx) ⟨hlt,fun i hi=>hZ i (by dsimp only at hi;omega),fun i hi=>?_⟩ (hm:=by dsimp only;omega) (h2:=by (exact aj));dsimp only at hi ⊢;by_cases e:i=k
   ·subst e;rw[hms,hZ i (bI0 _)];exact fun wc _=>gW wc 3
   ·exact hM i bA4
  rw[hd] at hhas
  have hlv:v.fs.length≠0:=by
   intro e;rw[e] at hd;simp at hd
  obtain⟨qf,cf,ef,rP,_⟩:=hfs.opened;obtain⟨bf,BI,rfl⟩:=rP (by intro e;rw[e] at hlv;exact hlv rfl);rw[ef] at hfs;have hrf:=ak (hfs.row (show 0<v.fs.length by omega));simp only[bJ5] at hrf;have hroot:v.fs.getD 0 default=(H.vu k).root:=by rw[←hu];rfl
  rw[hroot] at hrf;have L9:H.wY k=((dL H.ws (H.vu k).root 0 4096).getD []).filter (fun m=>decide (m.mid≤15)):=by unfold HyD.wY;rw[hhas];rfl
  have af2:H.msA k=(H.wY k).map fun m=>⟨m.mid,m.dZ,qM H.ws (H.vu k).root m.mid⟩:=rfl;rw[L9] at af2;generalize (H.vu k).root=root at hrf af2;rw[ef];refine run ?_;refine late 10 9 ?_;refine xE 10 [0,1,2,3,4,5] [6] [7,8,9] ?_;refine gK ?_;refine kD (fun wc hG=>(XY H.ws hH.Df (hws.good hG) hS.m root).mono (R':=FU ((dL H.ws root 0 4096).getD [])) (fun u hn hu=>FU.of hu)) (FU.ex ?_) ?_
  ·cases hz:dL H.ws root 0 4096 with
   | none=>exact bH3 _
   | some zs=>exact vz _ _ _ _ _ hz
  refine kP ?_;rintro u hn ⟨v1,h1,e,rfl,hO,hle⟩
  have hxl:((dL H.ws root 0 4096).getD []).length≤4096:=by
   cases hz:dL H.ws root 0 4096 with
   | none=>exact bH3 _
   | some zs=>exact vz _ _ _ _ _ hz
  have hxm:∀ m∈(dL H.ws root 0 4096).getD [],∃ q:Nat,q≤4095∧m.mid=(q:Int):=fun m hm=>by
   cases hz:dL H.ws root 0 4096 with
   | none=>rw[hz] at hm;cases hm
   | some zs=>
    rw[hz] at hm;obtain⟨k,hk,e⟩:=Dl hz hm;rw[bJ4] at e;exact⟨k,by omega,(vH e).2.2.1⟩
  generalize (dL H.ws root 0 4096).getD []=xs at hO af2 hxl hxm;refine yG ?_;refine dX ?_;refine dX ?_;refine jM ?_;refine ru ?_;simp only[bH2,bH5,bI3];obtain⟨q5,c5,x5⟩:=hO.opened;rw[bG9] at x5;subst x5;refine run ?_;have hxr:∀ (wc:World) (hp:Hp),Good w [] hp wc→(∀ e∈h1,e∈hp)→aA wc (.slice q5 xs.length c5) 2 (xs.map eu):=fun wc hp hG hs=>hO.lie (hG.lie hs) bA7
  refine aK (σ:=Nat×Value×Hp) (fun s=>[(87,.int .i64 (s.1:Int))]) (fun s=>⟨X,Jn (.slice q H.ws.length cap) (.slice q2 n2 cap2) (.slice (some ⟨b3,o3,none⟩) 4 cap3) (.slice q4 n4 cap4) (vI mv k s.2.1),142⟩::⟨V,#[.bool v.live,.bool v.dying,.int .i64 v.aO,.slice (some ⟨bf,BI,none⟩) v.fs.length cf,v.rv,v.vv],62⟩::⟨Y,#[.slice q H.ws.length cap,.slice q2 n2 cap2,.slice (some ⟨b3,o3,none⟩) 4 cap3,.slice q4 n4 cap4],29⟩::(hx++(h1++s.2.2))) (fun s=>s.1≤xs.length∧Acc 201 3 s.2.1 s.2.2 ((((xs.take s.1).filter fun m=>decide (m.mid≤15)).map fun m=>(⟨m.mid,m.dZ,qM H.ws root m.mid⟩:Zk)).map QY)) (fun s=>xs.length-s.1) (0,.slice none 0 0,[]) ⟨bH3 _,Acc.nil _ _⟩ ?_ (hh:=by
   dsimp only;rw[Uf (hZ k (bI0 _))]
   (exact cnt1 hle))
  rintro⟨j,mk,ha⟩ m3 QV ⟨hj,hA⟩;dsimp only at QV hj hA ⊢;refine run ?_;refine ah _ rfl (fun hc2=>?_) (fun hc2=>?_)
  ·have hjl:j<xs.length:=by simp at hc2;omega
   obtain⟨g5,k5,FV,e5,eh5,_,hn5,_⟩:=hO.oO hjl;have hm0:=hn5 0 _ rfl;have hm1:=hn5 1 _ rfl;rw[bK6] at hm0;have ht5:List.take 2 (List.drop (j*2) FV.toList)=eu (xs.getD j default):=Di hm0 hm1;obtain⟨qq,bn3,hqm⟩:=hxm _ (getD_mem hjl)
   have htk:(xs.take (j+1)).filter (fun m=>decide (m.mid≤15))=(xs.take j).filter (fun m=>decide (m.mid≤15))++(if (xs.getD j default).mid≤15 then [xs.getD j default] else []):=by
    rw[bL7 hjl,bV8,jJ xs hjl]
    congr 1
    exact Q7 _
   generalize xs.getD j default=m at ht5 hm0 hm1 hqm htk;obtain⟨mm,mf⟩:=m;dsimp only at hqm htk;subst hqm;injection e5 with e5 _ e5'
   subst e5 e5' eh5;simp only[eu] at ht5;refine pM (⟨g5,FV,173⟩::⟨X,Jn (.slice q H.ws.length cap) (.slice q2 n2 cap2) (.slice (some ⟨b3,o3,none⟩) 4 cap3) (.slice q4 n4 cap4) (vI mv k mk),142⟩::⟨V,#[.bool v.live,.bool v.dying,.int .i64 v.aO,.slice (some ⟨bf,BI,none⟩) v.fs.length cf,v.rv,v.vv],62⟩::⟨Y,#[.slice q H.ws.length cap,.slice q2 n2 cap2,.slice (some ⟨b3,o3,none⟩) 4 cap3,.slice q4 n4 cap4],29⟩::(hx++ha)) aj ?_;refine run ?_;intro M;refine run ?_;refine ah _ rfl (fun hd2=>?_) (fun hd2=>?_)
   rotate_left
   ·have hqn:¬ (qq:Int)≤15:=of_decide_eq_false hd2;rw[if_neg hqn,bI3] at htk;refine aN ?_;refine aF (j+1,mk,ha) ⟨hjl,by dsimp only;rw[htk];exact hA⟩ (hm:=by dsimp only;omega) (h2:=by (exact aj))
   have hqy:(qq:Int)≤15:=of_decide_eq_true hd2;rw[if_pos hqy] at htk;refine run ?_;refine Ah 14 [0,1,2,3,4,5,6,7,8] [13] [9,10,11,12] [15,16] [14] ?_;refine gK ?_;refine Em (fun wc hx hG=>I9 H.ws hH.Df (hws.good hG) hS.m root qq bA4) ?_;refine gK ?_;refine sQ ?_;refine kP ?_;rintro _ _ ⟨D,rfl,rfl⟩;have hsf:qM H.ws root (qq:Int)=(iG H.ws root qq).d.soft:=by unfold qM;rw[bM3]
   generalize iG H.ws root qq=g at hsf;refine yG ?_;refine dX ?_;refine dX ?_;refine dX ?_;refine jM ?_;refine oN ?_;refine oN ?_;refine jM ?_;simp only[DN,bH2,bH5,bI3];refine jg (b:=D) (tb:=95) (cs:=#[.int .i64 0,.int .i64 0,.bool false,.bool false,.bool false,.bool false,.bool false,.int .i64 0,.int .i64 0]) (cs':=#[.int .i64 g.d.kind,.int .i64 g.d.frame,.bool g.d.r,.bool g.d.w,.bool g.d.x,.bool g.d.af,.bool g.d.ng,.int .i64 g.d.soft,.int .i64 g.d.note]) (hp':=⟨M,#[.int .i64 (qq:Int),.int .i64 mf],173⟩::⟨g5,FV,173⟩::⟨X,Jn (.slice q H.ws.length cap) (.slice q2 n2 cap2) (.slice (some ⟨b3,o3,none⟩) 4 cap3) (.slice q4 n4 cap4) (vI mv k mk),142⟩::⟨V,#[.bool v.live,.bool v.dying,.int .i64 v.aO,.slice (some ⟨bf,BI,none⟩) v.fs.length cf,v.rv,v.vv],62⟩::⟨Y,#[.slice q H.ws.length cap,.slice q2 n2 cap2,.slice (some ⟨b3,o3,none⟩) 4 cap3,.slice q4 n4 cap4],29⟩::(hx++ha)) ?_ aT;refine dh ?_;refine kR ?_;have hcx:=af1 (.slice q H.ws.length cap) (.slice q2 n2 cap2) (.slice (some ⟨b3,o3,none⟩) 4 cap3) (.slice q4 n4 cap4) (vI mv k mk) hlt;rw[Q8] at hcx;refine run ?_;refine ve 19 14 [0,1,2,3,4,5,6,7,8,9,10,11,12,15,16,17] [(13,false),(14,false),(18,false)] (⟨D,#[.int .i64 g.d.kind,.int .i64 g.d.frame,.bool g.d.r,.bool g.d.w,.bool g.d.x,.bool g.d.af,.bool g.d.ng,.int .i64 g.d.soft,.int .i64 g.d.note],95⟩::⟨M,#[.int .i64 (qq:Int),.int .i64 mf],173⟩::⟨g5,FV,173⟩::⟨V,#[.bool v.live,.bool v.dying,.int .i64 v.aO,.slice (some ⟨bf,BI,none⟩) v.fs.length cf,v.rv,v.vv],62⟩::⟨Y,#[.slice q H.ws.length cap,.slice q2 n2 cap2,.slice (some ⟨b3,o3,none⟩) 4 cap3,.slice q4 n4 cap4],29⟩::hx) ?_;refine kW ?_;obtain⟨q7,c7,x7⟩:=hA.own.opened;obtain⟨n7,en7⟩:∃ n,n=((((xs.take j).filter fun m=>decide (m.mid≤15)).map fun m=>(⟨m.mid,m.dZ,qM H.ws root m.mid⟩:Zk)).map QY).length:=⟨_,rfl⟩
   have hn7:n7≤4096:=by
    rw[en7,bG9,bG9];exact bO' (bR4 _ _) bD1
   rw[←en7] at x7;subst x7;refine xC ?_;refine Af [.int .i64 (qq:Int),.int .i64 mf,.int .i64 g.d.soft] (fun Z=>?_);refine dh ?_;refine XC (c:=[.int .i64 (qq:Int),.int .i64 mf,.int .i64 g.d.soft]) (hp':=⟨Z,#[.int .i64 (qq:Int),.int .i64 mf,.int .i64 g.d.soft],201⟩::⟨X,Jn (.slice q H.ws.length cap) (.slice q2 n2 cap2) (.slice (some ⟨b3,o3,none⟩) 4 cap3) (.slice q4 n4 cap4) (vI mv k (.slice q7 n7 c7)),142⟩::⟨D,#[.int .i64 g.d.kind,.int .i64 g.d.frame,.bool g.d.r,.bool g.d.w,.bool g.d.x,.bool g.d.af,.bool g.d.ng,.int .i64 g.d.soft,.int .i64 g.d.note],95⟩::⟨M,#[.int .i64 (qq:Int),.int .i64 mf],173⟩::⟨g5,FV,173⟩::⟨V,#[.bool v.live,.bool v.dying,.int .i64 v.aO,.slice (some ⟨bf,BI,none⟩) v.fs.length cf,v.rv,v.vv],62⟩::⟨Y,#[.slice q H.ws.length cap,.slice q2 n2 cap2,.slice (some ⟨b3,o3,none⟩) 4 cap3,.slice q4 n4 cap4],29⟩::hx) hA (aY (m:=3) mh rfl) (by rw[←en7];omega) aT aj (fun v' ha' hA2=>?_);obtain⟨q9,c9,e9⟩:=hA2.own.opened;obtain⟨n9,en9⟩:∃ n,n=(((((xs.take j).filter fun m=>decide (m.mid≤15)).map fun m=>(⟨m.mid,m.dZ,qM H.ws root m.mid⟩:Zk)).map QY)++[[Value.int .i64 (qq:Int),.int .i64 mf,.int .i64 g.d.soft]]).length:=⟨_,rfl⟩
   rw[←en9] at e9;subst e9;refine xC ?_;refine uQ aB (b:=X) (tb:=142) (off:=4+k) (vs:=[.slice q9 n9 c9]) (hp':=ha'++(⟨Z,#[.int .i64 (qq:Int),.int .i64 mf,.int .i64 g.d.soft],201⟩::⟨D,#[.int .i64 g.d.kind,.int .i64 g.d.frame,.bool g.d.r,.bool g.d.w,.bool g.d.x,.bool g.d.af,.bool g.d.ng,.int .i64 g.d.soft,.int .i64 g.d.note],95⟩::⟨M,#[.int .i64 (qq:Int),.int .i64 mf],173⟩::⟨g5,FV,173⟩::⟨V,#[.bool v.live,.bool v.dying,.int .i64 v.aO,.slice (some ⟨bf,BI,none⟩) v.fs.length cf,v.rv,v.vv],62⟩::⟨Y,#[.slice q H.ws.length cap,.slice q2 n2 cap2,.slice (some ⟨b3,o3,none⟩) 4 cap3,.slice q4 n4 cap4],29⟩::hx)) rfl rfl rfl (by (first | ((simp only[Value.cells])<;>rfl) | rfl)) rfl rfl aT rfl (by show 4+k+1≤8;omega) (show putAt (Jn (.slice q H.ws.length cap) (.slice q2 n2 cap2) (.slice (some ⟨b3,o3,none⟩) 4 cap3) (.slice q4 n4 cap4) (vI mv k (.slice q7 n7 c7))) (4+k) [.slice q9 n9 c9]=Jn (.slice q H.ws.length cap) (.slice q2 n2 cap2) (.slice (some ⟨b3,o3,none⟩) 4 cap3) (.slice q4 n4 cap4) (vI mv k (.slice q9 n9 c9)) by rw[af0 _ _ _ _ _ hlt,Pz]) aj ?_;refine dh ?_;refine Jg ?_;refine kR ?_;refine run ?_;refine aF (j+1,.slice q9 n9 c9,ha') ⟨hjl,?_⟩ (hm:=by dsimp only;omega) (h2:=by (exact aj));dsimp only;rw[htk,bI6,bI6];rw[←hsf] at hA2;exact hA2
  have hje:j=xs.length:=by simp at hc2;omega
  subst hje;rw[bM6] at hA;rw[←af2] at hA;refine run ?_;refine aF (k+1,vI mv k mk,hx++ha) ⟨hlt,fun i hi=>?_,fun i hi=>?_⟩ (hm:=by dsimp only;omega) (h2:=by (exact aj))
  ·dsimp only at hi ⊢;rw[←hZ i bA4];exact if_neg bA4
  ·dsimp only at hi ⊢;by_cases e:i=k
   ·subst e;rw[Q8];intro wc hw;refine hA.own.lie (hw.sub fun e he=>bH7 _ he) ?_;have:=zi H i;unfold HyD.msA;rw[bG9,bG9];omega
   ·rw[show vI mv k mk i=mv i from if_neg e];exact fun wc hw=>hM i bA4 wc (hw.sub fun e he=>bI4 _ he)
 have hk4:k=4:=by simp at hc1;omega
 subst hk4;refine run ?_;refine fin2 ?_;unfold L8;rw[←hL,hLt,cond_true];exact⟨X,mv,hx,rfl,hM,by (exact aj)⟩
theorem G9{vv rv:Value}{hx:Hp}{t:TypeId}(h:vw w wv cv vv rv H)(hm:∀ i,i<4→∀ wc,Here hx wc→aA wc (mv i) 3 ((H.msA i).map QY))(hL:H.iq=true)(hh:Here (⟨X,Jn wv cv vv rv mv,t⟩::hx) w):xN w X wv cv vv rv mv H:=
 ⟨qN (t:=t) (hh _ (bH' ..)),h,fun i hi=>hm i hi w fun e he=>hh e (bH8 _ he),hL⟩
def zo(H:HyD)(u:Value)(hn:Hp):Prop:=bif H.iq then ∃ a1 a2 a3 k1 k2 k3:_,∃ n1 n2 n3:Nat,u=.tuple #[.agg #[.slice a1 n1 k1,.slice a2 n2 k2,.slice a3 n3 k3],.int .i64 0]∧∀ w,Here hn w→dN w (.slice a1 n1 k1) (.slice a2 n2 k2) (.slice a3 n3 k3) H.aG
 else u=.tuple #[.agg #[.slice none 0 0,.slice none 0 0,.slice none 0 0],.int .i64 1]
theorem EH{vv rv:Value}(h:vw w wv cv vv rv H):Fn Tryz.prog 32 [.agg #[wv,cv,vv,rv]].toArray w [] (zo H):=by
 have h':=h;obtain⟨cs,vs,_,_,_,hH⟩:=h.ex;obtain⟨q,cap,rfl,hne,_⟩:=hH.ws.opened;obtain⟨q2,cap2,rfl,hne2,_⟩:=hH.cs.rows.opened;obtain⟨q3,cap3,rfl,jI,_⟩:=hH.vs.rows.opened;obtain⟨q4,cap4,rfl,oQ,_⟩:=hH.rs.opened;refine enter Tryz.func32 ?_;refine run ?_;intro B R;refine run ?_;refine bH (fun wc hG=>Q9 (h'.good hG)) ?_;intro u hn hu;unfold L8 at hu
 cases hL:H.iq with
 | false=>
  rw[hL,cond_false] at hu;subst hu;refine aS [⟨R,#[.slice none 0 0,.slice none 0 0,.slice none 0 0],48⟩] aj ?_;refine run ?_;refine ah _ rfl (fun hd=>?_) (fun hd=>absurd hd bA5);refine run ?_;refine gB (cs:=#[.slice none 0 0,.slice none 0 0,.slice none 0 0]) ?_;unfold zo
  rw[hL];rfl
 | true=>
  rw[hL,cond_true] at hu;obtain⟨X,mv,hx,rfl,hM,hX⟩:=hu;refine aS (⟨X,Jn (.slice q H.ws.length cap) (.slice q2 cs.length cap2) (.slice q3 vs.length cap3) (.slice q4 H.rs.length cap4) mv,142⟩::(hx++[⟨R,#[.slice none 0 0,.slice none 0 0,.slice none 0 0],48⟩])) (cnt1 hX) ?_;refine run ?_;refine ah _ rfl (fun hd=>absurd hd bA5) (fun hd=>?_);refine run ?_;refine bH (fun wc hG=>Q5 (G9 (X:=X) (t:=142) (h'.good hG) hM hL (hG.lie fun e he=>by simp at he ⊢;rcases he with he | he<;>simp[he]))) ?_;rintro _ hn2 ⟨a1,a2,a3,k1,k2,k3,m1,m2,m3,rfl,hP⟩;refine aS (⟨R,#[.slice none 0 0,.slice none 0 0,.slice none 0 0],48⟩::hn2) aj ?_;refine run ?_;refine gB ?_;unfold zo;rw[hL];exact⟨a1,a2,a3,k1,k2,k3,m1,m2,m3,rfl,fun w hw=>hP w (hw.sub fun e he=>by simp[he])⟩
theorem XZ(c:AA)(w:World):Fn Tryz.prog 125 ([]++[Value.agg (zO c).toArray]++[]).toArray w [] (fun u _=>u=.bool (!HyD.Ve c)):=by
 refine enter Tryz.func125 ?_;refine run ?_;intro B;refine aC ?_;refine fin1 ?_;have:=OO c.r jb;simp only[jc,jb] at this;unfold HyD.Ve;rw[Bool.not_or,←OO];rfl
theorem X0(v:eF)(n:Int)(C:Nat)(w:World)(hC:w.cell? ⟨C,2,none⟩=some (.int .i64 n)):Fn Tryz.prog 127 ([]++[Value.agg (mW v).toArray]++[Value.pointer (some ⟨C,0,none⟩)]).toArray w [] (fun u _=>u=.bool (v.live&&decide (v.aO=n))):=by
 refine enter Tryz.func127 ?_;refine run ?_;intro B;refine aC ?_;exact fin1 rfl
theorem fF{p:Nat→Bool}(h:∀ i,i<n→p i=true):allB n p=true:=aI.2 h
theorem fZ{p:Nat→Bool}(hi:i<n)(h:p i=false):allB n p=false:=by
 cases hh:allB n p with
 | false=>rfl
 | true=>have:=aI.1 hh i hi;rw[h] at this;cases this
theorem X3{vv rv:Value}(h:xN w X wv cv vv rv mv H):Fn Tryz.prog 62 [.pointer (some ⟨X,0,none⟩)].toArray w [] (fun u _=>u=.bool H.quiet):=by
 have hL:=jv h.ok;obtain⟨cs,vs,e1,e2,_,hH⟩:=h.h.ex;have hvl:vs.length=4:=by rw[←hL.v,←e2,bG9]
 have hcl:cs.length=H.cs.length:=by rw[←e1,bG9]
 have hop:=hH.vs.rows.opened;rw[hvl] at hop;obtain⟨q2,cap2,rfl,hne2,_⟩:=hop;obtain⟨b2,o2,rfl⟩:=hne2 bB';have h2:w.rangeAt X 2 [.slice (some ⟨b2,o2,none⟩) 4 cap2]:=aV (k:=2) (n:=1) h.x rfl;have h2':=ak h2;have L6:=hH.cs.rows.opened;rw[hcl] at L6;obtain⟨q3,cap3,rfl,jI,_⟩:=L6;obtain⟨b3,o3,rfl⟩:=jI (by intro e;rw[e] at hcl;have:=hL.c1;simp at hcl;omega);have h3:w.rangeAt X 1 [.slice (some ⟨b3,o3,none⟩) H.cs.length cap3]:=aV (k:=1) (n:=1) h.x rfl;have h3':=ak h3;have aL':=hH.rs.opened;rw[hL.r] at aL';obtain⟨q4,cap4,rfl,oQ,_⟩:=aL';obtain⟨b4,o4,rfl⟩:=oQ (by intro e;have:=hL.r;have:=hL.c1;rw[e] at *;simp at *;omega);have h4:w.rangeAt X 3 [.slice (some ⟨b4,o4,none⟩) H.cs.length cap4]:=aV (k:=3) (n:=1) h.x rfl;have h4':=ak h4;unfold HyD.quiet;refine enter Tryz.func62 ?_;refine run ?_;refine aK (σ:=Nat) (fun k=>[(13,.int .i64 (k:Int))]) (fun _=>[]) (fun k=>k≤H.cs.length∧∀ j,j<k→H.cpQ j=true) (fun k=>H.cs.length-k) 0 ⟨bH3 _,fun j hj=>absurd hj (bK2 _)⟩ ?_
 ·rintro k m hm ⟨hk,hK⟩;refine run ?_;refine ah _ rfl (fun hc=>?_) (fun hc=>?_)
  ·have hlt:k<H.cs.length:=by simp at hc;omega
   have hr3:=hH.cs.rows.row (k:=k) bA4;have hr4:=hH.rs.row (k:=k) (by rw[hL.r];exact hlt);have Ue:=FK e1 k;have hq:H.cpQ k=(!decide ((cs.getD k default).vm=0)||decide (H.rs.getD k default=jb)):=by unfold HyD.cpQ HyD.cu;rw[←Ue];rfl
   generalize cs.getD k default=c at hr3 hq;generalize H.rs.getD k default=r at hr4 hq;refine run ?_;intro U;refine aC ?_;have hg:(decide (c.vm=0)&&!aW (jc r) (jc jb))=!H.cpQ k:=by rw[OO,hq];cases decide (c.vm=0)<;>simp
   refine ah _ rfl (fun hd=>?_) (fun hd=>?_)
   ·replace hd:=hg.symm.trans hd;refine run ?_;refine fin1 ?_;rw[fZ hlt bF8];rfl
   replace hd:=hg.symm.trans hd;refine run ?_;refine aF (k+1) ⟨hlt,fun j hj=>?_⟩;by_cases e:j=k
   ·subst e;simpa using hd
   ·exact hK j bA4
  have hke:k=H.cs.length:=by simp at hc;omega
  subst hke;rw[fF hK,bH6];refine run ?_;refine aK (σ:=Nat) (fun k=>[(40,.int .i64 (k:Int))]) (fun _=>[]) (fun k=>k≤4∧∀ j,j<k→H.Vf j=true) (fun k=>4-k) 0 ⟨bH3 _,fun j hj=>absurd hj (bK2 _)⟩ ?_;rintro k2 m2 hm2 ⟨hk2,hK2⟩;refine run ?_;refine ah _ rfl (fun hc2=>?_) (fun hc2=>?_)
  rotate_left
  ·have hk4:k2=4:=by simp at hc2;omega
   subst hk4;refine run ?_;refine fin1 ?_;rw[fF hK2]
  have hlt2:k2<4:=by simp at hc2;omega
  have hr2:=hH.vs.rows.row (k:=k2) bA4;have mQ:=hH.vs.vs _ (getD_mem (l:=vs) (k:=k2) bA4);have hvu:=rM e2 k2;have hf:=h.h.fit.v (H.vs.getD k2 default) (getD_mem (by rw[hL.v];exact hlt2));rw[←hvu] at hf;simp only[eF.u] at hf
  have hq:H.Vf k2=bif (vs.getD k2 default).live then (vs.getD k2 default).vs.all HyD.Ve&&PtD.cZ (vs.getD k2 default).aO 1 15&&!(H.vs.take k2).any fun o=>o.live&&decide (o.aO=(vs.getD k2 default).aO)
    else decide ((vs.getD k2 default).vs=[])&&decide ((vs.getD k2 default).fs=[])&&decide ((vs.getD k2 default).fr=[])&&decide ((vs.getD k2 default).aO=0):=by
   unfold HyD.Vf HyD.vu;rw[←hvu];rfl
  have hqt:((H.vs.take k2).any fun o=>o.live&&decide (o.aO=(vs.getD k2 default).aO))=((vs.take k2).any fun o=>o.live&&decide (o.aO=(vs.getD k2 default).aO)):=by
   rw[←e2,←List.map_take,List.any_map];rfl
  rw[hqt] at hq;generalize vs.getD k2 default=v at hr2 mQ hq hf;refine run ?_;intro W;refine aC ?_
  have hB:(decide (v.vs=[])&&decide (v.fs=[])&&decide (v.fr=[])&&decide (v.aO=0))=!(decide (0<(v.vs.length:Int)+v.fs.length+v.fr.length)||!decide (v.aO=0)):=by
   rw[bH4];simp only[bG8,bI8,bJ9,decide_eq_true_eq,decide_eq_false_iff_not,bJ7,←bT7];have:=bW0 v.vs.length;generalize v.aO=z;omega
  rw[hB] at hq;refine ah _ rfl (fun hd=>?_) (fun hd=>?_)
  ·have:H.Vf k2=false:=by
    rw[hq]
    cases hlv:v.live with
    | true=>rw[hlv] at hd;cases hd
    | false=>
     rw[hlv] at hd;simp only[bK3,bH6] at hd;rw[cond_false,hd];rfl
   refine run ?_;refine fin1 ?_;rw[fZ hlt2 this]
  have hd1:=hd;clear hd;refine run ?_;refine az (fun wc hG=>FP (us:=[]) (fun c=>!HyD.Ve c) v.vs _ (mQ.good hG) (fun c _ w' _=>XZ c w')) ?_;have hany:(v.vs.any fun c=>!HyD.Ve c)=!(v.vs.all HyD.Ve):=by rw[bP3]
  rw[hany];have hnil:v.vs=[]→v.vs.all HyD.Ve=true:=fun e=>by rw[e];rfl
  generalize v.vs.all HyD.Ve=a at hq hnil;refine run ?_;refine ah _ rfl (fun hd=>?_) (fun hd=>?_)
  ·have ha:a=false:=by simpa using hd
   have:H.Vf k2=false:=by
    rw[hq,ha]
    cases hlv:v.live with
    | true=>simp
    | false=>
     rw[hlv] at hd1;exfalso;rw[ha] at hnil;refine absurd (hnil ?_) bA6;rw[←bT7];rw[bJ9] at hd1;have:=hd1.1;simp only[bK3,bH6,decide_eq_false_iff_not] at this;omega
   refine run ?_;refine fin1 ?_;rw[fZ hlt2 this]
  have ha:a=true:=by simpa using hd
  subst ha;clear hd;refine aC ?_
  have hcap2:4≤cap2:=by
   obtain⟨_,c,e,hle⟩:=h.h.cap;rw[hL.v] at e hle;injection e with _ _ e
   omega
  refine au2 (v:=.slice (some ⟨b2,o2,none⟩) k2 cap2) (hy:=fun hg1 hg2=>by simp only[hg1,hg2,bI,bQ0];exact pW aB rfl rfl bA9 bA4 bA4 (m':=k2) bA6 (.inr ⟨_,_,rfl⟩)) (h:=?_);refine aC ?_;have hvt:aA w (.slice (some ⟨b2,o2,none⟩) k2 cap2) 6 ((vs.take k2).map mW):=hH.vs.rows.takeN bA4;refine IB (fun hg1 hg2 wc hG=>xe (us:=[.pointer (some ⟨W,0,none⟩)]) (fun o=>o.live&&decide (o.aO=v.aO)) (vs.take k2) _ (hvt.good hG) (fun o _ w' ha=>X0 o v.aO W w' ?_)) ?_
  ·obtain⟨hp,hg⟩:=ha;exact hg.cell (by rw[cell_of_block (hG.here ⟨W,#[.bool v.live,.bool v.dying,.int .i64 v.aO,v.fv,v.rv,v.vv],62⟩ mh)];rfl) bA6
  refine aC ?_;generalize (vs.take k2).any (fun o=>o.live&&decide (o.aO=v.aO))=c at hq
  have hg:(v.live&&(decide (v.aO<1)||decide (15<v.aO)||c))=!H.Vf k2:=by
   rw[hq]
   cases hlv:v.live with
   | true=>
    rw[cond_true,bH6,bH6,bH4]
    cases c with
    | true=>simp
    | false=>
     simp only[PtD.cZ,bT5,bK3,bM1,bI9,bI8,bM9,decide_eq_true_eq,decide_eq_false_iff_not]
     omega
   | false=>
    rw[hlv] at hd1;simp only[bK3,bH6] at hd1;rw[cond_false,hd1];rfl
  refine ah _ rfl (fun hd=>?_) (fun hd=>?_)
  ·replace hd:=hg.symm.trans hd;refine run ?_;refine fin1 ?_;rw[fZ hlt2 bF8]
  replace hd:=hg.symm.trans hd;refine run ?_;refine aF (k2+1) ⟨hlt2,fun j hj=>?_⟩;by_cases e:j=k2
  ·subst e;simpa using hd
  ·exact hK2 j bA4
end
section
section
variable {P : Program} {n : Nat} {w0 : World} {mu : List Nat} {l : Fm} {h0 hp hc : Hp} {Q : Exit → Fm → Hp → Prop} {all : Array Oper} {ds : List (Nat × Nat)} {t0 : Nat} {i d : Nat} {iv fr : Fm} {rest : List Oper} {op : Op} {ty : TypeId} {pos : String} {af : Array Edge} {j : Nat} {want : Bool} {dj : Nat} {b : Bool}
end
section
variable {n : Nat} {w0 : World} {mu : List Nat} {l : Fm} {hp : Hp} {dd : Option Tmp} {ty : TypeId} {pos : String} {af : Array Edge} {gg : Option (Nat × Bool)}
theorem Jo{t:TypeId}{x:Operand}{off:Nat}(hs:mem Tb.sc t=true)(hx:ev l x=some (.pointer (some ⟨b,off,none⟩)))(hc:∀ w,Good w0 mu hp w→w.cell? ⟨b,off,none⟩=some v):Hy Tryz.prog n w0 mu l hp ⟨dd,.load t x,ty,pos,af,gg⟩ v:=
 bQ fun a w hk hG=>by
  simp only[execOp,hk.ev hx];simp[uA (aB.gsc hs) (hc w hG)]
end
section
variable {n : Nat} {w0 : World} {mu : List Nat} {l : Fm} {h0 hp hc : Hp} {all : Array Oper} {iv aX bz : Fm} {i d : Nat} {ds : List (Nat × Nat)} {r : List Nat} {Y : Fm → Hp → Prop} {ty : TypeId} {pos : String} {af : Array Edge}
theorem aY2{t:TypeId}{x:Operand}{cs:List Value}(h:∀ b,iw Tryz.prog n w0 mu all ds l h0 aX Y r ((i,.pointer (some ⟨b,0,none⟩))::bz) (⟨b,cs.toArray,t⟩::hc))(ho:all[i]?=some ⟨some d,.box t x,ty,pos,af,none⟩:=by rfl)(hx:ev (aU ds (bz++aX) af.toList++l) x=some v:=by rfl)(hcs:v.cells=cs.toArray:=by (first | ((simp only[Value.cells])<;>rfl) | rfl)):iw Tryz.prog n w0 mu all ds l h0 aX Y (i::r) bz hc:=
 aa4 ho (as2 hx hcs) (by rintro _ _ ⟨b,rfl,rfl⟩;exact h b)
end
attribute [local irreducible] Hy St Ops DH dI jl iR gX DS iw lV
theorem aA.aM0{α:Type}{f:α→List Value}{xs:List α}{o cap sz c':Nat}(h:aA w (.slice (some ⟨b,o,none⟩) n cap) sz (xs.map f))(hk:i+k≤xs.length):aA w (.slice (some ⟨b,o+i*sz,none⟩) k c') sz (((xs.drop i).take k).map f):=by
 obtain⟨⟨q,c,e,hne⟩,hle⟩:=h;injection e with e1 e2 e3
 subst e1 e3;rw[bG9] at hle;have hl:(((xs.drop i).take k).map f).length=k:=by rw[bG9,bK1,bN0];omega
 refine⟨⟨_,_,by rw[hl],fun hx=>?_⟩,by rw[hl];omega⟩;obtain⟨b',off,e,hr⟩:=hne (by intro e;rw[bQ9] at e;rw[e] at hx;simp at hx);injection e with e
 injection e with e1 e2 _
 subst e1 e2;refine⟨b,o+i*sz,rfl,fun j cc hj=>?_⟩;rw[List.map_take,List.map_drop,bL9] at hj;split at hj
 ·rw[bO4] at hj;have:=hr (i+j) cc hj;rwa [bQ2,←bU4] at this
 ·cases hj
end
theorem Mc{ws:List Nat}{p:Nat}(hl:level<4)(h:ws.getD p 0=0):gQ ws p level=dG:=by
 unfold gQ;rw[h];exact wG hl
theorem cov3:au 3=1:=rfl
theorem gJ{l:List Int}:(l.any fun t=>decide (t=f))=true↔f∈l:=by
 simp
theorem nK{ws:List Nat}{may:Nat→DsD→Bool}{go:List Int→Int→Nat→Option (List Int)}:∀ {n:Nat} {seen s:List Int},dJ ws may go f level page n seen=some s→∀ k,k<n→∃ a b,dJ ws may go f level page k seen=some a∧mX ws may go f level page k a=some b∧dJ ws may go f level page (k+1) seen=some b:=by
 intro n
 induction n with
 | zero=>intro seen s _ k hk;omega
 | succ n ih=>
  intro seen s h k hk
  cases hs:dJ ws may go f level page n seen with
  | none=>rw[dJ,hs] at h;cases h
  | some a=>
   by_cases e:k=n
   ·subst e;rw[dJ,hs] at h;exact⟨a,s,hs,h,by rw[dJ,hs];exact h⟩
   ·exact ih hs k bA4
theorem rU{ws:List Nat}{may:Nat→DsD→Bool}{seen s:List Int}(h:dM ws may (k+1) seen f level page=some s):bJ ws.length f=true∧f∉seen∧dJ ws may (fun s f' p=>dM ws may k s f' (level+1) p) f level page 8 (seen++[f])=some s:=by
 rw[dM] at h
 cases hc:(!bJ ws.length f||seen.any (fun t=>decide (t=f))) with
 | true=>rw[hc] at h;cases h
 | false=>
  rw[hc,cond_false] at h;rw[bJ9,bJ7] at hc;refine⟨hc.1,fun hm=>?_,h⟩;rw[gJ.2 hm] at hc;cases hc.2
theorem nM{ws:List Nat}{may:Nat→DsD→Bool}{go:List Int→Int→Nat→Option (List Int)}{a b:List Int}(hl:level<4)(h:mX ws may go f level page k a=some b):
  ((gQ ws (f.toNat*8+k) level).kind=1∧page+k*au level≤15∧go a (gQ ws (f.toNat*8+k) level).frame (page+k*au level)=some b) ∨
  ((gQ ws (f.toNat*8+k) level).kind≠1∧a=b∧(ws.getD (f.toNat*8+k) 0≠0→(gQ ws (f.toNat*8+k) level).kind=2∧level=3∧may (page+k) (gQ ws (f.toNat*8+k) level)=true)):=by
 unfold mX at h;by_cases h1:(gQ ws (f.toNat*8+k) level).kind=1
 ·simp only[h1,decide_true,cond_true] at h
  cases hc:decide (15<page+k*au level) with
  | true=>rw[hc] at h;cases h
  | false=>
   rw[hc,cond_false] at h;have:=of_decide_eq_false hc;exact .inl ⟨h1,by omega,h⟩
 ·simp only[decide_eq_false h1,cond_false] at h;refine .inr ⟨h1,?_⟩
  cases hc:(!decide (ws.getD (f.toNat*8+k) 0=0)&&(!decide ((gQ ws (f.toNat*8+k) level).kind=2)||!decide (level=3)||!may (page+k) (gQ ws (f.toNat*8+k) level))) with
  | true=>rw[hc] at h;cases h
  | false=>
   rw[hc,cond_false,bJ2] at h;refine⟨h,fun hne=>?_⟩;rw[decide_eq_false hne,bK3,bH6] at hc;simpa [and_assoc] using hc
structure Fv(n:Nat)(seen s:List Int):Prop where
 pre:∃ t,s=seen++t
 nd:seen.Nodup→s.Nodup
 has:(∀ f∈seen,bJ n f=true)→∀ f∈s,bJ n f=true
theorem Fv.refl(n:Nat)(s:List Int):Fv n s s:=⟨⟨[],by simp⟩,id,id⟩
theorem Fv.trans{a b c:List Int}(h1:Fv n a b)(h2:Fv n b c):Fv n a c:=by
 obtain⟨t,e⟩:=h1.pre;obtain⟨u,e2⟩:=h2.pre;exact⟨⟨t++u,by rw[e2,e,bJ']⟩,fun h=>h2.nd (h1.nd h),fun h=>h2.has (h1.has h)⟩
theorem Fv.snoc{a:List Int}(hf:bJ n f=true)(hm:f∉a):Fv n a (a++[f]):=
 ⟨⟨[f],rfl⟩,fun h=>bL5.2 ⟨h,by simp,fun x hx y hy e=>by simp at hy;subst hy;subst e;exact hm hx⟩,fun h g hg=>by
  rcases bJ6.1 hg with h1 | h1
  ·exact h g h1
  ·simp at h1;rw[h1];exact hf⟩
theorem Fv.sub{a b:List Int}(h:Fv n a b)(hf:f∈a):f∈b:=by
 obtain⟨t,e⟩:=h.pre;rw[e];exact bI4 _ hf
theorem tY{ws:List Nat}{may:Nat→DsD→Bool}:∀ (k level:Nat) (seen:List Int) (f:Int) (page:Nat) (s:List Int),level+k=4→dM ws may k seen f level page=some s→Fv ws.length seen s∧f∈s:=by
 intro k
 induction k with
 | zero=>intro level seen f page s _ h;cases h
 | succ k ih=>
  intro level seen f page s hlk h;obtain⟨h1,h2,h3⟩:=rU h
  have key:∀ n b,dJ ws may (fun s f' p=>dM ws may k s f' (level+1) p) f level page n (seen++[f])=some b→Fv ws.length (seen++[f]) b:=by
   intro n
   induction n with
   | zero=>intro b hb;cases hb;exact Fv.refl _ _
   | succ n ihn=>
    intro b hb;obtain⟨a,b',ha,hs,hb'⟩:=nK hb n bA4;rw[hb] at hb';cases hb';refine (ihn a ha).trans ?_;rcases nM bA4 hs with⟨hk1,_,hgo⟩ | ⟨_,rfl,_⟩
    ·exact (ih (level+1) a _ _ b bA4 hgo).1
    ·exact Fv.refl _ _
  have h4:=key 8 s h3;exact⟨(Fv.snoc h1 h2).trans h4,h4.sub bA6⟩
theorem PD{ws:List Nat}{may:Nat→DsD→Bool}{seen s:List Int}(hlk:level+(k+1)=4)(h:dM ws may (k+1) seen f level page=some s)(hi:i<8):
  ((gQ ws (f.toNat*8+i) level).kind=1∧page+i*au level≤15∧∃ a b,dM ws may k a (gQ ws (f.toNat*8+i) level).frame (level+1) (page+i*au level)=some b) ∨
  ((gQ ws (f.toNat*8+i) level).kind≠1∧(ws.getD (f.toNat*8+i) 0≠0→(gQ ws (f.toNat*8+i) level).kind=2∧level=3∧may (page+i) (gQ ws (f.toNat*8+i) level)=true)):=by
 obtain⟨a,b,_,hs,_⟩:=nK (rU h).2.2 i hi;rcases nM bA4 hs with⟨h1,h2,h3⟩ | ⟨h1,_,h2⟩
 ·exact .inl ⟨h1,h2,a,b,h3⟩
 ·exact .inr ⟨h1,h2⟩
theorem He{ws:List Nat}{may:Nat→DsD→Bool}{root:Int}:∀ (k level:Nat) (seen:List Int) (f:Int) (page:Nat) (s:List Int),level+k=4→dM ws may k seen f level page=some s→page%(8*au level)=0→BD ws root f level page →
  ∀ j,j<8*au level→(aQ ws root (page+j) 3).ok=true∧((aQ ws root (page+j) 3).d.kind=2→(aQ ws root (page+j) 3).lv=3∧may (page+j) (aQ ws root (page+j) 3).d=true):=by
 intro k
 induction k with
 | zero=>intro level seen f page s _ h;cases h
 | succ k ih=>
  intro level seen f page s hlk h hp hon j hj;have hl:level<4:=by omega
  have hf:=(rU h).1;have hc:=fK hl;have hc0:0<au level:=by omega
  obtain⟨fs,d0,hfs,FW⟩:=hon;have hi:j/au level<8:=(Nat.div_lt_iff_lt_mul hc0).2 hj;have hr:j%au level<au level:=bU' _ hc0
  have ej:page+j=page+(j/au level)*au level+j%au level:=by
   rw[bU4,bP6,Nat.div_add_mod]
  generalize hii:j/au level=i at *;generalize hrr:j%au level=r at *;have hsw:=zh hl hp hi hf FW hr;rcases PD hlk h hi with⟨h1,h2,a,b,h3⟩ | ⟨h1,h2⟩
  ·have hl3:level<3:=tu h1;have aY3:=xK hl3 hp hi hf ⟨fs,d0,hfs,FW⟩ h1
   have hp2:(page+i*au level)%(8*au (level+1))=0:=by
    rw[←kK hl3];have h8:page%au level=0:=bS6 (bW9 ⟨8,bP6 _ _⟩ (bQ8 hp));rw[Nat.add_mod,h8,Nat.mul_mod_left];rfl
   have:=ih (level+1) a _ _ b bA4 h3 hp2 aY3 r (by rw[←kK hl3];exact hr);rw[ej];exact this
  ·rw[ej,hsw];have h1':(!decide ((gQ ws (f.toNat*8+i) level).kind=1)||decide (level=3))=true:=by rw[decide_eq_false h1];rfl
   rw[h1',cond_true];refine⟨rfl,fun hk=>?_⟩
   have hne:ws.getD (f.toNat*8+i) 0≠0:=fun e=>by
    have:=Mc hl e;dsimp only at hk;rw[this] at hk;cases hk
   obtain⟨_,e3,hm⟩:=h2 hne;subst e3;have hr0:r=0:=by rw[cov3] at hr;omega
   subst hr0;refine⟨by simp[qQ.lv,hfs],?_⟩;rw[cov3,bJ5,bK6];exact hm
section
attribute [local irreducible] Hy St Ops DH dI jl iR gX DS iw lV
section
variable {n : Nat} {w0 : World} {mu : List Nat} {l : Fm} {hp : Hp} {Q : Exit → Fm → Hp → Prop} {all : Array Oper} {rest : List Oper} {ty : TypeId} {pos : String} {af : Array Edge}
theorem X4{f d j dj:Nat}{want c0 b:Bool}{x:Operand}{xs:List Operand}{vs fs us:List Value}{tys:Array TypeId}(hc:c0=true→jf b want=true→∀ w,Good w0 mu hp w→Fn Tryz.prog f (fs++vs++us).toArray w [] (fun u _=>u=v))(h:Ops Tryz.prog n w0 mu all rest ((d,gv (c0&&jf b want) v)::l) hp Q)(bK:mem iZ f=true)
  (hj:(all[j]?).bind (·.dst)=some dj:=by rfl) (hb:look l dj=some (gv c0 (.bool b)):=by rfl) (hdj:Nat.blt dj n=true:=by rfl) (hd:Nat.blt d n=true:=by rfl) (hx:c0=true→jf b want=true→ev l x=some (.func (.func f) fs.toArray us.toArray):=by (intro hg0 hg1;(try simp only[bG8] at hg0);(try simp only[hg0,hg1,bI,bH6,bM1,bQ0]);rfl)) (hv:c0=true→jf b want=true→evs l xs=some vs:=by (intro hg0 hg1;(try simp only[bG8] at hg0);(try simp only[hg0,hg1,bI,bH6,bM1,bQ0]);rfl)):Ops Tryz.prog n w0 mu all (⟨some d,.call { callee:=.value x,args:=xs.toArray,argTypes:=tys },ty,pos,af,some (j,want)⟩::rest) l hp Q:=
 Dx hd hj hb hdj (fun hg0 hg=>yz (fD f bK) (hx hg0 hg) (hv hg0 hg) (hc hg0 hg)) h
end
theorem X5{wb wc:World}{ha hp:Hp}(h:Good wb [] ha w)(hG:Good w (ha.map (·.b)) hp wc):rO wb wc:=⟨hp++[],Good.lG (hi:=ha) (hp:=[]) (by rw[bI3];exact h) hG⟩
theorem Rh:∀ (n:Nat) (a:List Int),a.Nodup→(∀ i∈a,0≤i∧i<(n:Int))→a.length≤n
 | 0,a,_,h=>by
  cases a with
  | nil=>exact bI0 _
  | cons x r=>have:=h x (bH' ..);omega
 | n+1,a,hn,h=>by
  have h1:=Rh n (a.erase (n:Int)) (hn.erase _) fun i hi=>by
   have h2:=(List.Nodup.mem_erase_iff hn).1 hi;have:=h i h2.2;omega
  have h3:=List.length_erase (a:=(n:Int)) (l:=a);split at h3<;>omega
theorem rV{s:List Int}(hn:s.Nodup)(h:∀ f∈s,bJ n f=true):s.length≤n/8:=
 Rh (n/8) s hn fun f hf=>by
  have:=h f hf;simp only[bJ,bG8,decide_eq_true_eq] at this;exact this
def X6(r:Option (List Int))(u:Value)(hn:Hp):Prop:=match r with
 | none=>u=.tuple #[.slice none 0 0,.bool false]
 | some s=>∃ v h,u=.tuple #[v,.bool true]∧Acc 3 1 v h (s.map bY)∧aJ h hn
theorem qB {ws : List Nat} {may : Nat → DsD → Bool} {go : List Int → Int → Nat → Option (List Int)}   {seen : List Int}  (h : dJ ws may go f level page i seen = none) : ∀ {n : Nat}, i ≤ n → dJ ws may go f level page n seen = none := by
  intro n
  induction n with
  | zero => intro hi; obtain rfl : i = 0 := by omega
            exact h
  | succ n ih =>
    intro hi;by_cases e : i = n + 1
    · subst e; exact h
    · rw [dJ, ih bA4]
theorem af4{wb:World}(X b o cap:Nat)(ws:List Nat)(hw:lT ws)(hm:fM ws.length=true){F:Nat}{us:List Value}(may:Nat→DsD→Bool)(bK:mem iZ F=true)
  (hX:wb.cell? ⟨X,0,none⟩=some (.slice (some ⟨b,o,none⟩) ws.length cap)) (hs:aA wb (.slice (some ⟨b,o,none⟩) ws.length cap) 1 (ws.map uV))
  (hF:∀ (page:Nat) (d:DsD),page≤4095→0≤d.frame→∀ wc,rO wb wc→Fn Tryz.prog F ([]++[Value.int .i64 (page:Int),uk d]++us).toArray wc [] (fun u _=>u=.bool (may page d))):
  ∀ (k level:Nat),level+k=3→∀ (w:World) (seen:List Int) (v:Value) (ha:Hp) (f:Int) (page:Nat),Acc 3 1 v ha (seen.map bY)→Good wb [] ha w→seen.Nodup→(∀ f∈seen,bJ ws.length f=true)→page%(8*au level)=0→page+8*au level≤4096 →
  Fn Tryz.prog 128 [.pointer (some ⟨X,0,none⟩),v,.int .i64 f,.int .i64 (level:Int),.int .i64 (page:Int),.func (.func F) [].toArray us.toArray].toArray w (ha.map (·.b)) (X6 (dM ws may (k+1) seen f level page)):=by
 intro k
 induction k using Nat.strongRecOn with
 | ind k ih=>
 intro level hlk w seen v ha f page hA hG0 hnd hhas hp hpl;have rZ:=bP hm;have hl:level<4:=by omega
 have hc9:=fK hl;have hsl:=rV hnd hhas;obtain⟨q,c,ev⟩:=hA.own.opened;rw[bG9] at ev;subst ev;have haft:∀ wc hp,Good w (ha.map (·.b)) hp wc→rO wb wc:=fun wc hp hG=>X5 hG0 hG
 have hcell:∀ wc hp,Good w (ha.map (·.b)) hp wc→wc.cell? ⟨X,0,none⟩=some (.slice (some ⟨b,o,none⟩) ws.length cap):=fun wc hp hG=>by
  obtain⟨_,hg⟩:=haft wc hp hG;exact hg.cell hX bA6
 have aY4:∀ wc hp,Good w (ha.map (·.b)) hp wc→aA wc (.slice (some ⟨b,o,none⟩) ws.length cap) 1 (ws.map uV):=fun wc hp hG=>by
  obtain⟨_,hg⟩:=haft wc hp hG;exact hs.good hg
 refine eH ha ⟨hG0.here,hG0.nodup⟩ Tryz.func128 ?_;refine aC ?_;refine Vd (v:=.slice (some ⟨b,o,none⟩) ws.length cap) (hy:=fun hg=>by simp only[hg,bI];exact Jo rfl rfl (fun w1 hG=>hcell w1 _ hG)) (h:=?_);refine aC ?_;refine Vd (v:=.int .i64 ((ws.length/8:Nat):Int)) (hy:=fun hg=>by simp only[hg,bI];exact uK rfl rfl ws.length 8 rfl rfl bA5 bA4) (h:=?_);refine aC ?_;have hcs:∀ wc hp,Good w (ha.map (·.b)) hp wc→(∀ e∈ha,e∈hp)→aA wc (.slice q seen.length c) 1 (seen.map bY):=fun wc hp hG hsb=>hA.own.lie (hG.lie hsb) bA7;refine bG (fun hg wc hG=>jS f seen _ (hcs wc _ hG (fun e he=>by simp[he]))) ?_;refine aC ?_
 have hgc:(decide (f<0)||decide (((ws.length/8:Nat):Int)≤f)||seen.any fun t=>decide (t=f))=(!bJ ws.length f||seen.any fun t=>decide (t=f)):=by
  congr 1
  rw[bH4];simp only[bJ,bI9,bI8,bM9,decide_eq_true_eq,decide_eq_false_iff_not];omega
 refine ah _ rfl (fun hc=>?_) (fun hc=>?_)
 ·replace hc:=hgc.symm.trans hc;refine run ?_;refine fin2 ?_;rw[dM,hc];rfl
 replace hc:=hgc.symm.trans hc;have hgr:dM ws may (k+1) seen f level page=dJ ws may (fun s f' p=>dM ws may k s f' (level+1) p) f level page 8 (seen++[f]):=by rw[dM,hc];rfl
 rw[bJ9,bJ7] at hc;have hh:=hc.1;have hnm:f∉seen:=fun hm=>by rw[gJ.2 hm] at hc;cases hc.2
 have hfi:=iK hh;have hG2:=Fv.snoc (a:=seen) hh hnm;rw[hgr];clear hgc hgr;refine run ?_;intro T;refine dK (c:=bY f) hA (fun v2 h2 hA2=>?_) bA7 (aY (m:=1) mh rfl);rw[←bM7 (f:=bY),←bI6] at hA2;obtain⟨q2,c2,ev2⟩:=hA2.own.opened;rw[bG9] at ev2;subst ev2;refine aS h2 aj ?_;refine run ?_;refine az (fun wc hG=>Gv level hl wc) ?_;refine run ?_;refine aK (σ:=Nat×List Int×Value×Hp) (fun s=>[(49,.int .i64 (s.1:Int)),(1,s.2.2.1)]) (fun s=>s.2.2.2) (fun s=>s.1≤8∧dJ ws may (fun s f' p=>dM ws may k s f' (level+1) p) f level page s.1 (seen++[f])=some s.2.1∧Fv ws.length (seen++[f]) s.2.1∧Acc 3 1 s.2.2.1 s.2.2.2 (s.2.1.map bY)) (fun s=>8-s.1) (0,seen++[f],.slice q2 (seen++[f]).length c2,h2) ⟨bH3 _,rfl,Fv.refl _ _,hA2⟩ ?_;rintro⟨i,s1,ov,h1⟩ m hm2 ⟨hi,hsl1,hG3,hA1⟩;dsimp only at hm2 hi hsl1 hG3 hA1 ⊢;have hs1:s1.length≤ws.length/8:=rV (hG3.nd (hG2.nd hnd)) (hG3.has (hG2.has hhas));obtain⟨q1,c1,e1⟩:=hA1.own.opened;rw[bG9] at e1;subst e1;refine run ?_;refine ah _ rfl (fun hc2=>?_) (fun hc2=>?_)
 rotate_left
 ·have NK:i=8:=by have:=of_decide_eq_false hc2;omega
  subst NK;rw[hsl1];refine run ?_;exact fin2 ⟨_,h1,rfl,hA1,aJ.refl _⟩
 have NK:i<8:=by have:=of_decide_eq_true hc2;omega
 have hic:i*au level≤7*au level:=bK0 _ bA4;refine run ?_;refine jL bA9 (Jo rfl rfl (fun w1 hG=>hcell w1 _ hG)) ?_;refine run ?_;rw[show f*8+(i:Int)=((f.toNat*8+i:Nat):Int) by omega];have X7:f.toNat*8+i<ws.length:=by omega
 have hword:∀ wc hp,Good w (ha.map (·.b)) hp wc→wc.cell? ⟨b,o+(f.toNat*8+i),none⟩=some (.int .u64 ((ws.getD (f.toNat*8+i) 0:Nat):Int)):=fun wc hp hG=>by
  have:=ak ((aY4 wc hp hG).row X7);simp only[bJ5] at this;exact this
 refine run ?_;refine jL bA9 (Jo rfl rfl (fun w1 hG=>hword w1 _ hG)) ?_;have hw64:=hw.at (f.toNat*8+i)
 have hdt:zM 2 level (ws.getD (f.toNat*8+i) 0)=gQ ws (f.toNat*8+i) level:=rfl;have hdm:=mF ws (f.toNat*8+i) level;have hstep:=fun (b:Option (List Int)) (hb:mX ws may (fun s f' p=>dM ws may k s f' (level+1) p) f level page i s1=b)=>(show dJ ws may (fun s f' p=>dM ws may k s f' (level+1) p) f level page (i+1) (seen++[f])=b by rw[dJ,hsl1];exact hb)
 refine run ?_;refine az (fun wc hG=>am6 2 (.inr rfl) level hl _ hw64 wc) ?_;rw[hdt];unfold mX at hstep;dsimp only at hstep;generalize gQ ws (f.toNat*8+i) level=d at *;generalize ws.getD (f.toNat*8+i) 0=wd at *;obtain⟨hk3,hk0,hk1,hk2⟩:=gI hdm
 have hfr0:0≤d.frame:=by
  rcases hk3 with e | e | e
  ·have:=(hk0 e).1;omega
  ·exact (hk1 e).2.1
  ·exact (hk2 e).2.1
 refine run ?_;intro D;refine run ?_;refine ah _ rfl (fun hk=>?_) (fun hk=>?_)
 ·have hk':=of_decide_eq_true hk;simp only[hk',decide_true,cond_true] at hstep;have hl3:level<3:=(hk1 hk').1;have hcn:=kK hl3;have hmul:(i:Int)*(au level:Int)=((i*au level:Nat):Int):=(Int.natCast_mul _ _).symm;refine run ?_;rw[show (page:Int)+(i:Int)*(au level:Int)=((page+i*au level:Nat):Int) by rw[hmul];omega];refine ah _ rfl (fun hd=>?_) (fun hd=>?_)
  ·have h15:decide (15<page+i*au level)=true:=decide_eq_true (by have:=of_decide_eq_true hd;omega);have hno:=hstep none (by rw[h15];rfl);refine run ?_;refine fin2 ?_;rw[qB hno bA4];rfl
  have h15:decide (15<page+i*au level)=false:=decide_eq_false (by have:=of_decide_eq_false hd;omega);rw[h15] at hstep;simp only[cond_false] at hstep;refine run ?_;rw[show (page:Int)+(i:Int)*(au level:Int)=((page+i*au level:Nat):Int) by rw[hmul];omega]
  have hcm:(page+i*au level)%(8*au (level+1))=0:=by
   rw[←hcn];have h8:au level ∣ page:=bW9 ⟨8,bP6 _ _⟩ (bQ8 hp);exact bS6 (Nat.dvd_add h8 ⟨i,bP6 _ _⟩)
  obtain⟨k',rfl⟩:∃ k',k=k'+1:=⟨k-1,by omega⟩
  refine ja (R:=fun u hn=>X6 (dM ws may (k'+1) s1 d.frame (level+1) (page+i*au level)) u hn) h1 [⟨D,#[.int .i64 d.kind,.int .i64 d.frame,.bool d.r,.bool d.w,.bool d.x,.bool d.af,.bool d.ng,.int .i64 d.soft,.int .i64 d.note],95⟩] (fun wc hG=>?_) ?_ aT
  ·refine ih k' bA4 (level+1) bA4 wc s1 _ h1 d.frame _ hA1 ?_ (hG3.nd (hG2.nd hnd)) (hG3.has (hG2.has hhas)) hcm (by rw[←hcn];omega);have h5:=Good.lG (hi:=ha) (hp:=[]) (by rw[bI3];exact hG0) hG;rw[bI3] at h5;exact h5.sub (bX3 _ _)
  intro u hn hu
  cases hz:dM ws may (k'+1) s1 d.frame (level+1) (page+i*au level) with
  | none=>
   rw[hz] at hu;obtain rfl:u=_:=hu;have hno:=hstep none hz;refine aN ?_;refine fin2 ?_
   rw[qB hno bA4];rfl
  | some s2=>
   rw[hz] at hu;obtain⟨v5,h5,rfl,Vh,PE⟩:=hu;refine ig PE ?_;obtain⟨q5,c5,e5⟩:=Vh.own.opened;rw[bG9] at e5;subst e5;have hG5:=(tY (k'+1) (level+1) s1 d.frame (page+i*au level) s2 bA4 hz).1;refine aN ?_;exact aF (i+1,s2,.slice q5 s2.length c5,h5) ⟨NK,hstep _ hz,hG3.trans hG5,Vh⟩ (hm:=by dsimp only;omega) (h2:=by (exact aj))
 have hk':=of_decide_eq_false hk;rw[decide_eq_false hk'] at hstep;simp only[cond_false] at hstep;refine aC ?_;refine X4 (fs:=[]) (vs:=[.int .i64 ((page+i:Nat):Int),uk d]) (us:=us) (fun hg0 hg1 wc hG=>hF (page+i) d bA4 hfr0 wc (haft wc _ hG)) ?_ bK;refine aC ?_
 have hcc:(!decide ((wd:Int)=0)&&(!decide (d.kind=2)||!decide ((level:Int)=3)||!may (page+i) d))=(!decide (wd=0)&&(!decide (d.kind=2)||!decide (level=3)||!may (page+i) d)):=by
  have e1:decide ((wd:Int)=0)=decide (wd=0):=by rw[bH4,decide_eq_true_eq,decide_eq_true_eq];omega
  have e2:decide ((level:Int)=3)=decide (level=3):=by rw[bH4,decide_eq_true_eq,decide_eq_true_eq];omega
  rw[e1,e2]
 refine ah _ rfl (fun hd=>?_) (fun hd=>?_)
 ·replace hd:=hcc.symm.trans hd;have hno:=hstep none (by rw[hd];rfl);refine run ?_;refine fin2 ?_;rw[qB hno bA4];rfl
 replace hd:=hcc.symm.trans hd;refine run ?_;refine aF (i+1,s1,.slice q1 s1.length c1,h1) ⟨NK,hstep _ (by rw[hd];rfl),hG3,hA1⟩ (hm:=by dsimp only;omega) (h2:=by (exact aj))
end
section
attribute [local irreducible] Hy St Ops DH dI jl iR gX DS iw lV
theorem ao0(a b:DsD):aW (dsR a) (dsR b)=decide (a=b):=by
 obtain⟨a1,a2,a3,a4,a5,a6,a7,a8,a9⟩:=a;obtain⟨b1,b2,b3,b4,b5,b6,b7,b8,b9⟩:=b;rw[bH4,decide_eq_true_eq];simp[aW,iH]
theorem X8(X:Nat){pv gv ov:Value}{P:PtD}(hP:dN w pv gv ov P)(hn:P.Len)(h4:P.ay.length=4)(i:Nat)(hi:i<4)(mid:Nat)(d:DsD)(h0:0≤d.frame):Fn Tryz.prog 130 [.pointer (some ⟨X,0,none⟩),.int .i64 ((i:Int)+1),.int .i64 (mid:Int),uk d,.agg #[pv,gv,ov]].toArray w [] (fun u _=>u=.bool (vg P ((i:Int)+1) mid d)):=by
 have hl:=hn;obtain⟨L,rfl,rfl,rfl,hV⟩:=hP.open hn;have hg:=hV.gs i bA4;have hmp:=hV.mp i bA4;refine enter Tryz.func130 ?_;refine run ?_;intro B1 B2;refine ah _ rfl (fun hc=>?_) (fun hc=>?_)
 ·have hge:¬ d.frame<(P.pages.length:Int):=by have:=of_decide_eq_true hc;omega
  refine run ?_;refine fin1 ?_;unfold vg;rw[decide_eq_false hge];rfl
 have hlt:d.frame<(P.pages.length:Int):=by have:=of_decide_eq_false hc;omega
 have hfl:d.frame.toNat<P.pages.length:=by omega
 have hpr:=hV.pg d.frame.toNat hfl;refine LY ?_;intro S;have hn1:((i:Int)+1-1).toNat=i:=by omega
 refine sG (σ:=Int) (fun z=>[(11,.int .i64 z)]) (fun _=>[⟨B2,#[L.pv P.pages.length,L.gv P.ay.length,L.ov P.on.length],48⟩,⟨B1,#[.int .i64 d.kind,.int .i64 d.frame,.bool d.r,.bool d.w,.bool d.x,.bool d.af,.bool d.ng,.int .i64 d.soft,.int .i64 d.note],95⟩]) (fun z=>z=BF P ((i:Int)+1) d.frame.toNat) ?_ ?_
 ·unfold BF;refine run ?_;refine ah _ rfl (fun hc2=>?_) (fun hc2=>?_)
  ·refine run ?_;exact kZ 2 (by rw[hc2];rfl)
  refine run ?_;refine ah _ rfl (fun hc3=>?_) (fun hc3=>?_)
  ·refine run ?_;exact kZ 1 (by rw[hc2,hc3];rfl)
  ·refine run ?_;exact kZ 0 (by rw[hc2,hc3];rfl)
 rintro z hz;unfold vg;rw[decide_eq_true hlt,bH6,←hz,hn1];refine aC ?_;have hmc:w.cell? ⟨L.gb,L.go+((i:Int)+1-1).toNat*5+4,none⟩=some (L.mv i):=by rw[hn1];exact hg 4 _ rfl
 refine eP 20 ?_;refine aZ ?_;refine fB (fun wc hG=>yY d.frame z wc) ?_;refine aZ ?_;refine eG (fun hg wc hG=>Jl ⟨(mid:Int),d.frame⟩ (P.gs i).maps _ (hmp.good hG)) ?_;refine aZ ?_;refine aC ?_;refine fin1 ?_;rw[←ao0]
theorem PG(X Y1 Y2 Y3:Nat){pv gv ov:Value}{P:PtD}(hP:dN w pv gv ov P)(hn:P.Len)(i:Nat)(hi:i<4)(page:Nat)(d:DsD)(h0:0≤d.frame)(h1:w.cell? ⟨Y1,0,none⟩=some (.pointer (some ⟨X,0,none⟩)))(h2:w.cell? ⟨Y2,0,none⟩=some (.int .i64 (i:Int)))(h3:w.rangeAt Y3 0 [pv,gv,ov]):Fn Tryz.prog 129 ([]++[Value.int .i64 (page:Int),uk d]++[Value.pointer (some ⟨Y1,0,none⟩),.pointer (some ⟨Y2,0,none⟩),.pointer (some ⟨Y3,0,none⟩)]).toArray w [] (fun u _=>u=.bool (decide (page≤15)&&vg P ((i:Int)+1) page d)):=by
 refine enter Tryz.func129 ?_;refine aC ?_;intro B;refine aC ?_;refine bG (fun hg wc hG=>X8 X (hP.good hG) hn (by have:=hn.g4;omega) i hi page d h0) ?_;refine aC ?_;refine fin1 ?_
 congr 2
 rw[bH4,decide_eq_true_eq,decide_eq_true_eq];omega
theorem PI(c:Nat)(w:World):Fn Tryz.prog 133 ([]++[Value.int .u64 (c:Int)]++[]).toArray w [] (fun u _=>u=.bool (!decide (c=0))):=by
 refine enter Tryz.func133 ?_;refine run ?_;refine fin1 ?_
 congr 2
 rw[bH4,decide_eq_true_eq,decide_eq_true_eq];omega
theorem PL(f:Int)(l:List Int)(Y:Nat){lv:Value}(h1:w.cell? ⟨Y,3,none⟩=some lv)(hl:aA w lv 1 (l.map bY)):Fn Tryz.prog 135 ([]++[Value.int .i64 f]++[Value.pointer (some ⟨Y,0,none⟩)]).toArray w [] (fun u _=>u=.bool (!l.any fun t=>decide (t=f))):=by
 refine enter Tryz.func135 ?_;refine run ?_;refine az (fun wc hG=>jS f l _ (hl.good hG)) ?_;refine run ?_;exact fin1 rfl
theorem PM{vv rv:Value}(h:xN w X wv cv vv rv mv H){pv gv ov:Value}(hP:dN w pv gv ov H.aG)(hn:H.aG.Len)(hmay:H.aG.may=true)(i:Nat)(hi:i<4):Fn Tryz.prog 63 [.pointer (some ⟨X,0,none⟩),.int .i64 (i:Int),.agg #[pv,gv,ov]].toArray w [] (fun u _=>u=.bool (H.nY i)):=by
 have h':=h;have hP':=hP;have hL:=jv h.ok;have rZ:=bP hL.m;have hfit:=h.h.fit.v (H.vu i) (getD_mem bG1);obtain⟨L,rfl,rfl,rfl,hV⟩:=hP.open hn;obtain⟨cs,vs,e1,e2,_,hH⟩:=h.h.ex;have hvl:vs.length=4:=by rw[←hL.v,←e2,bG9]
 have hg4:=hn.g4;have hrg:=hV.gs i bA4;have hws:=hH.ws;obtain⟨qw,EE,rfl,hnew,_⟩:=hws.opened;obtain⟨bw,ow,rfl⟩:=hnew (by intro e;have:=hL.f;rw[e] at this;simp at this);have h0:w.rangeAt X 0 [.slice (some ⟨bw,ow,none⟩) H.ws.length EE]:=aV (k:=0) (n:=1) h.x rfl;have h0':=ak h0;have hop:=hH.vs.rows.opened;rw[hvl] at hop;obtain⟨q2,cap2,rfl,hne2,_⟩:=hop;obtain⟨b2,o2,rfl⟩:=hne2 bB';have h2:w.rangeAt X 2 [.slice (some ⟨b2,o2,none⟩) 4 cap2]:=aV (k:=2) (n:=1) h.x rfl;have h2':=ak h2;obtain⟨qv,lv,ev,_⟩:=(hV.vc i bA4).opened;obtain⟨qm,lm,em,_⟩:=(hV.mp i bA4).opened;rw[ev,em] at hrg;generalize (H.aG.gs i).aP.length=nv at hrg;generalize (H.aG.gs i).maps.length=nm at hrg;have hr:=hH.vs.rows.row (k:=i) bA4;have hfs:=hH.vs.fs _ (getD_mem (l:=vs) (k:=i) bA4);have hfr:=hH.vs.fr _ (getD_mem (l:=vs) (k:=i) bA4);have hu:=rM e2 i;rw[show H.vs.getD i default=H.vu i from rfl] at hu;have hgs:=(rQ H).2.1 i hi;refine enter Tryz.func63 ?_;refine run ?_;intro Y1 Y2 Y3
 have tZ:H.nY i=bif !(vs.getD i default).live then true else
   decide ((vs.getD i default).fs.length=5)&&allB 5 (fun k=>decide ((vs.getD i default).fs.getD k 0=(vs.getD i default).fs.getD 0 0+(k:Int))) &&
   match dM H.ws (H.EC i) 4 [] ((vs.getD i default).fs.getD 0 0) 0 0 with
   | none=>false
   | some seen=>decide (seen.length+(vs.getD i default).fr.length=5)&&allB (vs.getD i default).fr.length (xM H.ws (vs.getD i default).fs seen (vs.getD i default).fr)&&seen.all fun f=>(vs.getD i default).fs.any fun t=>decide (t=f):=by
  unfold HyD.nY kM.root;rw[←hu];rfl
 have hgf:(H.bU i).first=bif (vs.getD i default).live then (bif decide (0<(vs.getD i default).fs.length) then (vs.getD i default).fs.getD 0 0 else 0) else 0:=by
  unfold HyD.bU kM.root;rw[←hu];simp only[eF.u];cases (vs.getD i default).live<;>rfl
 have hgb:(vs.getD i default).live=true→16≤(H.bU i).first∧(H.bU i).first+5≤(H.ws.length/8:Nat):=fun hl=>by
  have hlg:(H.aG.gs i).live=true:=by
   rw[hgs];unfold HyD.bU;rw[←hu];simp only[eF.u,hl];rfl
  have:=(PtD.sS.1 hmay).Wy i hi hlg;have hpl:H.aG.pages.length=H.ws.length/8:=by simp[HyD.aG]
  rw[hgs,hpl] at this;omega
 rw[←hu] at hfit;simp only[eF.u] at hfit;rw[hgs] at hrg;generalize H.bU i=g at hrg hgf hgb;generalize vs.getD i default=v at *;refine Ec 17 15 [0,1,2,3,4,5,6,7,8,9,10,11,12] [13,14] [15,16] [⟨Y3,#[L.pv H.aG.pages.length,L.gv H.aG.ay.length,L.ov H.aG.on.length],48⟩,⟨Y2,#[.int .i64 (i:Int)],3⟩,⟨Y1,#[.pointer (some ⟨X,0,none⟩)],134⟩] ?_;refine kW ?_;refine sQ ?_;refine sQ ?_;refine kP ?_;rintro _ _ ⟨G,rfl,rfl⟩;rintro _ _ ⟨V,rfl,rfl⟩;simp only[DN,bH2,bH5,bI3];obtain⟨qf,lf,ef,rP,_⟩:=hfs.opened;obtain⟨qr,lr,er,ay7,_⟩:=hfr.opened;refine jg (b:=V) (tb:=62) (cs:=#[.bool false,.bool false,.int .i64 0,.slice none 0 0,.slice none 0 0,.slice none 0 0]) (cs':=(mW v).toArray) (hp':=⟨G,#[.bool false,.bool false,.int .i64 0,.slice none 0 0,.slice none 0 0],100⟩::[⟨Y3,#[L.pv H.aG.pages.length,L.gv H.aG.ay.length,L.ov H.aG.on.length],48⟩,⟨Y2,#[.int .i64 (i:Int)],3⟩,⟨Y1,#[.pointer (some ⟨X,0,none⟩)],134⟩]) ?_ aT;refine jg (b:=G) (tb:=100) (cs:=#[.bool false,.bool false,.int .i64 0,.slice none 0 0,.slice none 0 0]) (cs':=#[.bool g.live,.bool g.dying,.int .i64 g.first,.slice qv nv lv,.slice qm nm lm]) (hp':=⟨V,(mW v).toArray,62⟩::[⟨Y3,#[L.pv H.aG.pages.length,L.gv H.aG.ay.length,L.ov H.aG.on.length],48⟩,⟨Y2,#[.int .i64 (i:Int)],3⟩,⟨Y1,#[.pointer (some ⟨X,0,none⟩)],134⟩]) ?_ aT;refine dh ?_;refine kR ?_;refine run ?_;refine ah _ rfl (fun hc=>?_) (fun hc=>?_)
 ·have hlv:v.live=false:=by simpa using hc
  rw[hlv] at tZ;refine run ?_;refine fin1 ?_;rw[tZ];rfl
 have hlv:v.live=true:=by simpa using hc
 rw[hlv] at tZ;simp only[bJ3,cond_false] at tZ;rw[hlv,cond_true] at hgf;clear hc;refine run ?_;refine ah _ rfl (fun hc=>?_) (fun hc=>?_)
 ·have h5:¬ v.fs.length=5:=by have:=hc;simp at this;omega
  refine run ?_;refine fin1 ?_;rw[tZ,decide_eq_false h5];rfl
 have h5:v.fs.length=5:=by have:=hc;simp at this;omega
 rw[decide_eq_true h5,bH6] at tZ;rw[decide_eq_true (by omega:0<v.fs.length),cond_true] at hgf;clear hc;rw[h5] at ef;obtain⟨bf,BI,rfl⟩:∃ b o,qf=some ⟨b,o,none⟩:=rP bE7;rw[ef] at hfs;have hf0:=hfit.2.2.2.1
 have hrow:∀ k,k<5→w.cell? ⟨bf,BI+k,none⟩=some (.int .i64 (v.fs.getD k 0)):=fun k hk=>by
  have:=ak (hfs.row (show k<v.fs.length by omega));simp only[bJ5] at this;exact this
 have bn7:=hgb hlv;refine run ?_;rw[ef];refine aK (σ:=Nat) (fun k=>[(38,.int .i64 (k:Int))]) (fun _=>[⟨G,#[.bool g.live,.bool g.dying,.int .i64 g.first,.slice qv nv lv,.slice qm nm lm],100⟩,⟨V,(mW v).toArray,62⟩,⟨Y3,#[L.pv H.aG.pages.length,L.gv H.aG.ay.length,L.ov H.aG.on.length],48⟩,⟨Y2,#[.int .i64 (i:Int)],3⟩,⟨Y1,#[.pointer (some ⟨X,0,none⟩)],134⟩]) (fun k=>k≤5∧∀ j,j<k→v.fs.getD j 0=v.fs.getD 0 0+(j:Int)) (fun k=>5-k) 0 ⟨bH3 _,fun j hj=>absurd hj (bK2 _)⟩ ?_;rintro k m hm ⟨hk,hK⟩;refine run ?_;rw[h5];refine ah _ rfl (fun hc=>?_) (fun hc=>?_)
 ·have hk5:k<5:=by have:=of_decide_eq_true hc;omega
  have hrk:=hrow k hk5;refine run ?_;have hfe:decide (v.fs.getD k 0=g.first+(k:Int))=decide (v.fs.getD k 0=v.fs.getD 0 0+(k:Int)):=by rw[hgf]
  refine ah _ rfl (fun hd=>?_) (fun hd=>?_)
  ·have hne:¬ v.fs.getD k 0=g.first+(k:Int):=by simpa using hd
   refine run ?_;refine fin1 ?_;rw[tZ,fZ hk5 (decide_eq_false (by rw[←hgf];exact hne))];rfl
  have heq:v.fs.getD k 0=g.first+(k:Int):=by simpa using hd
  refine run ?_;refine aF (k+1) ⟨hk5,fun j hj=>?_⟩;by_cases e:j=k
  ·subst e;rw[heq,hgf]
  ·exact hK j bA4
 have hk5:k=5:=by have:=of_decide_eq_false hc;omega
 subst hk5;rw[fF (fun j hj=>decide_eq_true (hK j hj)),bH6] at tZ;refine run ?_;refine bH (fun wc hG=>af4 (wb:=wc) X bw ow EE H.ws hH.Df hL.m (us:=[.pointer (some ⟨Y1,0,none⟩),.pointer (some ⟨Y2,0,none⟩),.pointer (some ⟨Y3,0,none⟩)]) (H.EC i) rfl (hG.cell h0' bA6) (hws.good hG) (fun page d hp9 hd0 w' ha=>?_) 3 0 rfl wc [] _ [] g.first 0 (Acc.nil _ _) (Good.nil wc []) bV2 bA6 bA5 bA5) ?_
 ·obtain⟨hp,hg⟩:=ha;refine PG X Y1 Y2 Y3 (hP'.good (hG.trans hg)) hn i hi page d hd0 ?_ ?_ ?_
  ·exact hg.cell (by rw[cell_of_block (hG.here ⟨Y1,#[.pointer (some ⟨X,0,none⟩)],134⟩ bA6)];rfl) bA6
  ·exact hg.cell (by rw[cell_of_block (hG.here ⟨Y2,#[.int .i64 (i:Int)],3⟩ bA6)];rfl) bA6
  ·exact hg.range (qN (t:=48) (hG.here ⟨Y3,#[L.pv H.aG.pages.length,L.gv H.aG.ay.length,L.ov H.aG.on.length],48⟩ bA6)) bA6
 intro u hn2 hu;rw[←hgf] at tZ
 cases hz:dM H.ws (H.EC i) 4 [] g.first 0 0 with
 | none=>
  rw[hz] at hu tZ;obtain rfl:u=_:=hu;refine aS [⟨G,#[.bool g.live,.bool g.dying,.int .i64 g.first,.slice qv nv lv,.slice qm nm lm],100⟩,⟨V,(mW v).toArray,62⟩,⟨Y3,#[L.pv H.aG.pages.length,L.gv H.aG.ay.length,L.ov H.aG.on.length],48⟩,⟨Y2,#[.int .i64 (i:Int)],3⟩,⟨Y1,#[.pointer (some ⟨X,0,none⟩)],134⟩] aj ?_;refine aC ?_;refine ah _ rfl (fun hd=>?_) (fun hd=>by simp at hd);refine run ?_;refine fin1 ?_
  rw[tZ]
 | some seen=>
  rw[hz] at hu tZ;dsimp only at tZ;obtain⟨v5,h6,rfl,Vh,PE⟩:=hu;have hGs:=tY 4 0 [] g.first 0 seen rfl hz
  have hsl:=rV (hGs.1.nd bV2) (hGs.1.has bA6);obtain⟨q5,c5,e5⟩:=Vh.own.opened;rw[bG9] at e5;subst e5;refine aS (⟨G,#[.bool g.live,.bool g.dying,.int .i64 g.first,.slice qv nv lv,.slice qm nm lm],100⟩::⟨V,(mW v).toArray,62⟩::⟨Y3,#[L.pv H.aG.pages.length,L.gv H.aG.ay.length,L.ov H.aG.on.length],48⟩::⟨Y2,#[.int .i64 (i:Int)],3⟩::⟨Y1,#[.pointer (some ⟨X,0,none⟩)],134⟩::h6) (cnt1 PE) ?_;refine aC ?_;have hcl:(decide ((seen.length:Int)+v.fr.length=5))=decide (seen.length+v.fr.length=5):=by rw[bH4,decide_eq_true_eq,decide_eq_true_eq];omega
  refine ah _ rfl (fun hd=>?_) (fun hd=>?_)
  ·have hne:decide (seen.length+v.fr.length=5)=false:=by
    rw[←hcl];simpa using hd
   refine run ?_;refine fin1 ?_;rw[tZ,hne];rfl
  have heq:decide (seen.length+v.fr.length=5)=true:=by
   rw[←hcl];simpa using hd
  have heq':=of_decide_eq_true heq;rw[heq,bH6] at tZ;clear hd;have hfr2:=hfr;rw[er] at hfr2;have hnr:v.fr.length≠0→∃ b o,qr=some ⟨b,o,none⟩:=fun h=>ay7 (by intro e;rw[e] at h;exact h rfl);refine run ?_;rw[er];refine aK (σ:=Nat) (fun k=>[(72,.int .i64 (k:Int))]) (fun _=>⟨G,#[.bool g.live,.bool g.dying,.int .i64 g.first,.slice qv nv lv,.slice qm nm lm],100⟩::⟨V,(mW v).toArray,62⟩::⟨Y3,#[L.pv H.aG.pages.length,L.gv H.aG.ay.length,L.ov H.aG.on.length],48⟩::⟨Y2,#[.int .i64 (i:Int)],3⟩::⟨Y1,#[.pointer (some ⟨X,0,none⟩)],134⟩::h6) (fun k=>k≤v.fr.length∧∀ j,j<k→xM H.ws v.fs seen v.fr j=true) (fun k=>v.fr.length-k) 0 ⟨bH3 _,fun j hj=>absurd hj (bK2 _)⟩ ?_ (hh:=by (exact aj));rintro k m2 hm2 ⟨hk2,hK2⟩;refine run ?_;refine ah _ rfl (fun hc2=>?_) (fun hc2=>?_)
  rotate_left
  ·have hke:k=v.fr.length:=by have:=of_decide_eq_false hc2;omega
   subst hke;rw[fF hK2,bH6] at tZ;refine run ?_;have ay8:∀ wc hp,Good w [] hp wc→(∀ e∈h6,e∈hp)→aA wc (.slice q5 seen.length c5) 1 (seen.map bY):=fun wc hp hG hs=>Vh.own.lie (hG.lie hs) bA7;refine az (fun wc hG=>qy (us:=[.pointer (some ⟨V,0,none⟩)]) (fun f=>!v.fs.any fun t=>decide (t=f)) seen _ (ay8 wc _ hG (fun e he=>by simp[he])) (fun f _ w' ha=>PL f v.fs V (w:=w') (lv:=v.fv) ?_ ?_)) ?_
   ·obtain⟨hp,hg⟩:=ha;exact hg.cell (by rw[cell_of_block (hG.here ⟨V,(mW v).toArray,62⟩ bA6)];rfl) bA6
   ·obtain⟨hp,hg⟩:=ha;rw[ef];exact (hfs.good hG).good hg
   refine run ?_;refine fin1 ?_;rw[tZ,←bP3,bQ1]
  have hkl:k<v.fr.length:=by have:=of_decide_eq_true hc2;omega
  obtain⟨br,or_,rfl⟩:=hnr bA4;have hrr:=ak (hfr2.row hkl);simp only[bJ5] at hrr
  have hrp:0<k→w.cell? ⟨br,or_+(k-1),none⟩=some (.int .i64 (v.fr.getD (k-1) default)):=fun h0=>by
   have:=ak (hfr2.row (k:=k-1) bA4);simp only[bJ5] at this;exact this
  refine run ?_;refine az (fun wc hG=>jS _ v.fs _ (by rw[←ef] at hfs;exact hfs.good hG)) ?_;refine aC ?_;have BH:∀ wc hp,Good w [] hp wc→(∀ e∈h6,e∈hp)→aA wc (.slice q5 seen.length c5) 1 (seen.map bY):=fun wc hp hG hs=>Vh.own.lie (hG.lie hs) bA7;refine bG (fun hg wc hG=>jS _ seen _ (BH wc _ hG (fun e he=>by simp[he]))) ?_;refine aC ?_;rw[er]
  have hk0:jf (decide ((0:Int)<(k:Int))) true=true→0<k:=fun h=>by
   unfold jf at h;have:=h;simp at this;omega
  refine au2 (v:=.pointer (some ⟨br,or_+((k:Int)-1).toNat*1,none⟩)) (hy:=fun hg0 hg1=>by have:=hk0 hg1;simp only[hg0,hg1,bI,bQ0];exact Ie aB rfl rfl rfl bA4 bA4 rfl) (h:=?_);refine au2 (v:=.int .i64 (v.fr.getD (k-1) default)) (hy:=fun hg0 hg1=>by have h0:=hk0 hg1;simp only[hg0,hg1,bI,bQ0];exact Ig aB rfl rfl (by rw[bJ5,show ((k:Int)-1).toNat=k-1 by omega];exact hrp h0) bA6) (h:=?_);refine aC ?_;have hfk:xM H.ws v.fs seen v.fr k=((v.fs.any fun t=>decide (t=v.fr.getD k default))&&!(seen.any fun t=>decide (t=v.fr.getD k default))&&(decide (k=0)||decide (v.fr.getD (k-1) default<v.fr.getD k default))&&GX H.ws (v.fr.getD k default)):=rfl
  have hin:(v.fs.any fun t=>decide (t=v.fr.getD k default))=true→bJ H.ws.length (v.fr.getD k default)=true:=fun h=>by
   obtain⟨j,hj,e⟩:=bS0 (gJ.1 h);have:=hK j bA4;rw[bG',bH0 hj,bO3,e,←hgf] at this;rw[this];simp only[bJ,bG8,decide_eq_true_eq];omega
  have hC1:((!(v.fs.any fun t=>decide (t=v.fr.getD k default))||seen.any fun t=>decide (t=v.fr.getD k default))||decide ((0:Int)<(k:Int))&&decide (v.fr.getD k default≤v.fr.getD (k-1) default))=!((v.fs.any fun t=>decide (t=v.fr.getD k default))&&!(seen.any fun t=>decide (t=v.fr.getD k default))&&(decide (k=0)||decide (v.fr.getD (k-1) default<v.fr.getD k default))):=by
   have e1:(decide ((0:Int)<(k:Int))&&decide (v.fr.getD k default≤v.fr.getD (k-1) default))=!(decide (k=0)||decide (v.fr.getD (k-1) default<v.fr.getD k default)):=by
    rw[bH4];simp only[bG8,bI8,bJ9,decide_eq_true_eq,decide_eq_false_iff_not];omega
   rw[e1];cases (v.fs.any fun t=>decide (t=v.fr.getD k default))<;>cases (seen.any fun t=>decide (t=v.fr.getD k default))<;>simp
  generalize v.fr.getD k default=f at *;refine ah _ rfl (fun hd=>?_) (fun hd=>?_)
  ·replace hd:=hC1.symm.trans hd;have:xM H.ws v.fs seen v.fr k=false:=by rw[hfk,show ((v.fs.any fun t=>decide (t=f))&&!(seen.any fun t=>decide (t=f))&&(decide (k=0)||decide (v.fr.getD (k-1) default<f)))=false by rw[bI8] at hd;exact hd];rfl
   refine run ?_;refine fin1 ?_;rw[tZ,fZ hkl this];rfl
  replace hd:=hC1.symm.trans hd;have hd':((v.fs.any fun t=>decide (t=f))&&!(seen.any fun t=>decide (t=f))&&(decide (k=0)||decide (v.fr.getD (k-1) default<f)))=true:=by rw[bJ7] at hd;exact hd
  rw[hd',bH6] at hfk;rw[bG8,bG8] at hd';have hhf:=hin hd'.1.1;have hfi:=iK hhf
  have bg5:H.ws.length≤EE:=by
   obtain⟨_,c,e,hle⟩:=h'.h.EE;injection e with _ _ e
   omega
  refine run ?_;refine jL bA9 (wo aB rfl rfl rfl bA9 bA4 bA4 bA4 bA4 (o':=ow+f.toNat*8) bA4 (m':=8) bA4 (c':=EE-f.toNat*8) bA4) ?_;have hcut:aA w (.slice (some ⟨bw,ow+f.toNat*8*1,none⟩) 8 (EE-f.toNat*8)) 1 (((H.ws.drop (f.toNat*8)).take 8).map uV):=hws.aM0 (i:=f.toNat*8) (k:=8) bA4;rw[bJ5] at hcut;refine run ?_;refine az (fun wc hG=>FQ (us:=[]) (fun c=>!decide (c=0)) ((H.ws.drop (f.toNat*8)).take 8) _ (hcut.good hG) (fun c _ w' _=>PI c w')) ?_
  have hzb:(((H.ws.drop (f.toNat*8)).take 8).any fun c=>!decide (c=0))=!GX H.ws f:=by
   rw[←bP3]
   congr 1
   unfold GX;rw[bH4,bH1,aI];constructor
   ·intro h j hj;have hl:j<((H.ws.drop (f.toNat*8)).take 8).length:=by rw[bK1,bN0];omega
    have:=h _ (bW8 hl);rw[bT4,List.getElem_drop] at this;rw[bG',bH0 bA4];exact this
   ·intro h c hc;obtain⟨j,hj,e⟩:=bS0 hc;rw[bT4,List.getElem_drop] at e;rw[bK1,bN0] at hj;have:=h j bA4;rw[bG',bH0 bA4] at this;rw[←e];exact this
  rw[hzb,←hfk];refine run ?_;refine ah _ rfl (fun hd2=>?_) (fun hd2=>?_)
  ·refine run ?_;refine fin1 ?_;rw[tZ,fZ hkl (by simpa using hd2)];rfl
  refine run ?_;refine aF (k+1) ⟨hkl,fun j hj=>?_⟩ (h2:=by (exact aj));by_cases e:j=k
  ·subst e;simpa using hd2
  ·exact hK2 j bA4
end
end Go.Proofs.YtellmabgmnbhcaaGreat
