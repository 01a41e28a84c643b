/- Texts of one's own, merged: the engine, what the functions do, plain laws. -/
import Derived.Test.YtellmabgmnbhcaaGreatPs3
namespace Go.Proofs.YtellmabgmnbhcaaGreat
open Go.RowKit
set_option linter.unusedVariables false
set_option linter.unusedSimpArgs false
set_option maxRecDepth 20000
variable {w:World}{v wv cv:Value}{b n i k page X level:Nat}{H:HyD}{mv:Nat→Value}{f:Int}
section
section
variable {P : Program} {n : Nat} {w0 : World} {mu : List Nat} {l : Fm} {hp : Hp} {dd : Option Tmp} {ty : TypeId} {pos : String} {af : Array Edge} {gg : Option (Nat × Bool)} {t u : TypeId} {x y : Operand}
theorem GZ{p q:Int}(hx:ev l x=some (.int .i64 p))(hy:ev l y=some (.int .i64 q)):Hy P n w0 mu l hp ⟨dd,.binOp .andNot t x y u,ty,pos,af,gg⟩ (.int .i64 (bits .andNot .i64 p q)):=
 bQ fun ac w hk _=>by
  simp only[execOp,hk.ev hx,hk.ev hy];simp[eqGuard_andNot,binOp_andNot,intBits_andNot]
end
theorem LQ:∀ l:Nat,l<3→∀ p:Nat,p<4096→bits .andNot .i64 (p:Int) ((au l:Nat)-1:Int)=((xI l p:Nat):Int):=by decide +kernel
end
section
attribute [local irreducible] Hy St Ops DH dH
theorem TQ(m x:Int)(B:Nat)(w:World)(hB:w.cell? ⟨B,0,none⟩=some (.int .i64 m)):Fn Tryz.prog 337 ([]++[Value.int .i64 x]++[Value.pointer (some ⟨B,0,none⟩)]).toArray w [] (fun u _=>u=.bool (!PtD.dD x 0 m)):=by
 refine enter Tryz.func337 ?_;refine aC ?_;refine fin1 ?_;unfold PtD.dD;rw[bW3]
 congr 1
 rw[←decide_not,←decide_not]
 congr 1<;>(rw[bI2,decide_eq_true_eq,decide_eq_true_eq];omega)
theorem wJ(m:Int)(xs:List Int)(h:aA w v 1 (xs.map bY)):Fn Tryz.prog 295 [.int .i64 m,v].toArray w [] (fun u _=>u=.bool (xs.all fun x=>PtD.dD x 0 m)):=by
 refine enter Tryz.func295 ?_;refine run ?_;intro B;refine run ?_;refine az (fun wc hG=>qA (us:=[.pointer (some ⟨B,0,none⟩)]) (fun x=>!PtD.dD x 0 m) xs _ (h.good hG) (fun x _ w' ha=>TQ m x B w' ?_)) ?_
 ·obtain⟨hp,hg⟩:=ha;exact hg.cell bG1 bB5
 refine run ?_;refine fin1 ?_;rw[←bQ1,bQ']
theorem ae1(level:Nat)(h0:1≤level)(h:level<4)(page:Nat)(hp:page≤4095)(w:World):Fn Tryz.prog 296 [.int .i64 (page:Int),.int .i64 (level:Int)].toArray w [] (fun u _=>u=.int .i64 (xI (level-1) page:Int)):=by
 refine enter Tryz.func296 ?_;refine run ?_;have h9:=fH (show level-1<4 by omega);have hc:=LQ (level-1) bB3 page bB3;have e3:∀ l:Nat,l<4→1≤l→(1 <<< (3*(4-l)):Nat)=au (l-1):=by decide
 refine jI bB8 (D9 rfl rfl 1 (3*(4-level)) bB8 bB3 bB3 (by rw[e3 level h h0];exact bO1 h9.2.1 bB4)) ?_;rw[e3 level h h0];refine run ?_;refine jI bB8 (GZ rfl rfl) ?_;rw[hc];refine run ?_;exact fin1 rfl
theorem ae2(e:fF)(w:World):Fn Tryz.prog 215 [.agg (iy e).toArray].toArray w [] (fun u _=>u=.bool e.may):=by
 have e1:jd false false=true:=rfl;refine enter Tryz.func215 ?_;refine run ?_;intro B Z;refine az (fun wc hG=>wJ 15 [e.aN,e.qU] (iI (xs:=[bY e.aN,bY e.qU]) (hG.here ⟨Z,#[.int .i64 e.aN,.int .i64 e.qU],3⟩ mh) (by simp[bY]) bB5)) ?_;refine aC ?_
 cases hq:([e.aN,e.qU].all fun x=>PtD.dD x 0 15) with
 | false=>
  simp only[bW5,bX3,bM'] at hq;refine Vh (v:=.slice none 0 0) (hy:=fun hg=>by cases hg) (h:=?_);refine aC ?_;refine ah _ rfl (fun hc=>?_) (fun hc=>by cases hc);refine run ?_;refine fin1 ?_;unfold fF.may fF.nums
  rw[hq];simp
 | true=>
  simp only[bW5,bX3,bM'] at hq;simp only[bK1,e1,bI];refine Xm ?_ rfl;refine aC ?_;intro Z2;refine bG (fun hg wc hG=>wJ 4095 [e.page,e.frame,e.mid] (iI (xs:=[bY e.page,bY e.frame,bY e.mid]) (hG.here ⟨Z2,#[.int .i64 e.page,.int .i64 e.frame,.int .i64 e.mid],3⟩ mh) (by simp[bY]) bB5)) ?_;refine aC ?_
  have hnn:(false||!([e.page,e.frame,e.mid].all fun x=>PtD.dD x 0 4095)||!decide (e.soft=0))=!e.nums:=by
   unfold fF.nums;rw[hq];simp[bP3,Bool.or_assoc]
  rw[hnn];refine ah _ rfl (fun hn=>?_) (fun hn=>?_)
  ·refine run ?_;refine fin1 ?_;have hn':e.nums=false:=by simpa using hn
   simp[fF.may,hn']
  have hn':e.nums=true:=by simpa using hn
  clear hnn;have hb:=hn';simp only[fF.nums,bH6,decide_eq_true_eq] at hb;have hpz:=nJ hb.1.1.1.2;refine run ?_;refine ah _ rfl (fun hk=>?_) (fun hk=>?_)
  ·refine run ?_;refine fin1 ?_;simp[fF.may,hn',hk]
  refine run ?_;refine ah _ rfl (fun hk2=>?_) (fun hk2=>?_)
  ·refine aC ?_;refine fin1 ?_;simp[fF.may,hn',hk,hk2]
  refine run ?_;refine ah _ rfl (fun hk3=>?_) (fun hk3=>?_)
  ·refine aC ?_;refine gU 36 ?_;refine bg ?_
   refine eX (b:=decide (1≤e.level)&&decide (e.level<4)) (want:=true) (v:=.int .i64 (xI (e.level.toNat-1) e.page.toNat:Int)) (fun hg wc hG=>by
    simp[jd] at hg;have h5:=ae1 e.level.toNat bB3 bB3 e.page.toNat hpz.2 wc;rw[hpz.1,show ((e.level.toNat:Nat):Int)=e.level by omega] at h5
    exact h5) ?_
   refine bg ?_;refine run ?_;refine fin1 ?_
   have hz:decide (e.page=((xI (e.level.toNat-1) e.page.toNat:Nat):Int))=decide (xI (e.level.toNat-1) e.page.toNat=e.page.toNat):=by
    rw[bI2,decide_eq_true_eq,decide_eq_true_eq];have:=hpz.1;omega
   have hl4:decide (e.level<4)=decide (e.level≤3):=by rw[bI2,decide_eq_true_eq,decide_eq_true_eq];omega
   rw[hz,hl4];simp only[fF.may,hn',hk3,show decide (e.kind=1)=false by simpa using hk,show decide (e.kind=2)=false by simpa using hk2,cond_false,cond_true,bI6,PtD.dD,fF.bare,aW,iF];cases e.r<;>cases e.w<;>cases e.x<;>cases e.af<;>cases e.ng<;>simp
  ·refine run ?_;refine fin1 ?_;simp[fF.may,hn',hk,hk2,hk3]
theorem aL'(i:jy)(w:World):Fn Tryz.prog 219 [.agg (lg i).toArray].toArray w [] (fun u _=>u=.bool i.may):=by
 have e1:jd true true=true:=rfl;refine enter Tryz.func219 ?_;refine run ?_;intro B;refine aC ?_
 cases hq:(decide (1≤i.kind)&&decide (i.kind≤6)) with
 | false=>
  refine Vh (v:=.slice none 0 0) (hy:=fun hg=>by cases hg) (h:=?_);refine aC ?_;refine fin1 ?_
  simp only[jy.may,PtD.dD,hq,bR7]
 | true=>
  simp only[e1,bI];refine Xm ?_ rfl;refine aC ?_;intro Z;refine bG (fun hg wc hG=>wJ 15 [i.aN,i.qU] (iI (xs:=[bY i.aN,bY i.qU]) (hG.here ⟨Z,#[.int .i64 i.aN,.int .i64 i.qU],3⟩ mh) (by simp[bY]) bB5)) ?_;refine aC ?_;simp only[bI6];refine aC ?_
  cases hq2:([i.aN,i.qU].all fun x=>PtD.dD x 0 15) with
  | false=>
   refine Vh (v:=.slice none 0 0) (hy:=fun hg=>by cases hg) (h:=?_);refine aC ?_;refine fin1 ?_;simp only[bW5,bX3,bM'] at hq2;unfold jy.may;rw[bP3 (PtD.dD i.kind 1 6),hq2]
   simp
  | true=>
   simp only[e1,bI];refine Xm ?_ rfl;refine aC ?_;intro Z2;refine bG (fun hg wc hG=>wJ 4095 [i.page] (iI (xs:=[bY i.page]) (hG.here ⟨Z2,#[.int .i64 i.page],3⟩ mh) (by simp[bY]) bB5)) ?_;refine aC ?_;refine fin1 ?_;simp only[bW5,bX3,bM'] at hq2;unfold jy.may;rw[bP3 (PtD.dD i.kind 1 6),show PtD.dD i.kind 1 6=true from hq,hq2];simp
theorem XM(i:jy)(w:World):Fn Tryz.prog 218 ([]++[Value.agg (lg i).toArray]++[]).toArray w [] (fun u _=>u=.bool (!i.may)):=by
 refine enter Tryz.func218 ?_;refine run ?_;intro B;refine az (fun wc hG=>aL' i wc) ?_;refine run ?_;exact fin1 rfl
theorem zg(es:List fF)(ds:List jy)(v u:Value)(h:aA w v 14 (es.map iy))(hd:aA w u 4 (ds.map lg))(hcap:∃ q c,v=.slice q es.length c∧es.length≤c):
  Fn Tryz.prog 136 [.agg #[v,u]].toArray w [] (fun r _=>r=.int .i64 (bif dQ es ds then 0 else 1)):=by
 obtain⟨q,cap,rfl,hne,hle⟩:=h.opened;obtain⟨q2,cap2,rfl,hne2,hle2⟩:=hd.opened
 replace hcap:es.length≤cap:=by
  obtain⟨_,_,e,hc⟩:=hcap;injection e with _ _ e
  rw[e];exact hc
 refine enter Tryz.func136 ?_;refine run ?_;intro B;refine aC ?_;refine ah _ rfl (fun hc=>?_) (fun hc=>?_)
 ·refine run ?_;refine fin1 ?_
  have:dQ es ds=false:=by
   unfold dQ;simp only[bJ7,decide_eq_true_eq] at hc
   have h2:(decide (es.length≤8)&&decide (ds.length≤8))=false:=by
    rcases hc with hc | hc
    ·rw[decide_eq_false (p:=es.length≤8) bB3,bR7]
    ·rw[decide_eq_false (p:=ds.length≤8) bB3,bU8]
   rw[bP3,h2,bU8]
  rw[this];rfl
 have h8:es.length≤8∧ds.length≤8:=by
  simp at hc;omega
 refine run ?_;refine aK (σ:=Nat) (fun k=>[(18,.int .i64 (k:Int))]) (fun _=>[⟨B,#[.slice q es.length cap,.slice q2 ds.length cap2],72⟩]) (fun k=>k≤es.length∧∀ j,j<k→Aw es j=true) (fun k=>es.length-k) 0 ⟨bI1 _,fun j hj=>absurd hj bB3⟩ ?_;rintro k m rfl ⟨hk,hno⟩;refine run ?_;refine ah _ rfl (fun hc=>?_) (fun hc=>?_)
 ·have hlt:k<es.length:=by simpa using hc
  obtain⟨b,o,rfl⟩:=hne bB7;have hr:=h.row hlt;refine run ?_;intro X;refine run ?_;refine dA ?_;refine dI ?_;refine fB (fun wc hG=>ae2 (es.getD k default) wc) ?_;refine bg ?_;refine SS (v:=.slice (some ⟨b,o,none⟩) k cap) (hy:=fun hg=>pX aB bC6 bC6 bB8 bB3 bB3 (m':=k) bB5 (.inr ⟨_,_,rfl⟩)) (h:=?_);refine bg ?_;refine eX (fun hg wc hG=>Jj (es.getD k default) (es.take k) _ ((h.good hG).takeN bB3)) ?_;refine bg ?_;refine run ?_
  have he:(!(es.getD k default).may||(es.take k).any fun t=>decide (t=es.getD k default))=!Aw es k:=by
   unfold Aw;rw[bW3,bQ']
  rw[he];refine ah _ rfl (fun hp=>?_) (fun hp=>?_)
  ·refine run ?_;refine fin1 ?_;rw[QY hlt bE8];rfl
  ·refine run ?_;refine aF (k+1) ⟨hlt,fun j hj=>?_⟩;rcases bJ0.1 hj with hj | rfl
   ·exact hno j hj
   ·simpa using hp
 ·have hge:k=es.length:=by simp at hc;omega
  subst hge;refine run ?_;refine az (fun wc hG=>qW (us:=[]) (fun x=>!x.may) ds _ (hd.good hG) (fun x _ w' ha=>XM x w')) ?_;refine run ?_;have he:(ds.any fun x=>!x.may)=!ds.all jy.may:=by rw[bQ1]
  rw[he];refine ah _ rfl (fun hp=>?_) (fun hp=>?_)
  ·refine run ?_;refine fin1 ?_
   have:dQ es ds=false:=by
    unfold dQ;rw[show ds.all jy.may=false by simpa using hp];simp
   rw[this];rfl
  ·refine run ?_;refine fin1 ?_
   have:dQ es ds=true:=by
    unfold dQ;rw[Lm hno,show ds.all jy.may=true by simpa using hp,decide_eq_true h8.1,decide_eq_true h8.2];rfl
   rw[this];rfl
end
def fF.stage(e:fF):Bool:=decide (e.kind=1)||decide (e.kind=3)
def jy.at_(i:jy)(e:fF):Bool:=decide (e.page=bif decide (e.kind=3) then ((xI (e.level.toNat-1) i.page.toNat:Nat):Int) else i.page)
def jy.takes(i:jy)(e:fF):Bool:=
 bif decide (i.kind=1) then true else bif !decide (i.aN=e.aN) then false
 else bif decide (i.kind=2) then true
 else bif decide (i.kind=3) then e.stage
 else bif decide (i.kind=4) then e.stage&&!e.all&&decide (e.qU=i.qU)
 else bif decide (i.kind=5) then e.stage&&i.at_ e&&(e.all||decide (e.qU=i.qU))
 else decide (e.kind=2)&&i.at_ e
theorem TR(i:jy):dQ [] [i]=i.may:=by simp[dQ]
theorem tC{xs:List fF}:∀ c∈xs.map iy,c.length=14∧c.all (·.oneCell')=true:=by
 intro c hc;obtain⟨x,_,rfl⟩:=bI7.1 hc;exact⟨rfl,rfl⟩
theorem AO{xs:List jy}:∀ c∈xs.map lg,c.length=4∧c.all (·.oneCell')=true:=by
 intro c hc;obtain⟨x,_,rfl⟩:=bI7.1 hc;exact⟨rfl,rfl⟩
section
attribute [local irreducible] Hy St Ops DH dH jg iP gQ DS gX
theorem az1(i:jy)(w:World):Fn Tryz.prog 309 ([]++[Value.agg (lg i).toArray]++[]).toArray w [] (fun u _=>u=.bool (!i.may)):=by
 refine enter Tryz.func309 ?_;refine run ?_;intro B Z;refine run ?_;refine az (fun wc hG=>zg [] [i] (.slice none 0 0) (.slice (some ⟨Z,0,none⟩) 1 1) ((Own.nil 80 14).lie (fun b hb=>by cases hb) bB4) (iI (xs:=[lg i]) (hG.here ⟨Z,(lg i).toArray,127⟩ mh) bB5 bB5) ⟨_,_,rfl,bI9 _⟩) ?_;refine run ?_;refine fin1 ?_;rw[TR];cases i.may<;>rfl
theorem az2(ds:List jy)(h:aA w v 4 (ds.map lg)):Fn Tryz.prog 253 [v].toArray w [] (fun u _=>u=.bool (ds.all jy.may)):=by
 refine enter Tryz.func253 ?_;refine run ?_;refine az (fun wc hG=>qW (us:=[]) (fun x=>!x.may) ds _ (h.good hG) (fun x _ w' ha=>az1 x w')) ?_;refine run ?_;refine fin1 ?_;rw[←bQ1,bQ']
theorem Jk(e:fF)(w:World):Fn Tryz.prog 310 [.agg (iy e).toArray].toArray w [] (fun u _=>u=.bool e.stage):=by
 refine enter Tryz.func310 ?_;refine run ?_;intro B;refine aC ?_;refine fin1 ?_;rfl
theorem Q8(i:jy)(e:fF)(hi:i.may=true)(he:e.may=true)(w:World):Fn Tryz.prog 311 [.agg (lg i).toArray,.agg (iy e).toArray].toArray w [] (fun u _=>u=.bool (i.at_ e)):=by
 refine enter Tryz.func311 ?_;refine run ?_;intro B C;refine run ?_;refine ah _ rfl (fun hk=>?_) (fun hk=>?_)
 ·have hk3:e.kind=3:=by simpa using hk
  have hl:1≤e.level∧e.level≤3:=by
   simp[fF.may,hk3,PtD.dD] at he;exact he.2.1.1.1
  have hp:0≤i.page∧i.page≤4095:=by
   simp only[jy.may,PtD.dD,bH6,decide_eq_true_eq] at hi;exact hi.2
  obtain⟨lv,hlv⟩:∃ lv:Nat,e.level=(lv:Int):=⟨e.level.toNat,by omega⟩
  obtain⟨pg,qH⟩:∃ pg:Nat,i.page=(pg:Int):=⟨i.page.toNat,by omega⟩
  have h9:=fH (show lv-1<4 by omega);have hc:=LQ (lv-1) bB3 pg bB3;have e3:∀ l:Nat,l<4→1≤l→(1 <<< (3*(4-l)):Nat)=au (l-1):=by decide
  refine run ?_;rw[hlv,qH];refine jI bB8 (D9 rfl rfl 1 (3*(4-lv)) bB8 bB3 bB3 (by rw[e3 lv bB3 bB3];exact bO1 h9.2.1 bB4)) ?_;rw[e3 lv bB3 bB3];refine run ?_;refine jI bB8 (GZ rfl rfl) ?_;rw[hc];refine run ?_;refine fin1 ?_;simp[jy.at_,hk3,hlv,qH]
 ·refine run ?_;refine fin1 ?_;have hk3:decide (e.kind=3)=false:=by simpa using hk
  simp[jy.at_,hk3]
theorem ae3(i:jy)(e:fF)(hi:i.may=true)(he:e.may=true)(w:World):Fn Tryz.prog 257 [.agg (lg i).toArray,.agg (iy e).toArray].toArray w [] (fun u _=>u=.bool (i.takes e)):=by
 refine enter Tryz.func257 ?_;refine run ?_;intro B C;refine run ?_;refine ah _ rfl (fun h1=>?_) (fun h1=>?_)
 ·refine run ?_;refine fin1 ?_;simp[jy.takes,h1]
 refine run ?_;refine ah _ rfl (fun hv=>?_) (fun hv=>?_)
 ·refine run ?_;refine fin1 ?_;simp[jy.takes,h1,hv]
 have hv':decide (i.aN=e.aN)=true:=by simpa using hv
 have h1':decide (i.kind=1)=false:=by simpa using h1
 refine run ?_;refine ah _ rfl (fun h2=>?_) (fun h2=>?_)
 ·refine run ?_;refine fin1 ?_;simp[jy.takes,h1',hv',h2]
 have h2':decide (i.kind=2)=false:=by simpa using h2
 refine run ?_;refine ah _ rfl (fun h3=>?_) (fun h3=>?_)
 ·refine run ?_;refine az (fun wc hG=>Jk e wc) ?_;refine run ?_;refine fin1 ?_;simp[jy.takes,h1',hv',h2',h3]
 have h3':decide (i.kind=3)=false:=by simpa using h3
 refine run ?_;refine ah _ rfl (fun h4=>?_) (fun h4=>?_)
 ·refine run ?_;refine az (fun wc hG=>Jk e wc) ?_;refine aC ?_;refine fin1 ?_;simp[jy.takes,h1',hv',h2',h3',h4]
 have h4':decide (i.kind=4)=false:=by simpa using h4
 refine run ?_;refine ah _ rfl (fun h5=>?_) (fun h5=>?_)
 ·refine run ?_;refine az (fun wc hG=>Jk e wc) ?_;refine aC ?_;refine bG (fun _ wc hG=>Q8 i e hi he wc) ?_;refine aC ?_;refine fin1 ?_;simp[jy.takes,h1',hv',h2',h3',h4',h5]
 have h5':decide (i.kind=5)=false:=by simpa using h5
 refine aC ?_;refine bG (fun _ wc hG=>Q8 i e hi he wc) ?_;refine aC ?_;refine fin1 ?_;simp[jy.takes,h1',hv',h2',h3',h4',h5']
theorem G5(es:List fF)(ds:List jy)(v u:Value)(h:aA w v 14 (es.map iy))(hd:aA w u 4 (ds.map lg))(hl:es.length<1000000)(hl2:ds.length<1000000):
  Fn Tryz.prog 73 [.agg #[v,u]].toArray w [] (fun r hn=>∃ v1 h1 v2 h2,r=.agg #[v1,v2]∧Own 80 14 v1 h1 (es.map iy)∧Own 127 4 v2 h2 (ds.map lg)∧aI (h1++h2) hn):=by
 refine enter Tryz.func73 ?_;refine run ?_;intro B;refine run ?_;intro C;refine run ?_;refine Ee 8 7 [0,1,3,4] [2,5] [6,7] [⟨B,#[v,u],72⟩] ?_;refine kU ?_;refine jZ (fun wc hG=>vC v (es.map iy) (h.good hG) tC (by simpa using hl)) (vC v (es.map iy) h tC (by simpa using hl)).some ?_;refine jZ (fun wc hG=>xe u (ds.map lg) (hd.good hG) AO (by simpa using hl2)) (xe u (ds.map lg) hd AO (by simpa using hl2)).some ?_;refine kL ?_;intro v2 hn2 hO2 v1 hn1 Dh;simp only[DN,bI0,bI3,bI'];obtain⟨p1,c1,rfl⟩:=Dh.opened;obtain⟨p2,c2,rfl⟩:=hO2.opened;rw[bH7] at Dh hO2 ⊢;rw[bH7];refine IW ?_;refine WV (b:=C) (cs:=#[.slice none 0 0,.slice none 0 0]) (tb:=72) (hp':=hn2++hn1++[⟨B,#[v,u],72⟩]) (hperm:=(bS6 (l₁:=hn2++hn1)).symm) ?_;refine di ?_;refine kV ?_;refine run ?_;refine dR (cs:=#[.slice p1 es.length c1,.slice p2 ds.length c2]) ?_;exact⟨_,hn1,_,hn2,rfl,Dh,hO2,by (exact ak)⟩
end
section
section
variable {P : Program} {T : Tab} {n : Nat} {w0 : World} {mu : List Nat} {l : Fm} {hp : Hp} {dd : Option Tmp} {ty : TypeId} {pos : String} {af : Array Edge} {gg : Option (Nat × Bool)} {Q : Exit → Fm → Hp → Prop} {all : Array Oper} {rest : List Oper}
theorem XN(ok:bC P T){t e sz o m c:Nat}{cs:Array Value}{tb:TypeId}{x:Operand}{z:Value}{hp':Hp}(hx:ev l x=some (.slice (some ⟨b,o,none⟩) m c))(ht:lk T.sl t=some (e,sz))(hz:lk T.zs e=some z)(hzs:z.cells.size=sz)(hz1:z.cells.toList.all (·.oneCell')=true)(h0:0<sz)(hm:0<m)
  (hperm:(⟨b,cs,tb⟩::hp').Perm hp) (hfit:o+m*sz≤cs.size)
  (h:∀ zs:List Value,zs.length=m*sz→Ops P n w0 mu all rest l (⟨b,putAt cs o zs,tb⟩::hp') Q):Ops P n w0 mu all (⟨none,.call { callee:=.builtin .clear,args:=#[x],argTypes:=#[t] },ty,pos,af,none⟩::rest) l hp Q:=by
 intro ac w hk hG;obtain⟨hu,hsz⟩:=ok.zJ ht;have hG':=hG.perm hperm;have hb:=hG'.here _ (bI8 ..);obtain⟨zs,hrep⟩:∃ zs,zs=(Builtin.zeroCells z.cells m).toList:=⟨_,rfl⟩
 have hlen:zs.length=m*sz:=by rw[hrep,bU6,size_zeroCells,hzs,bQ4]
 have hall:∀ u∈zs,u.oneCell'=true:=fun u hu=>by
  rw[hrep] at hu;simp only[Builtin.zeroCells,Array.mem_toList_iff,Array.mem_map,Array.mem_range] at hu;obtain⟨i,hi,rfl⟩:=hu;have hlt:i%z.cells.size<z.cells.size:=bV8 _ bB3;have h2:=(bH'.1 hz1) (z.cells[i%z.cells.size]) bB5;simpa [hlt] using h2
 have hst:=run_storeCells_cells (P:=P) b o zs 0 w
  (fun j hj=>by rw[hlen] at hj;rw[cell_of_block hb];simp[show o+j<cs.size by omega])
  (fun j _=>fQ hb) hall
 simp only[bL4] at hst;refine wpList_plain rfl fun K hK=>?_;unfold Oper.wp execOp
 have hr:(Builtin.clear_ #[t] ty #[.slice (some ⟨b,o,none⟩) m c]).run P w=.ok (.tuple #[]) (w.setCells b o zs):=by
  obtain⟨m',rfl⟩:∃ m',m=m'+1:=⟨m-1,by omega⟩
  simp[Builtin.clear_,run_underlying hu,pK (ok.NH hz) w,←hrep,hst]
 simp only[resolve,invoke,builtin,Sem.run_bind,Sem.run_pure,Result.andThen_ok,bP5,bL9,bO9,hk.ev hx,hr];exact hK _ _ (h zs hlen _ _ hk (Good.sets (w:=w) _ cs o w hG'))
end
theorem Row.ae4{g cap sz:Nat}{cur:Array Value}{xs:List (List Value)}(h:Row g cap cur sz n xs.flatten)(hall:∀ c∈xs,c.length=sz)(hi:i≤n)(hn:xs.length=n){zs:List Value}(hz:i*sz+zs.length≤cur.size):Row g cap (putAt cur (i*sz) zs) sz i (xs.take i).flatten:=by
 have hle:i*sz≤n*sz:=bK8 _ hi;refine⟨by rw[dU (xs.take i) (fun c hc=>hall c (bX6 hc)),bK',bP7 bB3],bP8 hi h.le,h.max,by rw[fO];exact h.size,?_⟩
 have hl:(cur.toList.take (i*sz)).length=i*sz:=by
  rw[bK',bP7];simp;omega
 rw[nG _ _ _ hz,bK7,bV1 hl];have h1:=congrArg (List.take (i*sz)) h.take;rw[bX0,bP7 hle] at h1;rw[h1]
 conv=>lhs;rw[←bZ0 i xs]
 rw[bU7,bV1];rw[dU (xs.take i) (fun c hc=>hall c (bX6 hc)),bK',bP7 bB3]
attribute [local irreducible] Hy St Ops DH dH jg iP gQ DS gX
theorem FN{cs:List Value}{t:TypeId}(h:w.heap[b]?=some (.cells cs.toArray t (0,0))):w.rangeAt b 0 cs:=by
 intro j u hu;rw[cell_of_block h];simpa using hu
theorem TS(i:jy)(e:fF)(hi:i.may=true)(he:e.may=true)(E:Nat)(w:World)(hE:w.rangeAt E 0 (iy e)):Fn Tryz.prog 256 ([]++[Value.agg (lg i).toArray]++[Value.pointer (some ⟨E,0,none⟩)]).toArray w [] (fun u _=>u=.bool (i.takes e)):=by
 refine enter Tryz.func256 ?_;refine run ?_;intro B;refine az (fun wc hG=>ae3 i e hi he wc) ?_;refine run ?_;exact fin1 rfl
theorem XO(ds:List jy)(hds:∀ i∈ds,i.may=true)(e:fF)(he:e.may=true)(L:Nat){lv:Value}(hL:w.cell? ⟨L,0,none⟩=some lv)(hl:aA w lv 4 (ds.map lg)):Fn Tryz.prog 255 ([]++[Value.agg (iy e).toArray]++[Value.pointer (some ⟨L,0,none⟩)]).toArray w [] (fun u _=>u=.bool (ds.any fun i=>i.takes e)):=by
 obtain⟨q,cap,rfl,_,_⟩:=hl.opened;refine enter Tryz.func255 ?_;refine run ?_;intro E;refine az (fun wc hG=>qW (us:=[.pointer (some ⟨E,0,none⟩)]) (fun i=>i.takes e) ds _ (hl.good hG) (fun x hx w' ha=>TS x e (hds x hx) he E w' ?_)) ?_
 ·obtain⟨hp,hg⟩:=ha;intro j u hu;refine hg.cell (FN (cs:=iy e) (hG.here _ mh) j u hu) bB5
 refine run ?_;exact fin1 rfl
def BH(p:fF→Bool)(es:List fF):List fF:=es.filter fun x=>!p x
theorem keep_next(p:fF→Bool)(es:List fF){j:Nat}(hj:j<es.length):BH p (es.take (j+1))=BH p (es.take j)++bif p (es.getD j default) then [] else [es.getD j default]:=by
 rw[dW hj];unfold BH;rw[bW6];cases h:p (es.getD j default)<;>simp only[bW2,List.filter_nil,h,bL1,bK1,if_true,cond_true,cond_false,bO6,if_false]
theorem ae5{g cap:Nat}{cur:Array Value}{ys:List fF}(h:Row g cap cur 14 n (ys.map iy).flatten)(hi:i<ys.length)(e:fF):Row g cap (putAt cur (i*14) (iy e)) 14 n ((ys.set i e).map iy).flatten:=by
 have hput:=h.put (fun c hc=>(tC c hc).1) (i:=i) (k:=0) (c:=iy (ys.getD i default)) (vs:=iy e) (by rw[bJ',bH9 hi,bH8,bH9 hi];rfl) (bI9 14);rw[show (iy (ys.getD i default)).take 0++iy e++(iy (ys.getD i default)).drop (0+(iy e).length)=iy e from rfl,←bN8,bL4] at hput;exact hput
theorem TT(p:fF→Bool)(es:List fF)(hk:k≤es.length)(h:∀ j,j<k→p (es.getD j default)=false):BH p (es.take k)=es.take k:=by
 refine bP'.2 fun x hx=>?_;obtain⟨j,hj,rfl⟩:=bQ7.1 hx;have:=h j bB3;rw[bH8,bH9 bB3,bP1] at this;simp[this]
structure DlS where
 i:Nat
 j:Nat
 cur:Array Value
 ys:List fF
theorem O8{w:World}{F:Nat}{us:List Value}(p:fF→Bool)(es:List fF){ha:Hp}(hA:Own 80 14 v ha (es.map iy))(hN:dY ha w)(hl:es.length<100000)(hF:∀ x,x∈es→∀ w',(∃ hp,Good w (ha.map (·.b)) hp w')→Fn Tryz.prog F ([]++[Value.agg (iy x).toArray]++us).toArray w' [] (fun u _=>u=.bool (p x)))(bM:mem iV F=true:=by rfl):
  Fn Tryz.prog 254 [v,.func (.func F) [].toArray us.toArray].toArray w (ha.map (·.b)) (fun u hn=>Own 80 14 u hn ((BH p es).map iy)):=by
 have hA0:=hA;obtain⟨q,cap,ev⟩:=hA.opened;rw[bH7] at ev;subst ev;refine dS _ hN Tryz.func254 ?_;refine run ?_;refine az (fun wc hG=>EH p es _ (hA.lie (fun b hb=>hG.here b (by simpa using hb)) bB6) (fun x hx w' ha=>hF x hx w' ?_) bM) ?_
 ·obtain⟨hp,hg⟩:=ha;exact⟨_,hG.trans hg⟩
 refine run ?_;by_cases hex:∃ j,j<es.length∧p (es.getD j default)=true
 ·obtain⟨j1,hj1,hp1⟩:=hex;obtain⟨k0,hk0,hp0,aM0⟩:=Am p es j1 hp1;have hlt0:k0<es.length:=by omega
  rw[fG hlt0 hp0 aM0];refine ah _ rfl (fun hc=>absurd hc bB5) (fun hc=>?_);obtain⟨g,cap',cur,ev,rfl,hrow⟩:=hA0.row (n:=es.length) bB5 bB3;cases ev;refine run ?_;refine aK (σ:=DlS) (fun s=>[(5,.int .i64 (s.i:Int)),(6,.int .i64 (s.j:Int))]) (fun s=>[⟨g,s.cur,80⟩]) (fun s=>s.i<s.j∧s.j≤es.length∧s.ys.length=es.length∧s.ys.take s.i=BH p (es.take s.j)∧(∀ t,s.j≤t→t<es.length→s.ys.getD t default=es.getD t default)∧Row g cap s.cur 14 es.length (s.ys.map iy).flatten) (fun s=>es.length-s.j) ⟨k0,k0+1,cur,es⟩ ⟨by dsimp only;omega,hlt0,rfl,?_,fun _ _ _=>rfl,hrow⟩ ?_
  ·dsimp only;rw[keep_next p es hlt0,hp0,TT p es bB3 aM0];simp
  rintro⟨i,j,cur,ys⟩ m hm ⟨hij,hj,hyl,hyt,hyd,hrow⟩;dsimp only at hm hij hj hyl hyt hyd hrow ⊢;have hO:Own 80 14 (.slice (some ⟨g,0,none⟩) es.length cap) [⟨g,cur,80⟩] (ys.map iy):=⟨tC,.inr ⟨g,cap,cur,by rw[bH7,hyl],rfl,by rw[bH7,hyl];exact hrow⟩⟩
  refine run ?_;refine ah _ rfl (fun hc=>?_) (fun hc=>?_)
  ·have hlt:j<es.length:=by simp at hc;omega
   have hyj:=hyd j (bI9 _) hlt
   have hcut:(cur.toList.drop (j*14)).take 14=iy (es.getD j default):=by
    rw[←hyj];exact hrow.cut (fun c hc=>(tC c hc).1) (by rw[bJ',bH9 bB3,bH8,bH9 bB3];rfl)
   refine run ?_;intro V;refine l7 (fun wc hG=>hF (es.getD j default) (getD_mem hlt) wc ⟨_,hG⟩) (bM:=bM) ?_;refine run ?_;refine ah _ rfl (fun hp=>?_) (fun hp=>?_)
   ·have hsz:=hrow.size;have hle:=hrow.le;refine run ?_;have hpf:p (es.getD j default)=false:=by simpa using hp
    have hput:=ae5 hrow (i:=i) bB3 (es.getD j default);generalize KE:putAt cur (i*14) (iy (es.getD j default))=cur' at hput;simp only[putAt] at KE;refine aF ⟨i+1,j+1,cur',ys.set i (es.getD j default)⟩ ⟨by dsimp only;omega,hlt,by dsimp only;rw[bM1];exact hyl,?_,fun t h1 h2=>?_,hput⟩ (hm:=by dsimp only;omega) (h2:=by dsimp only;rw[KE];(exact ak))
    ·dsimp only;rw[keep_next p es hlt,hpf,←hyt]
     have hset:(ys.set i (es.getD j default)).take (i+1)=ys.take i++[es.getD j default]:=by
      rw[bV9,if_pos bB3,bX5,bK',bP7 bB3,bT1 bD8,show i+1-i=1 by omega];rfl
     rw[hset];rfl
    ·dsimp only at h1 h2 ⊢;rw[bH8,bZ7 bB3,←bH8];exact hyd t bB3 h2
   ·refine run ?_;have hpf:p (es.getD j default)=true:=by simpa using hp
    refine aF ⟨i,j+1,cur,ys⟩ ⟨by dsimp only;omega,hlt,hyl,?_,fun t h1 h2=>hyd t (by dsimp only at h1;omega) h2,hrow⟩ (hm:=by dsimp only;omega) (h2:=by (exact ak));dsimp only;rw[keep_next p es hlt,hpf,←hyt];simp
  ·have hge:j=es.length:=by simp at hc;omega
   subst hge;refine run ?_;have hle:=hrow.le;have hsz:=hrow.size;refine jI bB8 (l9 aB rfl rfl bB8 bB3 bB3 bB3 (o':=i*14) (m':=es.length-i) (c':=cap-i) bB3 bB3 bB3) ?_;refine XN aB (hp':=[]) rfl bB8 bB8 bB8 bB8 bB4 bB3 (.refl _) (by rw[hsz,Nat.sub_mul];omega) (fun zs hzs=>?_);refine run ?_;refine jI bB8 (pX aB rfl rfl bB8 bB3 bB3 (m':=i) bB5 (.inr ⟨_,_,rfl⟩)) ?_;refine run ?_;refine fin1 ?_;rw[bN4] at hyt;rw[←hyt];refine⟨tC,.inr ⟨g,cap,putAt cur (i*14) zs,by rw[bH7,bK',bP7 bB3],rfl,?_⟩⟩;rw[bH7,bK',bP7 bB3,List.map_take];exact hrow.ae4 (fun c hc=>(tC c hc).1) bB3 (by rw[bH7];exact hyl) (by rw[hzs,hsz,Nat.sub_mul];omega)
 ·have hno:∀ j,j<es.length→p (es.getD j default)=false:=fun j hj=>by
   cases hp:p (es.getD j default) with
   | false=>rfl
   | true=>exact absurd ⟨j,hj,hp⟩ hex
  rw[dV hno];refine ah _ rfl (fun hc=>?_) (fun hc=>absurd hc bB5);refine run ?_;refine fin1 ?_
  have:BH p es=es:=bP'.2 fun x hx=>by
   obtain⟨j,hj,rfl⟩:=bT0 hx;have:=hno j hj;rw[bH8,bH9 hj,bP1] at this;simp[this]
  rw[this];exact hA0
end
def mJ(es:List fF)(due:List jy):List fF:=BH (fun e=>due.any fun i=>i.takes e) es
def ApR(r:Option (List fF×List jy))(u:Value)(hn:Hp):Prop:=match r with
 | none=>u=.tuple #[.agg #[.slice none 0 0,.slice none 0 0],.int .i64 1]
 | some x=>∃ v1 h1 v2 h2,u=.tuple #[.agg #[v1,v2],.int .i64 0]∧Own 80 14 v1 h1 (x.1.map iy)∧Own 127 4 v2 h2 (x.2.map lg)∧aI (h1++h2) hn
def tJ(es:List fF)(ds due:List jy):Option (List fF×List jy):=bif dQ es ds&&due.all jy.may then some (mJ es due,ds) else none
theorem pI{es:List fF}{ds:List jy}(h:dQ es ds=true):(∀ e∈es,e.may=true)∧es.length≤8∧ds.length≤8:=by
 simp only[dQ,bH6,decide_eq_true_eq] at h;refine⟨fun e he=>?_,h.1.2,h.2⟩;obtain⟨j,hj,rfl⟩:=bT0 he;have:=bH'.1 h.1.1.1 j (bJ1.2 hj);simp only[Aw,bH6] at this;rw[bH8,bH9 hj] at this;exact this.1
theorem aA.keep{w0 wc w':World}{hp hp2 h1:Hp}{sz:Nat}{xs:List (List Value)}(h:aA w0 v sz xs)(hG:Good w0 [] (h1++hp) wc)(hg:Good wc (h1.map (·.b)) hp2 w'):aA w' v sz xs:=by
 obtain⟨⟨p,c,rfl,hp⟩,hl⟩:=h;refine⟨⟨p,c,rfl,fun hne=>?_⟩,hl⟩;obtain⟨b,off,rfl,hr⟩:=hp hne;refine⟨b,off,rfl,fun i c hc=>?_⟩;intro j u hj;have h3:=hr i c hc j u hj;refine hg.cell (hG.cell h3 bB5) fun hm=>?_;obtain⟨e,he,hb⟩:=bI7.1 hm;have h4:b<w0.heap.size:=block_lt_of_cell h3;rcases hG.own e (bJ2 _ he) with h5 | h5
 ·simp at h5
 ·rw[hb] at h5;omega
theorem O9{w0:World}{mu:List Nat}{h1 hp:Hp}{e:mO}(hG:Good w0 mu (h1++hp) w)(he:e∈hp):e.b∉h1.map (·.b):=by
 have hn:=hG.nodup;rw[bJ4,bM3] at hn;exact fun hm=>hn.2.2 _ hm _ (bI7.2 ⟨e,he,rfl⟩) rfl
section
attribute [local irreducible] Hy St Ops DH dH jg iP gQ DS gX
theorem XP(es:List fF)(ds due:List jy)(v u lv:Value)(h:aA w v 14 (es.map iy))(hd:aA w u 4 (ds.map lg))(hcap:∃ q c,v=.slice q es.length c∧es.length≤c)(hl:aA w lv 4 (due.map lg)):
  Fn Tryz.prog 169 [.agg #[v,u],lv].toArray w [] (fun r hn=>ApR (tJ es ds due) r hn):=by
 have h':=h;have hd':=hd;have hl':=hl;obtain⟨q,cap,rfl,_,_⟩:=h.opened;obtain⟨q2,cap2,rfl,_,_⟩:=hd.opened;obtain⟨q3,cap3,rfl,jG,_⟩:=hl.opened;refine enter Tryz.func169 ?_;refine run ?_;intro B C R;refine az (fun wc hG=>zg es ds _ _ (h'.good hG) (hd'.good hG) hcap) ?_
 cases ht:dQ es ds with
 | false=>
  refine aP ?_;have hg:tJ es ds due=none:=by simp[tJ,ht]
  rw[hg];refine fZ (cs:=#[.slice none 0 0,.slice none 0 0]) ?_
  rfl
 | true=>
 obtain⟨hmay,h8,h8d⟩:=pI ht;refine aP ?_;refine bG (fun _ wc hG=>az2 due (hl'.good hG)) ?_;refine aP ?_
 cases hm:due.all jy.may with
 | false=>
  refine aP ?_;have hg:tJ es ds due=none:=by simp[tJ,ht,hm]
  rw[hg];refine fZ (cs:=#[.slice none 0 0,.slice none 0 0]) ?_
  rfl
 | true=>
 have hg:tJ es ds due=some (mJ es due,ds):=by simp only[tJ,ht,hm];rfl
 rw[hg];refine aP ?_;refine bH (fun wc hG=>G5 es ds _ _ (h'.good hG) (hd'.good hG) bB3 bB3) ?_;rintro _ hn ⟨v1,h1,v2,h2,rfl,Dh,hO2,hle⟩;obtain⟨p1,c1,e1⟩:=Dh.opened;obtain⟨p2,c2,e2⟩:=hO2.opened;rw[bH7] at e1 e2;subst e1 e2;refine ig hle ?_;refine cZ (_++(h1++h2)) bJ5 ?_;simp only[bI0,bI3];refine aP ?_;intro X;refine aP ?_;have aX3:∀ i∈due,i.may=true:=fun i hi=>bH'.1 hm i hi;refine iR (R:=fun u hn=>Own 80 14 u hn ((mJ es due).map iy)) h1 (⟨X,#[.slice p1 es.length c1,.slice p2 ds.length c2],72⟩::⟨R,#[.slice none 0 0,.slice none 0 0],72⟩::⟨C,#[.slice q3 due.length cap3],70⟩::⟨B,#[.slice q es.length cap,.slice q2 ds.length cap2],72⟩::h2) (fun wc hG=>?_) (fun v4 h4 hO4=>?_) aU
 ·refine O8 (us:=[.pointer (some ⟨C,0,none⟩)]) (fun e=>due.any fun i=>i.takes e) es Dh hG.iG bB3 (fun x hx w' ha=>?_);obtain⟨hp,hg⟩:=ha;have hC:(⟨C,#[.slice q3 due.length cap3],70⟩:mO)∈(⟨X,#[.slice p1 es.length c1,.slice p2 ds.length c2],72⟩::⟨R,#[.slice none 0 0,.slice none 0 0],72⟩::⟨C,#[.slice q3 due.length cap3],70⟩::⟨B,#[.slice q es.length cap,.slice q2 ds.length cap2],72⟩::h2:Hp):=by simp
  exact XO due aX3 x (hmay x hx) C (hg.cell (by rw[cell_of_block (hG.here _ (bI4 _ hC))];rfl) (O9 hG hC)) (hl'.keep hG hg)
 generalize mJ es due=al at hO4;obtain⟨p4,c4,e4⟩:=hO4.opened;rw[bH7] at e4;subst e4;refine cZ (_++h4) bJ5 ?_;simp only[bI0,bI3];refine aP ?_;refine yh aB (b:=R) (off:=0) (cs:=#[.slice none 0 0,.slice none 0 0]) (cs':=#[.slice p4 al.length c4,.slice p2 ds.length c2]) (tb:=72) (vs:=[.slice p4 al.length c4,.slice p2 ds.length c2]) (sz:=2) rfl rfl rfl rfl rfl (List.Perm.swap ..) rfl (bI9 2) rfl ?_;refine aP ?_;refine fZ (cs:=#[.slice p4 al.length c4,.slice p2 ds.length c2]) ?_;exact⟨_,h4,_,h2,rfl,hO4,hO2,by (exact ak)⟩
end
def tK(aN mid:Int):List jy:=[⟨6,aN,0,mid⟩,⟨3,aN,0,0⟩]
structure FgS where
 k:Nat
 v:Value
 ha:Hp
 hs:Hp
 ts:List uo
section
attribute [local irreducible] Hy St Ops DH dH jg iP gQ DS gX lJ
abbrev uo.p(t:uo):List fF×List jy:=(t.es,t.ds)
theorem Own.oq{α:Type}[Inhabited α]{f:α→List Value}{e sz:Nat}{h:Hp}{xs:List α}(hA:Own e sz v h (xs.map f))(hk:k<xs.length):∃ g cap cur,v=.slice (some ⟨g,0,none⟩) xs.length cap∧h=[⟨g,cur,e⟩]∧k*sz+sz≤cur.size ∧
  (∀ (j:Nat) (c:Value),(f (xs.getD k default))[j]?=some c→nth cur.toList (k*sz+j)=some c) ∧
  ∀ (j:Nat) (vs:List Value) (y:α),j+vs.length≤sz→(f (xs.getD k default)).take j++vs++(f (xs.getD k default)).drop (j+vs.length)=f y→(f y).length=sz∧(f y).all (·.oneCell')=true→Own e sz (.slice (some ⟨g,0,none⟩) xs.length cap) [⟨g,putAt cur (k*sz+j) vs,e⟩] ((xs.set k y).map f):=by
 obtain⟨g,cap,cur,rfl,rfl,hr⟩:=hA.row (n:=xs.length) bB5 bB3;have hall:∀ c∈xs.map f,c.length=sz:=fun c hc=>(hA.1 c hc).1
 have hi:(xs.map f)[k]?=some (f (xs.getD k default)):=by
  rw[bJ',bH8,bH9 hk];rfl
 have hsz:=hr.size;have hle:=hr.le;refine⟨g,cap,cur,rfl,rfl,?_,fun j c hj=>hr.nth hall hi hj,fun j vs y hj he hy=>⟨fun c hc=>?_,.inr ⟨g,cap,_,by simp,rfl,?_⟩⟩⟩
 ·have h1:k*sz+sz≤xs.length*sz:=by rw[←bN6];exact bK8 _ hk
  have h2:xs.length*sz≤cap*sz:=bK8 _ hle;omega
 ·obtain⟨x,hx,rfl⟩:=bI7.1 hc;rcases bS3 hx with hx | rfl
  ·exact hA.1 _ (bI7.2 ⟨x,hx,rfl⟩)
  ·exact hy
 ·have h2:=hr.put hall hi (k:=j) (vs:=vs) hj;rw[he] at h2;have e2:((xs.set k y).map f).length=xs.length:=by simp
  rw[e2,bN8];exact h2
theorem Di{a b c:Hp}(h1:aI a b)(h2:aI b c):aI a c:=dh fun x=>bP8 (h1.cnt x) (h2.cnt x)
theorem tN{a b:Hp}(h:aI a b){wc:World}(hh:Here b wc):Here a wc:=fun e he=>hh e (h.mem he)
theorem Dj{α:Type}{a b:α}:∀ {l:List α} {k:Nat},nth l (k+0)=some a→nth l (k+1)=some b→List.take 2 (List.drop k l)=[a,b]
 | [],k,h,_=>by cases k<;>cases h
 | x::l,k+1,h0,h1=>by
  rw[bL2]
  exact Dj (l:=l) (k:=k) (by rwa [Nat.succ_add] at h0) (by rwa [Nat.succ_add] at h1)
 | [x],0,h0,h1=>by cases h1
 | x::y::l,0,h0,h1=>by cases h0;cases h1;rfl
end
section
attribute [local irreducible] Hy St Ops DH dH jg iP gQ DS gX lJ
def fP{α:Type}(O:α→Hp→Prop):List α→Hp→Prop
 | [],_=>True
 | t::ts,h=>∃ a b,O t a∧fP O ts b∧aI (a++b) h
section
variable {α : Type} {O : α → Hp → Prop}
theorem fP.out[Inhabited α]:∀ {ts:List α} {h:Hp} {k:Nat},fP O ts h→k<ts.length→∃ a b,O (ts.getD k default) a∧aI (a++b) h∧∀ y a',O y a'→fP O (ts.set k y) (a'++b)
 | t::ts,h,0,⟨a,b,h1,h2,h3⟩,_=>⟨a,b,h1,h3,fun y a' hy=>⟨a',b,hy,h2,aI.refl _⟩⟩
 | t::ts,h,k+1,⟨a,b,h1,h2,h3⟩,hk=>by
  obtain⟨a1,b1,g1,g2,g3⟩:=fP.out h2 (Nat.lt_of_succ_lt_succ hk);exact⟨a1,a++b1,g1,dh fun x=>by have:=h3.cnt x;have:=g2.cnt x;simp only[eH] at *;omega,fun y a' hy=>⟨a,a'++b1,h1,g3 y a' hy,dh fun x=>by simp only[eH];omega⟩⟩
theorem fP.snoc{y:α}{a:Hp}(hy:O y a):∀ {ts:List α} {h:Hp},fP O ts h→fP O (ts++[y]) (a++h)
 | [],h,_=>⟨a,h,hy,trivial,aI.refl _⟩
 | t::ts,h,⟨c,d,h1,h2,h3⟩=>⟨c,a++d,h1,fP.snoc hy h2,dh fun x=>by have:=h3.cnt x;simp only[eH] at this ⊢;omega⟩
theorem fP.each{Q:α→Prop}{wc:World}(hq:∀ t a,O t a→Here a wc→Q t):∀ {ts:List α} {h:Hp},fP O ts h→Here h wc→∀ t∈ts,Q t
 | [],_,_,_=>fun t ht=>absurd ht bB5
 | t::ts,h,⟨a,b,h1,h2,h3⟩,hw=>fun x hx=>by
  rcases bJ3.1 hx with rfl | hx
  ·exact hq _ _ h1 fun e m=>tN h3 hw e (by simp[m])
  ·exact fP.each hq h2 (fun e m=>tN h3 hw e (by simp[m])) x hx
end
def wS(t:uo)(h:Hp):Prop:=∃ h1 h2,Own 80 14 t.ev h1 (t.es.map iy)∧Own 127 4 t.dv h2 (t.ds.map lg)∧(t.es.length<100000∧t.ds.length<100000)∧aI (h1++h2) h
theorem wS.lie{t:uo}{h:Hp}(hb:wS t h)(hw:Here h w):aA w t.ev 14 (t.es.map iy)∧aA w t.dv 4 (t.ds.map lg):=by
 obtain⟨h1,h2,o1,o2,l,hle⟩:=hb;exact⟨o1.lie (fun e he=>tN hle hw e bC9) bB6,o2.lie (fun e he=>tN hle hw e bC9) bB6⟩
theorem wS.cap{t:uo}{h:Hp}(hb:wS t h):t.es.length≤t.ec:=by
 obtain⟨h1,h2,o1,o2,l,hle⟩:=hb;obtain⟨p,c,e,hl⟩:=o1.sV;rw[bH7] at e hl;cases e;exact hl
theorem fP.caps:∀ {ts:List uo} {h:Hp},fP wS ts h→∀ t∈ts,t.es.length≤t.ec
 | [],_,_=>fun t ht=>absurd ht bB5
 | t::ts,h,⟨a,b,h1,h2,h3⟩=>fun x hx=>by
  rcases bJ3.1 hx with rfl | hx
  ·exact h1.cap
  ·exact fP.caps h2 x hx
def TU(m:eG)(h:Hp):Prop:=∃ h1 h2 h3,Own 3 1 m.fv h1 (m.fs.map bY)∧Own 3 1 m.rv h2 (m.fr.map bY)∧Own 102 16 m.vv h3 (m.vs.map wR)∧(m.fs.length<100000∧m.fr.length<100000∧m.vs.length<100000)∧aI (h1++(h2++h3)) h
structure HL where
 wv:Value
 cv:Value
 vv:Value
 rv:Value
 cs:List jv
 vs:List eG
 hw:Hp
 hc:Hp
 ht:Hp
 hv:Hp
 hz:Hp
 hr:Hp
def HL.rest(L:HL):Hp:=L.hw++(L.hc++(L.ht++(L.hv++(L.hz++L.hr))))
structure zM(L:HL)(H:HyD):Prop where
 Df:lW H.ws
 w:Own 53 1 L.wv L.hw (H.ws.map uV)
 c:Own 74 19 L.cv L.hc (L.cs.map qY)
 t:fP wS (L.cs.map (·.t)) L.ht
 v:Own 62 6 L.vv L.hv (L.vs.map mW)
 z:fP TU L.vs L.hz
 r:Own 68 15 L.rv L.hr (H.rs.map kN)
 ec:L.cs.map jv.u=H.cs
 ev:L.vs.map eG.u=H.vs
theorem zM.hv{L:HL}(h:zM L H)(hf:H.Fit)(hh:Here L.rest w):vw w L.wv L.cv L.vv L.rv H:=by
 have ecl:L.cs.length=H.cs.length:=by rw[←h.ec,bH7]
 have evl:L.vs.length=H.vs.length:=by rw[←h.ev,bH7]
 have hl:=hf.l;have m:∀ hx:Hp,(∀ e∈hx,e∈L.rest)→Here hx w:=fun hx hm e he=>hh e (hm e he);have t1:=h.t.caps;have t2:Here L.ht w→∀ c∈L.cs,aA w c.t.ev 14 (c.t.es.map iy)∧aA w c.t.dv 4 (c.t.ds.map lg):=fun hh c hc=>h.t.each (Q:=fun t=>aA w t.ev 14 (t.es.map iy)∧aA w t.dv 4 (t.ds.map lg)) (fun t a ha hw=>ha.lie hw) hh c.t (bI7.2 ⟨c,hc,rfl⟩);obtain⟨qw,cw,ew,lw⟩:=h.w.sV;obtain⟨qv,cv,ev,lv⟩:=h.v.sV;rw[bH7] at ew lw ev lv;refine⟨hf,⟨qv,cv,by rw[ev,evl],by omega⟩,⟨qw,cw,ew,lw⟩,L.cs,L.vs,h.ec,h.ev,?_,?_⟩
 ·intro c hc;exact t1 c.t (bI7.2 ⟨c,hc,rfl⟩)
 ·refine⟨h.Df,h.w.lie (m _ bD1) bB6,⟨h.c.lie (m _ bD1) bB6,?_,?_⟩,⟨h.v.lie (m _ bD1) bB6,?_,?_,?_⟩,h.r.lie (m _ bD1) bB6⟩
  ·intro c hc;exact (t2 (m _ bD1) c hc).1
  ·intro c hc;exact (t2 (m _ bD1) c hc).2
  ·exact h.z.each (Q:=fun m=>aA w m.fv 1 (m.fs.map bY)) (fun t a ⟨h1,h2,h3,o1,o2,o3,l,hle⟩ ha=>o1.lie (fun e he=>tN hle ha e bC9) bB6) (m _ bD1)
  ·exact h.z.each (Q:=fun m=>aA w m.rv 1 (m.fr.map bY)) (fun t a ⟨h1,h2,h3,o1,o2,o3,l,hle⟩ ha=>o2.lie (fun e he=>tN hle ha e bC9) bB6) (m _ bD1)
  ·exact h.z.each (Q:=fun m=>aA w m.vv 16 (m.vs.map wR)) (fun t a ⟨h1,h2,h3,o1,o2,o3,l,hle⟩ ha=>o3.lie (fun e he=>tN hle ha e bC9) bB6) (m _ bD1)
theorem TV(ts:List uo)(aN mid:Int)(hv:PtD.dD aN 0 15=true)(hm:PtD.dD mid 0 4095=true){lv:Value}(h:Xv w lv ts)(hcap:∀ t∈ts,t.es.length≤t.ec)(hok:∀ t∈ts,dQ t.es t.ds=true)(hl:ts.length<100000):
  Fn Tryz.prog 159 [lv,.int .i64 aN,.int .i64 mid].toArray w [] (fun r hn=>∃ v ha hs ts',r=.tuple #[v,.int .i64 0]∧Own 72 2 v ha (ts'.map TF)∧fP wS ts' hs∧ts'.map (fun t=>(t.es,t.ds))=ts.map (fun t=>(mJ t.es (tK aN mid),t.ds))∧aI (ha++hs) hn):=by
 obtain⟨q,cap,rfl,hne,_⟩:=h.rows.opened
 have hd1:(tK aN mid).all jy.may=true:=by
  simp only[tK,bW5,bX3,jy.may,hv,hm];rfl
 have hd2:dQ [] (tK aN mid)=true:=by
  simp only[dQ,hd1];rfl
 refine enter Tryz.func159 ?_;refine run ?_;intro D;refine run ?_;refine az (fun wc hG=>zg [] (tK aN mid) (.slice none 0 0) (.slice (some ⟨D,0,none⟩) 2 2) ((Own.nil 80 14).lie (fun b hb=>by cases hb) bB4) (iI (xs:=(tK aN mid).map lg) (hG.here ⟨D,#[.int .i64 6,.int .i64 aN,.int .i64 0,.int .i64 mid,.int .i64 3,.int .i64 aN,.int .i64 0,.int .i64 0],127⟩ mh) (fun c hc=>(AO c hc).1) (by simp[tK])) ⟨_,_,rfl,bI9 _⟩) ?_;rw[hd2];refine aP ?_;refine aK (σ:=FgS) (fun s=>[(26,.int .i64 (s.k:Int)),(9,s.v)]) (fun s=>⟨D,#[.int .i64 6,.int .i64 aN,.int .i64 0,.int .i64 mid,.int .i64 3,.int .i64 aN,.int .i64 0,.int .i64 0],127⟩::(s.ha++s.hs)) (fun s=>s.k≤ts.length∧Acc 72 2 s.v s.ha (s.ts.map TF)∧fP wS s.ts s.hs∧s.ts.map (fun t=>(t.es,t.ds))=(ts.take s.k).map (fun t=>(mJ t.es (tK aN mid),t.ds))) (fun s=>ts.length-s.k) ⟨0,.slice none 0 0,[],[],[]⟩ ⟨bI1 _,Acc.nil _ _,trivial,rfl⟩ ?_;rintro⟨k,ov,ha,hs,ts'⟩ m hm ⟨hk,hA,hO,hE⟩;dsimp only at hm hk hA hO hE ⊢;have hA':=hA;refine run ?_;refine ah _ rfl (fun hc=>?_) (fun hc=>?_)
 ·have hlt:k<ts.length:=by simpa using hc
  obtain⟨b,o,rfl⟩:=hne bB7;have hr:=h.rows.row hlt;have hen:=h.en _ (getD_mem hlt);have hiv:=h.iv _ (getD_mem hlt);have hcp:=hcap _ (getD_mem hlt);have hkt:=hok _ (getD_mem hlt);have htn:=dW hlt;generalize ts.getD k default=t at hr hen hiv hcp hkt htn;refine run ?_;intro T;refine run ?_;refine bH (fun wc hG=>XP t.es t.ds (tK aN mid) _ _ _ (hen.good hG) (hiv.good hG) ⟨_,_,rfl,hcp⟩ (iI (xs:=(tK aN mid).map lg) (hG.here ⟨D,#[.int .i64 6,.int .i64 aN,.int .i64 0,.int .i64 mid,.int .i64 3,.int .i64 aN,.int .i64 0,.int .i64 0],127⟩ (bI5 _ mh)) (fun c hc=>(AO c hc).1) (by simp[tK]))) ?_;have hg:tJ t.es t.ds (tK aN mid)=some (mJ t.es (tK aN mid),t.ds):=by simp only[tJ,hkt,hd1];rfl
  rw[hg];rintro u hn ⟨v1,h1,v2,h2,rfl,Dh,hO2,hle⟩;dsimp only at Dh hO2;have hlen:(mJ t.es (tK aN mid)).length≤t.es.length:=bS4 ..;generalize hal:mJ t.es (tK aN mid)=al at Dh hlen;obtain⟨p1,c1,e1⟩:=Dh.opened;obtain⟨p2,c2,e2⟩:=hO2.opened;rw[bH7] at e1 e2;subst e1 e2;refine ig hle ?_;refine cZ (_++(h1++h2)) bJ5 ?_;simp only[bI0,bI3];refine aP ?_;intro X Z;refine dK (c:=[.slice p1 al.length c1,.slice p2 t.ds.length c2]) hA (fun v' ha' hA2=>?_) (by have:=congrArg List.length hE;simp at this;simp;omega) (aY (m:=2) mh rfl) (hp':=⟨Z,#[.slice p1 al.length c1,.slice p2 t.ds.length c2],72⟩::⟨X,#[.slice p1 al.length c1,.slice p2 t.ds.length c2],72⟩::⟨T,#[t.ev,t.dv],72⟩::⟨D,#[.int .i64 6,.int .i64 aN,.int .i64 0,.int .i64 mid,.int .i64 3,.int .i64 aN,.int .i64 0,.int .i64 0],127⟩::(hs++(h1++h2))) (hperm:=by (exact aU));refine aP ?_;refine aF ⟨k+1,v',ha',h1++h2++hs,ts'++[⟨al,t.ds,p1,c1,p2,c2⟩]⟩ ⟨hlt,?_,?_,?_⟩ (hm:=by dsimp only;omega) (h2:=by (exact ak))
  ·dsimp only;rw[bJ4];exact hA2
  ·exact hO.snoc (y:=⟨al,t.ds,p1,c1,p2,c2⟩) (a:=h1++h2) ⟨h1,h2,Dh,hO2,⟨by have:=(pI hkt).2.1;dsimp only;omega,by have:=(pI hkt).2.2;dsimp only;omega⟩,aI.refl _⟩
  ·dsimp only;rw[htn,bJ4,bJ4,hE];simp[hal]
 ·have hge:k=ts.length:=by simp at hc;omega
  subst hge;rw[bN4] at hE;refine aP ?_;refine fin2 ?_;exact⟨_,ha,hs,ts',rfl,hA.own,hO,hE,by (exact ak)⟩
end
section
attribute [local irreducible] Hy St Ops DH dH jg iP gQ DS gX lJ
structure BcS where
 k:Nat
 v:Value
 h:Hp
def az3(ws:List Nat)(root:Int)(mid:Nat)(d:DsD):Nat→List Nat
 | 0=>ws
 | 1=>(fC ws root mid 3 dG).ws
 | _=>(fC (fC ws root mid 3 dG).ws root mid 3 d).ws
theorem EI{ws:List Nat}(h:lW ws)(root:Int)(page level:Nat)(d:DsD):lW (fC ws root page level d).ws:=by
 unfold fC;dsimp only
 cases (!(aO ws root page level).ok) with
 | true=>exact fun x hx=>absurd hx (by simp[badM])
 | false=>
  rw[cond_false]
  cases (!decide ((aO ws root page level).lv=level)) with
  | true=>exact fun x hx=>absurd hx (by simp[badM])
  | false=>exact h.lK _ _ _
theorem ae7{ws:List Nat}{root:Int}(hg:(iE ws root page).e=0)(hl:(iE ws root page).level=3)(d:DsD):fC ws root page 3 d=⟨lK ws ((aO ws root page 3).place page) 3 d,[],0⟩:=by
 unfold iE at hg hl;unfold fC;dsimp only at hg hl ⊢
 cases h:(aO ws root page 3).ok with
 | false=>rw[h] at hg;cases hg
 | true=>
  rw[h] at hl;rw[show (aO ws root page 3).lv=3 from hl];rfl
theorem TW(ts:List uo)(ws:List Nat)(hw:lW ws)(hmm:fJ ws.length=true)(root aN:Int)(mid:Nat)(hv:PtD.dD aN 0 15=true)(hmid:mid≤4095)(d:DsD)(hd:d.may 2 3=true)(hg:(iE ws root mid).e=0)(hg3:(iE ws root mid).level=3){mv lv:Value}(hmv:aA w mv 1 (ws.map uV))(h:Xv w lv ts)(hcap:∀ t∈ts,t.es.length≤t.ec)(hok:∀ t∈ts,dQ t.es t.ds=true)(hl:ts.length<100000):
  Fn Tryz.prog 246 [.agg #[mv],lv,.int .i64 root,.int .i64 aN,.int .i64 (mid:Int),uj d].toArray w [] (fun u hn=>∃ v1 h1 v ha hs ts',u=.tuple #[.agg #[v1],v,.int .i64 0]∧Own 53 1 v1 h1 ((fC (fC ws root mid 3 dG).ws root mid 3 d).ws.map uV)∧Own 72 2 v ha (ts'.map TF)∧fP wS ts' hs∧ts'.map uo.p=ts.map (fun t=>(mJ t.es (tK aN mid),t.ds))∧aI (h1++(ha++hs)) hn):=by
 have hm':PtD.dD (mid:Int) 0 4095=true:=by simp only[PtD.dD,bH6,decide_eq_true_eq];omega
 refine enter Tryz.func246 ?_;refine run ?_;intro Mb Db Xb;refine run ?_;refine bH (fun wc hG=>TV ts aN mid hv hm' (h.good hG) hcap hok hl) ?_;rintro u hn ⟨v,ha,hs,ts',rfl,hO,hT,hE,hle⟩;obtain⟨tp,tc,et⟩:=hO.opened;rw[bH7] at et;subst et;refine ig hle ?_;refine aC ?_;refine bG (fun _ wc hG=>yM 2 (.inr rfl) 3 bB4 d wc) ?_;rw[hd];refine aP ?_;refine az (fun wc hG=>Jb ws hw (hmv.good hG) hmm root mid hmid) ?_;rw[hg,hg3];refine aP ?_;intro Gb;refine run ?_;refine bH (fun wc hG=>oP _ _ (hmv.good hG) (fun c hc=>by obtain⟨x,_,rfl⟩:=bI7.1 hc;exact⟨rfl,rfl⟩) (by have:=bP hmm;rw[bH7];omega)) ?_;intro v1 h1 Dh;obtain⟨wp,Vl,e1⟩:=Dh.opened;rw[bH7] at e1;subst e1;refine aS (⟨Xb,#[.slice none 0 0],24⟩::⟨Db,#[.int .i64 d.kind,.int .i64 d.frame,.bool d.r,.bool d.w,.bool d.x,.bool d.af,.bool d.ng,.int .i64 d.soft,.int .i64 d.note],95⟩::(h1++(ha++hs))) ak ?_;refine run ?_;intro Z;refine run ?_;have e0:(fC ws root mid 3 dG)=⟨lK ws ((aO ws root mid 3).place mid) 3 dG,[],0⟩:=ae7 hg hg3 dG;have hm1:fJ (fC ws root mid 3 dG).ws.length=true:=by rw[e0];dsimp only;rw[kD];exact hmm
 refine aK (σ:=BcS) (fun s=>[(59,.int .i64 (s.k:Int))]) (fun s=>⟨Z,#[.int .i64 0,.int .i64 0,.bool false,.bool false,.bool false,.bool false,.bool false,.int .i64 0,.int .i64 0,.int .i64 d.kind,.int .i64 d.frame,.bool d.r,.bool d.w,.bool d.x,.bool d.af,.bool d.ng,.int .i64 d.soft,.int .i64 d.note],95⟩::⟨Xb,#[s.v],24⟩::(s.h++(ha++hs))) (fun s=>s.k≤2∧Own 53 1 s.v s.h ((az3 ws root mid d s.k).map uV)) (fun s=>2-s.k) ⟨0,.slice wp ws.length Vl,h1⟩ ⟨bI1 _,Dh⟩ ?_;rintro⟨k,xv,hx⟩ m hm ⟨hk,hX⟩;dsimp only at hm hk hX ⊢;refine run ?_;refine ah _ rfl (fun hc=>?_) (fun hc=>?_)
 ·obtain⟨xp,xc,ex⟩:=hX.opened;subst ex;obtain rfl | rfl:k=0∨k=1:=by have:=of_decide_eq_true hc;omega
  ·refine run ?_;intro Eb;refine run ?_;refine bH (fun wc hG=>QO ws hw (hX.lie (fun b hb=>hG.here b bG2) (by rw[bH7];have:=bP hmm;show ws.length≤_;omega)) hmm root mid hmid 3 bB4 dG rfl) ?_;rintro u2 hn2 ⟨v2,h2,rfl,hO2,hle2⟩;obtain⟨p2,c2,e2⟩:=hO2.opened;subst e2;refine aS (⟨Z,#[.int .i64 0,.int .i64 0,.bool false,.bool false,.bool false,.bool false,.bool false,.int .i64 0,.int .i64 0,.int .i64 d.kind,.int .i64 d.frame,.bool d.r,.bool d.w,.bool d.x,.bool d.af,.bool d.ng,.int .i64 d.soft,.int .i64 d.note],95⟩::⟨Xb,#[.slice xp (List.map uV (az3 ws root mid d 0)).length xc],24⟩::(h2++(ha++hs))) (cnt1 hle2) ?_;refine run ?_;exact aF ⟨1,_,h2⟩ ⟨Nat.le_succ 1,hO2⟩ (hm:=by dsimp only;omega)
  ·refine run ?_;intro Eb;refine run ?_;refine bH (fun wc hG=>QO (fC ws root mid 3 dG).ws (EI hw root mid 3 dG) (hX.lie (fun b hb=>hG.here b bG2) (by rw[bH7];have:=bP hm1;show (fC ws root mid 3 dG).ws.length≤_;omega)) hm1 root mid hmid 3 bB4 d hd) ?_;rintro u2 hn2 ⟨v2,h2,rfl,hO2,hle2⟩;obtain⟨p2,c2,e2⟩:=hO2.opened;subst e2;refine aS (⟨Z,#[.int .i64 0,.int .i64 0,.bool false,.bool false,.bool false,.bool false,.bool false,.int .i64 0,.int .i64 0,.int .i64 d.kind,.int .i64 d.frame,.bool d.r,.bool d.w,.bool d.x,.bool d.af,.bool d.ng,.int .i64 d.soft,.int .i64 d.note],95⟩::⟨Xb,#[.slice xp (List.map uV (az3 ws root mid d 1)).length xc],24⟩::(h2++(ha++hs))) (cnt1 hle2) ?_;refine run ?_;exact aF ⟨2,_,h2⟩ ⟨bI9 2,hO2⟩ (hm:=by dsimp only;omega)
 ·have hk2:k=2:=by have:=of_decide_eq_false hc;omega
  subst hk2;obtain⟨xp,xc,ex⟩:=hX.opened;subst ex;refine run ?_;exact rE ⟨_,hx,_,ha,hs,ts',rfl,hX,hO,hT,hE,by (exact ak)⟩
def HL.hp(L:HL)(X:Nat)(tl:List Value)(ty:TypeId):Hp:=⟨X,(L.wv::L.cv::L.vv::L.rv::tl).toArray,ty⟩::L.rest
structure TbS where
 k:Nat
 v:Value
 h:Hp
theorem ae8{vv rv:Value}(cs:List jv)(hX:w.rangeAt X 0 [wv,cv,vv,rv])(hC:aA w cv 19 (cs.map qY))(hl:cs.length<100000):
  Fn Tryz.prog 160 [.pointer (some ⟨X,0,none⟩)].toArray w [] (fun u hn=>∃ ha,Own 72 2 u ha ((cs.map (·.t)).map TF)∧aI ha hn):=by
 have h1:w.cell? ⟨X,1,none⟩=some cv:=aj (aV (k:=1) (n:=1) hX rfl);have hC':=hC;obtain⟨q,cap,rfl,hne,_⟩:=hC.opened;refine enter Tryz.func160 ?_;refine run ?_;refine aK (σ:=TbS) (fun s=>[(12,.int .i64 (s.k:Int)),(3,s.v)]) (fun s=>s.h) (fun s=>s.k≤cs.length∧Acc 72 2 s.v s.h (((cs.take s.k).map (·.t)).map TF)) (fun s=>cs.length-s.k) ⟨0,.slice none 0 0,[]⟩ ⟨bI1 _,Acc.nil _ _⟩ ?_;rintro⟨k,ov,ha⟩ m hm ⟨hk,hA⟩;dsimp only at hm hk hA ⊢;refine run ?_;refine ah _ rfl (fun hc=>?_) (fun hc=>?_)
 ·have hlt:k<cs.length:=by simpa using hc
  obtain⟨b,o,rfl⟩:=hne bB7;have hr:=hC.row hlt;have htn:=dW hlt;generalize cs.getD k default=c at hr htn;refine run ?_;intro Cb;refine run ?_;intro Z;refine aS (⟨Z,#[c.t.ev,c.t.dv],72⟩::ha) ak ?_;refine dK (c:=[c.t.ev,c.t.dv]) hA (fun v' ha' hA2=>?_) bB9 (aY (m:=2) mh rfl) (hp':=[⟨Z,#[c.t.ev,c.t.dv],72⟩]) (hperm:=by (exact aU));refine run ?_;refine aF ⟨k+1,v',ha'⟩ ⟨hlt,?_⟩ (hm:=by dsimp only;omega) (h2:=by (exact ak));dsimp only;rw[htn,bJ4,bJ4];exact hA2
 ·have hge:k=cs.length:=by simp at hc;omega
  subst hge;rw[bN4] at hA;refine run ?_;exact fin1 ⟨ha,hA.own,aI.refl _⟩
def TY(cs:List jv)(ts:List uo):Nat→List jv
 | 0=>cs
 | k+1=>(TY cs ts k).set k { (TY cs ts k).getD k default with t:=ts.getD k default }
theorem Dk(cs:List jv)(ts:List uo)(k:Nat):(TY cs ts k).length=cs.length:=by
 induction k with
 | zero=>rfl
 | succ k ih=>rw[TY,bM1,ih]
theorem LU{g cap:Nat}{cur:Array Value}{vv rv lv:Value}(cs:List jv)(ts:List uo)(hlen:ts.length=cs.length)(hl:cs.length<100000)(hX:w.rangeAt X 0 [wv,.slice (some ⟨g,0,none⟩) cs.length cap,vv,rv])(hXg:X≠g)(hO:Own 74 19 (.slice (some ⟨g,0,none⟩) cs.length cap) [⟨g,cur,74⟩] (cs.map qY))(hL:aA w lv 2 (ts.map TF))(hlo:∀ b o n k,lv=.slice (some ⟨b,o,none⟩) n k→b≠g)(hN:dY [⟨g,cur,74⟩] w):
  Fn Tryz.prog 161 [.pointer (some ⟨X,0,none⟩),lv].toArray w [g] (fun u hn=>u=.tuple #[]∧∃ cur',Own 74 19 (.slice (some ⟨g,0,none⟩) cs.length cap) [⟨g,cur',74⟩] ((TY cs ts cs.length).map qY)∧aI [⟨g,cur',74⟩] hn):=by
 have h1:w.cell? ⟨X,1,none⟩=some (.slice (some ⟨g,0,none⟩) cs.length cap):=aj (aV (k:=1) (n:=1) hX rfl);have hXm:X∉[g]:=by simp[hXg]
 obtain⟨q,lc,rfl,hne,_⟩:=hL.opened;refine dS [⟨g,cur,74⟩] hN Tryz.func161 ?_;refine run ?_;refine aK (σ:=Nat×Array Value) (fun s=>[(11,.int .i64 (s.1:Int))]) (fun s=>[⟨g,s.2,74⟩]) (fun s=>s.1≤cs.length∧Own 74 19 (.slice (some ⟨g,0,none⟩) cs.length cap) [⟨g,s.2,74⟩] ((TY cs ts s.1).map qY)) (fun s=>cs.length-s.1) (0,cur) ⟨bI1 _,hO⟩ ?_;rintro⟨k,cu⟩ m hm ⟨hk,hU⟩;dsimp only at hm hk hU ⊢;refine run ?_;refine ah _ rfl (fun hc=>?_) (fun hc=>?_)
 ·have hlt:k<cs.length:=by simpa using hc
  obtain⟨b,o,rfl⟩:=hne (by intro e;subst e;simp at hlen;omega);have hb:=hlo _ _ _ _ rfl;have hbm:b∉[g]:=by simp[hb]
  have hr:=hL.row (show k<ts.length by omega);obtain⟨g',cap',cur',e1,e2,hsz,qh,hput⟩:=hU.oq (k:=k) (by rw[Dk];exact hlt);rw[Dk] at e1;simp only[Dk] at hput;cases e1;cases e2;refine run ?_;refine ve 13 12 [0,1,2,3,4,5,6,7,8,9,10,11] [(12,false)] [] ?_;refine kU ?_;have hnew:=hput 17 [(ts.getD k default).ev,(ts.getD k default).dv] { (TY cs ts k).getD k default with t:=ts.getD k default } bB5 rfl ⟨rfl,rfl⟩;refine xC ?_;refine Ed (v:=.agg #[(ts.getD k default).ev,(ts.getD k default).dv]) aB (b:=g) (cs:=cu) (cs':=putAt cu (k*19+17) [(ts.getD k default).ev,(ts.getD k default).dv]) (tb:=74) (off:=k*19+17) (vs:=[(ts.getD k default).ev,(ts.getD k default).dv]) (hp':=[]) rfl rfl rfl rfl rfl rfl aU rfl (by show k*19+17+2≤_;omega) rfl ak ?_;refine di ?_;refine Ji ?_;refine kV ?_;refine run ?_;exact aF (k+1,putAt cu (k*19+17) [(ts.getD k default).ev,(ts.getD k default).dv]) ⟨hlt,hnew⟩ (hm:=by dsimp only;omega)
 ·have hge:k=cs.length:=by simp at hc;omega
  subst hge;refine run ?_;exact fin0 ⟨rfl,cu,hU,aI.refl _⟩
end
section
attribute [local irreducible] Hy St Ops DH dH
def Aft(w w':World):Prop:=∃ hp,Good w [] hp w'
section
variable {w : World} {bp : Nat} {L : JS} {P : PtD}
theorem tV(h:rC w bp L P)(i:Nat)(hi:i<P.ay.length)(n:Int)(hn:n=(i:Int)+1):Fn Tryz.prog 199 [.pointer (some ⟨bp,0,none⟩),.int .i64 n].toArray w [] (fun u _=>u=.pointer (some ⟨L.gb,L.go+i*5,none⟩)):=by
 have hg:=h.cg;have h4:=h.n.g4;refine enter Tryz.func199 ?_;refine aC ?_;refine fin1 ?_;rw[show (n-1).toNat=i by omega]
theorem az4(h:rC w bp L P)(f:Nat)(hf:f<P.pages.length)(who:Int):Fn Tryz.prog 331 [.pointer (some ⟨bp,0,none⟩),.int .i64 who,.int .i64 f].toArray w [] (fun u _=>u=.bool (P.uses who f)):=by
 have hp:=h.cp;have h0:=h.v.pg0 hf;have h1:=h.v.pg1 hf;refine enter Tryz.func331 ?_;refine aC ?_;exact fin1 rfl
end
end
section
attribute [local irreducible] Hy St Ops DH dH
theorem LV{w:World}{F:Nat}{us:List Value}(p:o8→Bool)(xs:List o8)(v:Value)(h:aA w v 2 (xs.map sS))(hF:∀ x,∀ w',Aft w w'→Fn Tryz.prog F ([]++[Value.agg #[.int .i64 x.own,.int .i64 x.wit]]++us).toArray w' [] (fun u _=>u=.bool (p x)))(bM:mem iV F=true:=by rfl):
  Fn Tryz.prog 305 [v,.func (.func F) [].toArray us.toArray].toArray w [] (fun u _=>u=.int .i64 (gV p xs)):=by
 obtain⟨q,cap,rfl,hne,hle⟩:=h.opened;refine enter Tryz.func305 ?_;refine run ?_;refine aK (σ:=Nat) (fun k=>[(8,.int .i64 (k:Int))]) (fun _=>[]) (fun k=>k≤xs.length∧∀ j,j<k→p (xs.getD j default)=false) (fun k=>xs.length-k) 0 ⟨bI1 _,fun j hj=>absurd hj bB3⟩ ?_;rintro k m rfl ⟨hk,hno⟩;refine run ?_;refine ah _ rfl (fun hc=>?_) (fun hc=>?_)
 ·have hlt:k<xs.length:=by simpa using hc
  obtain⟨b,o,rfl⟩:=hne bB7;have hr:=h.row hlt;simp only[sS] at hr;refine run ?_;refine l7 (fun wc hG=>hF (xs.getD k default) wc ⟨_,hG⟩) (bM:=bM) ?_;refine run ?_;refine ah _ rfl (fun hp=>?_) (fun hp=>?_)
  ·refine run ?_;refine fin1 ?_;rw[fG hlt hp hno]
  ·refine run ?_;refine aF (k+1) ⟨hlt,fun j hj=>?_⟩;rcases bJ0.1 hj with hj | rfl
   ·exact hno j hj
   ·exact hp
 ·have hge:k=xs.length:=by simp at hc;omega
  subst hge;refine run ?_;refine fin1 ?_;rw[dV hno]
theorem qB{w:World}{F:Nat}{us:List Value}(p:o8→Bool)(xs:List o8)(v:Value)(h:aA w v 2 (xs.map sS))(hF:∀ x,∀ w',Aft w w'→Fn Tryz.prog F ([]++[Value.agg #[.int .i64 x.own,.int .i64 x.wit]]++us).toArray w' [] (fun u _=>u=.bool (p x)))(bM:mem iV F=true:=by rfl):
  Fn Tryz.prog 238 [v,.func (.func F) [].toArray us.toArray].toArray w [] (fun u _=>u=.bool (xs.any p)):=by
 refine enter Tryz.func238 ?_;refine run ?_;refine az (fun wc hG=>LV p xs v (h.good hG) (fun x w' ha=>hF x w' ?_) bM) ?_
 ·obtain⟨hp,hg⟩:=ha;exact⟨_,hG.trans hg⟩
 refine run ?_;refine fin1 ?_;rw[←gq]
theorem LW(a:Int)(xs:List Int)(v:Value)(h:aA w v 1 (xs.map bY)):
  Fn Tryz.prog 212 [v,.int .i64 a].toArray w [] (fun u _=>u=.int .i64 (gV (fun t=>decide (t=a)) xs)):=by
 obtain⟨q,cap,rfl,hne,hle⟩:=h.opened;refine enter Tryz.func212 ?_;refine run ?_;refine aK (σ:=Nat) (fun k=>[(8,.int .i64 (k:Int))]) (fun _=>[]) (fun k=>k≤xs.length∧∀ j,j<k→decide (xs.getD j default=a)=false) (fun k=>xs.length-k) 0 ⟨bI1 _,fun j hj=>absurd hj bB3⟩ ?_;rintro k m rfl ⟨hk,hno⟩;refine run ?_;refine ah _ rfl (fun hc=>?_) (fun hc=>?_)
 ·have hlt:k<xs.length:=by simpa using hc
  obtain⟨b,o,rfl⟩:=hne bB7;have hr:=aj (h.row hlt);have hr1:=hr;simp only[bK3] at hr1;refine run ?_;refine ah _ rfl (fun hp=>?_) (fun hp=>?_)
  ·refine run ?_;refine fin1 ?_;rw[fG hlt (by simpa [eq_comm] using hp) hno]
  ·refine run ?_;refine aF (k+1) ⟨hlt,fun j hj=>?_⟩;rcases bJ0.1 hj with hj | rfl
   ·exact hno j hj
   ·simpa [eq_comm] using hp
 ·have hge:k=xs.length:=by simp at hc;omega
  subst hge;refine run ?_;refine fin1 ?_;rw[dV hno]
theorem vF(a:Int)(xs:List Int)(v:Value)(h:aA w v 1 (xs.map bY)):
  Fn Tryz.prog 131 [v,.int .i64 a].toArray w [] (fun u _=>u=.bool (xs.any fun t=>decide (t=a))):=by
 refine enter Tryz.func131 ?_;refine run ?_;refine az (fun wc hG=>LW a xs v (h.good hG)) ?_;refine run ?_;refine fin1 ?_;rw[←gq]
end
section
attribute [local irreducible] Hy St Ops DH dH
section
variable {w : World} {bp : Nat} {L : JS} {P : PtD}
theorem ae9(x:o8)(who:Int)(B:Nat)(w:World)(hB:w.cell? ⟨B,0,none⟩=some (.int .i64 who)):Fn Tryz.prog 304 [.agg #[.int .i64 x.own,.int .i64 x.wit],.pointer (some ⟨B,0,none⟩)].toArray w [] (fun u _=>u=.bool (decide (x.own=who))):=by
 refine enter Tryz.func304 ?_;refine run ?_;intro b;exact fin1 rfl
theorem jl.XQ(h:jl w L P)(hp:0<P.pages.length)(hle:P.pages.length≤281474976710656):aA w (L.pv P.pages.length) 2 (P.pages.map sS):=by
 refine⟨⟨_,L.pc,by rw[bH7],fun _=>⟨L.pb,L.po,rfl,fun i c hc=>?_⟩⟩,by rw[bH7];exact hle⟩;rw[bJ'] at hc
 cases hx:P.pages[i]? with
 | none=>rw[hx] at hc;cases hc
 | some x=>
  rw[hx] at hc;simp only[bL5,bK0] at hc;have hi:i<P.pages.length:=(bJ8.1 hx).1;have:=h.pg i hi;rw[show P.pg i=x by unfold PtD.pg;rw[bH8,hx];rfl] at this;rw[←hc];exact this
theorem az5(h:rC w bp L P)(who:Int):Fn Tryz.prog 235 [.pointer (some ⟨bp,0,none⟩),.int .i64 who].toArray w [] (fun u _=>u=.bool (P.owns who)):=by
 have hp:=h.cp;have h0:=h.n.p0;have h1:=h.n.p1;refine enter Tryz.func235 ?_;refine run ?_;intro B;refine az (fun wc hG=>qB (us:=[.pointer (some ⟨B,0,none⟩)]) (fun x=>decide (x.own=who)) P.pages _ ((h.v.good hG).XQ bB3 bB3) (fun x w' ha=>ae9 x who B w' ?_)) ?_
 ·obtain⟨hp,hg⟩:=ha;exact hg.cell bG1 bB5
 refine run ?_;exact fin1 rfl
theorem Dl(h:rC w bp L P)(n:Int):Fn Tryz.prog 287 [.pointer (some ⟨bp,0,none⟩),.int .i64 n].toArray w [] (fun u _=>u=.bool (P.lives n)):=by
 have h4:=h.n.g4;refine enter Tryz.func287 ?_;refine run ?_;refine az (fun wc hG=>gB _ _ _ wc) ?_;cases hb:PtD.dD n 1 4
 ·refine aC ?_;refine fin1 ?_;simp[PtD.lives,hb]
 ·have hb':=hb;simp only[PtD.dD,bH6,decide_eq_true_eq] at hb';have hg0:=h.v.gs0 (i:=(n-1).toNat) bB3;refine aC ?_;refine bG (fun hg wc hG=>tV (h.good hG) (n-1).toNat bB3 n bB3) ?_;refine aC ?_;refine fin1 ?_;simp[PtD.lives,hb]
theorem LX(b o:Nat)(f:Int)(hf:-9223372036854775000≤f)(hf':f≤9223372036854775000)(w:World)(hc:w.cell? ⟨b,o+2,none⟩=some (.int .i64 f)):Fn Tryz.prog 200 [.pointer (some ⟨b,o,none⟩)].toArray w [] (fun u hp=>Acc 3 1 u hp ([f,f+1,f+2,f+3,f+4].map bY)):=by
 refine enter Tryz.func200 ?_;refine run ?_;refine aK (σ:=Nat×Value×Hp) (fun s=>[(3,s.2.1),(5,.int .i64 (s.1:Int))]) (fun s=>s.2.2) (fun s=>s.1≤5∧Acc 3 1 s.2.1 s.2.2 ((List.range s.1).map fun (i:Nat)=>bY (f+(i:Int)))) (fun s=>5-s.1) (0,_,[]) ⟨by omega,Acc.nil _ _⟩ ?_;rintro⟨k,v,ha⟩ m hm ⟨hk,hA⟩;dsimp only at hm hk hA ⊢;refine run ?_;refine ah _ rfl (fun hc=>?_) (fun hc=>?_)
 ·have hlt:k<5:=by simp at hc;omega
  refine run ?_;intro T;refine dK (c:=bY (f+(k:Int))) hA (fun v' ha' hA'=>?_) bB9 (aY (m:=1) mh rfl);refine run ?_;refine aF (k+1,v',ha') ⟨by omega,?_⟩;rw[bO5,bJ4];exact hA'
 ·have:k=5:=by simp at hc;omega
  subst this;refine run ?_;refine fin1 ?_;simpa [bO5] using hA
theorem ae'(h:rC w bp L P)(f:Nat)(hf:f<P.pages.length)(ts:List Int)(tv:Value)(ht:aA w tv 1 (ts.map bY)):Fn Tryz.prog 201 [.pointer (some ⟨bp,0,none⟩),.int .i64 f,tv].toArray w [] (fun u _=>u=.bool (P.oG ts f)):=by
 have hp:=h.cp;have hr:=h.v.pg f hf;have hcast:decide (f<16)=decide ((f:Int)<16):=by rw[decide_eq_decide];omega
 refine enter Tryz.func201 ?_;refine aC ?_;intro b1;refine ah _ rfl (fun hc=>?_) (fun hc=>?_)
 ·refine run ?_;refine gU 12 ?_;refine bg ?_;refine fB (fun wc hG=>OQ wc) ?_;refine bg ?_;refine IE (fun h0 h1 wc hG=>vF (f:Int) ts tv (ht.good hG)) ?_;refine bg ?_;refine aC ?_;refine fin1 ?_;simp[PtD.oG,hcast,hc,aW,iF]
 ·refine run ?_;refine ah _ rfl (fun hc2=>?_) (fun hc2=>?_)
  ·refine aC ?_;refine bG (fun h1 wc hG=>Dl (h.good hG) (P.pg f).wit) ?_;refine aC ?_;refine fin1 ?_;simp only[decide_eq_true_eq] at hc2;rw[PtD.oG,hcast,hc];simp[hc2]
  ·simp only[decide_eq_false_iff_not] at hc2;refine aC ?_;refine az (fun wc hG=>gB _ _ _ wc) ?_;refine aC ?_;refine ah _ rfl (fun hc3=>?_) (fun hc3=>?_)
   ·refine aC ?_;refine IC (fun h0 h1 wc hG=>Dl (h.good hG) (P.pg f).own) ?_;refine aC ?_;refine fin1 ?_;simp[PtD.oG,hcast,hc,hc2,hc3]
   ·refine aC ?_;refine fin1 ?_;simp[PtD.oG,hcast,hc,hc2,hc3]
theorem XR(h:rC w bp L P)(c:Nat)(hc:c<P.on.length):Fn Tryz.prog 202 [.pointer (some ⟨bp,0,none⟩),.int .i64 c].toArray w [] (fun u _=>u=.bool (P.seated c)):=by
 have hp:=h.co;have hr:=h.v.st c hc;refine enter Tryz.func202 ?_;refine aC ?_;intro b1;refine ah _ rfl (fun hc0=>?_) (fun hc0=>?_)
 ·refine run ?_;refine fin1 ?_;rw[PtD.seated,hc0];rfl
 refine run ?_;refine gU 33 ?_;refine bg ?_;refine fB (fun wc hG=>Dl (h.good hG) _) ?_;cases hl:P.lives (P.st c).vm
 ·refine bg ?_;refine aC ?_;refine fin1 ?_;simp[PtD.seated,hc0,hl]
 have hl':=hl;simp only[PtD.lives,PtD.dD,bH6,decide_eq_true_eq] at hl';obtain⟨i,hi⟩:∃ i,i=((P.st c).vm-1).toNat:=⟨_,rfl⟩
 have hi4:i<P.ay.length:=by have:=h.n.g4;omega
 have hvm:(P.st c).vm=(i:Int)+1:=by omega
 obtain⟨q,cap,hvv,hne,hle⟩:=(h.v.vc i hi4).opened;have hg3:=h.v.gs3 hi4;rw[hvv] at hg3;refine bg ?_;refine eX (fun h1 wc hG=>tV (h.good hG) i hi4 _ hvm) ?_;refine bg ?_;refine eX (fun h1 wc hG=>gB _ _ _ wc) ?_;cases hb:PtD.dD (P.st c).cpu 0 ((P.gs i).aQ.length-1)
 ·refine bg ?_;refine aC ?_;refine fin1 ?_;simp[PtD.seated,hc0,hl,←hi,hb]
 have hb':=hb;simp only[PtD.dD,bH6,decide_eq_true_eq] at hb';obtain⟨b,o,rfl⟩:=hne (by intro e;rw[e] at hb';simp at hb';omega);have hv:=h.v.vc i hi4;rw[hvv] at hv;have hx:=aj (hv.row (k:=(P.st c).cpu.toNat) bB3);rw[bK3] at hx;refine bg ?_;refine eX (fun h1 wc hG=>tV (h.good hG) i hi4 _ hvm) ?_;refine bg ?_;refine aC ?_;refine fin1 ?_;simp[PtD.seated,hc0,hl,←hi,hb]
theorem XT{α:Type}(f:α→Value)(x:α)(n:Nat):madeCells #[f x] (n*1)=((List.replicate n x).map f).toArray:=by
 apply Array.ext
 ·simp[madeCells]
 ·intro i h1 h2;simp[madeCells,bV']
theorem LY{w:World}{l:List jQ}{o cap:Nat}(h:aA w (.slice (some ⟨b,o,none⟩) l.length cap) 2 (l.map eF))(hk:k<l.length)(h0:0<k):w.cell? ⟨b,o+((k:Int)-1).toNat*2,none⟩=some (.int .i64 (l.getD (k-1) default).mid):=by
 rw[show ((k:Int)-1).toNat=k-1 by omega];exact aj (h.row (k:=k-1) bB3)
theorem XU(h:rC w bp L P)(i:Nat)(hi:i<P.ay.length)(n:Int)(hn:n=(i:Int)+1):Fn Tryz.prog 286 [.pointer (some ⟨bp,0,none⟩),.int .i64 n].toArray w [] (fun u _=>u=.bool (P.mapped i)):=by
 have hp:=h.cp;have hp1:=h.n.p1;obtain⟨q,cap,hmv,hne,hle⟩:=(h.v.mp i hi).opened;have hg4:=h.v.gs4 hi;rw[hmv] at hg4;have hrow:=h.v.mp i hi;rw[hmv] at hrow;refine enter Tryz.func286 ?_;refine run ?_;refine az (fun wc hG=>tV (h.good hG) i hi n hn) ?_;refine run ?_;refine make (m:=P.pages.length) (fun b=>?_) bB3;rw[show madeCells (Value.cells (.bool false)) (P.pages.length*1)=((List.replicate P.pages.length false).map Value.bool).toArray from XT _ _ _];refine run ?_;refine aK (σ:=Nat×List Bool) (fun s=>[(26,.int .i64 (s.1:Int))]) (fun s=>[⟨b,(s.2.map Value.bool).toArray,4⟩]) (fun s=>s.1≤(P.gs i).maps.length∧s.2.length=P.pages.length∧(∀ j,j<s.1→PtD.oH (P.gs i).maps P.pages.length j=true)∧∀ f,f<P.pages.length→s.2.getD f false=((P.gs i).maps.take s.1).any fun x=>decide (x.eu=(f:Int))) (fun s=>(P.gs i).maps.length-s.1) (0,List.replicate P.pages.length false) ⟨by simp,by simp,fun j hj=>absurd hj bB5,fun f hf=>by simp[hf]⟩ ?_;rintro⟨k,bs⟩ m hm ⟨hk,hbs,hall,BI⟩;dsimp only at hm hk hbs hall BI ⊢;refine run ?_;refine ah _ rfl (fun hc=>?_) (fun hc=>?_)
 ·have hlt:k<(P.gs i).maps.length:=by simp at hc;omega
  obtain⟨b2,o2,rfl⟩:=hne bC';have hr:=hrow.row hlt;simp only[eF] at hr
  have hno:PtD.oH (P.gs i).maps P.pages.length k=false→P.mapped i=false:=fun h=>by
   unfold PtD.mapped
   rw[show allB (P.gs i).maps.length (PtD.oH (P.gs i).maps P.pages.length)=false by
    rw[←bL8,aJ];intro ha;rw[ha k hlt] at h;cases h]
   rfl
  have hmd:PtD.oH (P.gs i).maps P.pages.length k=(PtD.dD ((P.gs i).maps.getD k default).mid 0 15&&(decide (k=0)||decide (((P.gs i).maps.getD (k-1) default).mid<((P.gs i).maps.getD k default).mid))&&PtD.dD ((P.gs i).maps.getD k default).eu 0 ((P.pages.length:Int)-1)&&!(((P.gs i).maps.take k).any fun x=>decide (x.eu=((P.gs i).maps.getD k default).eu))):=rfl;generalize hxd:(P.gs i).maps.getD k default=x at hr hmd;have hxk:x=(P.gs i).maps[k]:=by rw[←hxd,bH8,bH9 hlt];rfl
  clear hxd;refine run ?_;intro X;refine dA ?_;refine bg ?_;refine fB (fun wc hG=>gB _ _ _ wc) ?_;cases hb1:PtD.dD x.mid 0 15
  ·refine bg ?_;refine aC ?_;refine ah _ rfl (fun hc=>?_) (fun hc=>absurd hc bB5);refine run ?_;refine fin1 ?_;rw[hno (by rw[hmd,hb1];rfl)]
  rw[hb1] at hmd
  have hload:PtD.dD x.eu 0 ((P.pages.length:Int)-1)=true→nth (List.map Value.bool bs).toArray.toList x.eu.toNat=some (.bool (((P.gs i).maps.take k).any fun y=>decide (y.eu=x.eu))):=fun hb=>by
   simp only[PtD.dD,bH6,decide_eq_true_eq] at hb;have:=BI x.eu.toNat bB3;rw[show ((x.eu.toNat:Nat):Int)=x.eu by omega] at this;rw[←this,mZ];have hl:x.eu.toNat<bs.length:=by omega
   simp[bH9 hl]
  have hjA:PtD.oH (P.gs i).maps P.pages.length k=true→∀ j,j<k+1→PtD.oH (P.gs i).maps P.pages.length j=true:=fun h j hj=>by
   rcases bJ0.1 hj with hj | rfl
   ·exact hall j hj
   ·exact h
  have hjB:0≤x.eu→∀ f,f<P.pages.length→(bs.set x.eu.toNat true).getD f false=((P.gs i).maps.take (k+1)).any fun y=>decide (y.eu=(f:Int)):=fun h0 f hf=>by
   rw[bM5 hlt,bZ9,←BI f hf,bH8,bS9,←hxk];by_cases e:x.eu.toNat=f
   ·simp[e,show x.eu=(f:Int) by omega,hbs,hf]
   ·simp[e,show ¬ x.eu=(f:Int) by omega]
  rcases bU' k with hk0 | hk0
  ·have hk0':decide (0<(k:Int))=false:=by simp;omega
   refine bg ?_;simp only[hk0'];refine bg ?_;refine eX (fun h1 wc hG=>gB _ _ _ wc) ?_;cases hb2:PtD.dD x.eu 0 ((P.pages.length:Int)-1)
   ·refine bg ?_;refine aC ?_;refine ah _ rfl (fun hc=>?_) (fun hc=>absurd hc bB5);refine run ?_;refine fin1 ?_;rw[hno (by rw[hmd,hb2];simp)]
   have hb2':=hb2;simp only[PtD.dD,bH6,decide_eq_true_eq] at hb2';have hs:=hload hb2;refine bg ?_;refine aC ?_;refine ah _ rfl (fun hc=>?_) (fun hc=>?_)
   ·refine run ?_;refine fin1 ?_;rw[hno bF9]
   ·refine run ?_;rw[←bN8];refine aF (k+1,bs.set x.eu.toNat true) ⟨by omega,by simpa using hbs,hjA (by rw[hmd,hb2,show decide (k=0)=true by simpa using hk0];simp at hc;simpa using hc),hjB bB3⟩
  have ao5:=LY hrow hlt hk0;have hk0':decide (0<(k:Int))=true:=by simp;omega
  refine bg ?_;simp only[hk0'];cases hc2:decide (x.mid≤((P.gs i).maps.getD (k-1) default).mid)
  ·refine eX (fun h1 wc hG=>gB _ _ _ wc) ?_;cases hb2:PtD.dD x.eu 0 ((P.pages.length:Int)-1)
   ·refine bg ?_;refine aC ?_;refine ah _ rfl (fun hc=>?_) (fun hc=>absurd hc bB5);refine run ?_;refine fin1 ?_;rw[hno (by rw[hmd,hb2];simp)]
   have hb2':=hb2;simp only[PtD.dD,bH6,decide_eq_true_eq] at hb2';have hs:=hload hb2;refine bg ?_;refine aC ?_;refine ah _ rfl (fun hc=>?_) (fun hc=>?_)
   ·refine run ?_;refine fin1 ?_;rw[hno bF9]
   ·refine run ?_;rw[←bN8];refine aF (k+1,bs.set x.eu.toNat true) ⟨by omega,by simpa using hbs,hjA (by rw[hmd,hb2,show decide (((P.gs i).maps.getD (k-1) default).mid<x.mid)=true by simp at hc2 ⊢;omega];simp at hc;simpa using hc),hjB bB3⟩
  ·refine bg ?_;refine aC ?_;refine ah _ rfl (fun hc=>?_) (fun hc=>absurd hc bB5);refine run ?_;refine fin1 ?_;rw[hno (by rw[hmd,show decide (((P.gs i).maps.getD (k-1) default).mid<x.mid)=false by simp at hc2 ⊢;omega,show decide (k=0)=false by simp;omega];simp)]
 ·have hge:k=(P.gs i).maps.length:=by simp at hc;omega
  subst hge;rw[bN4] at BI
  have ao6:P.mapped i=allB P.pages.length fun f=>(bs.getD f false) == P.uses ((i:Int)+1) f:=by
   unfold PtD.mapped;rw[show allB (P.gs i).maps.length (PtD.oH (P.gs i).maps P.pages.length)=true from aJ.2 hall,bI6];rw[bI2,aJ,aJ];exact⟨fun h f hf=>by rw[BI f hf];exact h f hf,fun h f hf=>by rw[←BI f hf];exact h f hf⟩
  refine run ?_;refine aK (σ:=Nat) (fun k=>[(76,.int .i64 (k:Int))]) (fun _=>[⟨b,(bs.map Value.bool).toArray,4⟩]) (fun k=>k≤P.pages.length∧∀ j,j<k→(bs.getD j false == P.uses ((i:Int)+1) j)=true) (fun k=>P.pages.length-k) 0 ⟨by omega,fun j hj=>absurd hj bB3⟩ ?_;rintro k m2 hm2 ⟨hk2,uu⟩;refine run ?_;refine ah _ rfl (fun hc=>?_) (fun hc=>?_)
  ·have hlt:k<P.pages.length:=by simp at hc;omega
   have hs:nth (List.map Value.bool bs).toArray.toList k=some (.bool (bs.getD k false)):=by
    rw[mZ];have hl:k<bs.length:=by omega
    simp[bH9 hl]
   refine run ?_;refine az (fun wc hG=>az4 (h.good hG) k hlt n) ?_;refine run ?_;rw[hn];refine ah _ rfl (fun hc3=>?_) (fun hc3=>?_)
   ·refine run ?_;refine fin1 ?_
    rw[ao6,show (allB P.pages.length fun f=>(bs.getD f false) == P.uses ((i:Int)+1) f)=false by
     rw[←bL8,aJ];intro ha;have:=ha k hlt;rw[beq_iff_eq] at this;rw[this] at hc3;simp at hc3]
   ·refine run ?_;refine aF (k+1) ⟨by omega,fun j hj=>?_⟩;rcases bJ0.1 hj with hj | rfl
    ·exact uu j hj
    ·simpa [bne] using hc3
  ·have hge:k=P.pages.length:=by simp at hc;omega
   subst hge;refine run ?_;refine fin1 ?_;rw[ao6,aJ.2 uu]
end
end
section
attribute [local irreducible] Hy St Ops DH dH
section
variable {w : World} {bp : Nat} {L : JS} {P : PtD}
theorem TZ(h:rC w bp L P)(i:Nat)(hi:i<P.ay.length)(n:Int)(hn:n=(i:Int)+1):Fn Tryz.prog 198 [.pointer (some ⟨bp,0,none⟩),.int .i64 n].toArray w [] (fun u _=>u=.bool (P.lD i)):=by
 have hp:=h.cp;have ho:=h.co;have hp0:=h.n.p0;have hp1:=h.n.p1;have ho1:=h.n.o1;obtain⟨q,cap,hmv,hne,hle⟩:=(h.v.mp i hi).opened;obtain⟨q2,cap2,hvv,hne2,hle2⟩:=(h.v.vc i hi).opened;obtain⟨⟨hf0,hf1⟩,_,_⟩:=h.v.wf.gs i hi;have hg0:=h.v.gs0 hi;have hg1:=h.v.gs1 hi;have hg2:=h.v.gs2 hi;have hg3:=h.v.gs3 hi;have hg4:=h.v.gs4 hi;rw[hmv] at hg4;rw[hvv] at hg3;have hrow:=h.v.vc i hi;rw[hvv] at hrow;refine enter Tryz.func198 ?_;refine run ?_;refine az (fun wc hG=>tV (h.good hG) i hi n hn) ?_;refine run ?_;refine ah _ rfl (fun hl=>?_) (fun hl=>?_)
 ·simp only[bJ6] at hl;refine run ?_;refine gU 34 ?_;refine bg ?_;refine eX (fun h1 wc hG=>az5 (h.good hG) n) ?_;refine bg ?_;refine aC ?_;refine fin1 ?_;rw[hn];simp only[PtD.lD,hl,cond_false];by_cases hf:(P.gs i).first=0
  ·have hw:IntKind.i64.wrap ((((P.gs i).aQ.length:Nat):Int)+(((P.gs i).maps.length:Nat):Int)+0)=(((P.gs i).aQ.length:Nat):Int)+(((P.gs i).maps.length:Nat):Int)+0:=wrap_in bB3 bB3;rw[hf,hw]
   have e:decide ((((P.gs i).aQ.length:Nat):Int)+(((P.gs i).maps.length:Nat):Int)+0=0)=(decide ((P.gs i).aQ.length=0)&&decide ((P.gs i).maps.length=0)):=by
    rw[bI2];simp only[bH6,decide_eq_true_eq];omega
   rw[e]
  ·simp[hf]
 ·simp only[bK6] at hl;refine run ?_;refine dA ?_;refine bg ?_;refine eX (fun h1 wc hG=>gB _ _ _ wc) ?_;refine bg ?_;refine eX (fun h1 wc hG=>XU (h.good hG) i hi n hn) ?_;refine bg ?_;refine aC ?_;have hgd:P.lD i=(!(P.gs i).dying&&PtD.dD (P.gs i).first 16 ((P.pages.length:Int)-5)&&decide ((P.gs i).aQ.length≤2)&&P.mapped i&&allB 5 (fun k=>decide ((P.pg ((P.gs i).first.toNat+k)).own= -1)&&decide ((P.pg ((P.gs i).first.toNat+k)).wit= -2))&&allB (P.gs i).aQ.length (P.nC i)):=by simp only[PtD.lD,hl,cond_true]
  refine ah _ rfl (fun hc=>?_) (fun hc=>?_)
  ·refine run ?_;refine fin1 ?_;rw[hgd];have e:decide ((P.gs i).aQ.length≤2)=!decide ((2:Int)<((P.gs i).aQ.length:Nat)):=by rw[bI2];simp;omega
   rw[e];revert hc;cases (P.gs i).dying<;>cases PtD.dD (P.gs i).first 16 ((P.pages.length:Int)-5)<;>cases decide ((2:Int)<((P.gs i).aQ.length:Nat))<;>cases P.mapped i<;>simp
  simp only[bK9,bK6,decide_eq_false_iff_not] at hc;obtain⟨⟨⟨hdy,hbt⟩,hv2⟩,hmp⟩:=hc;have aX4:=hbt;simp only[PtD.dD,bH6,decide_eq_true_eq] at aX4;rw[hdy,hbt,hmp,show decide ((P.gs i).aQ.length≤2)=true by simp;omega] at hgd;simp only[bL1,bI6] at hgd;refine run ?_;refine bH (fun wc hG=>LX _ _ (P.gs i).first bB3 bB3 wc (hG.cell hg2 bB5)) (fun v hn hA=>?_);obtain⟨T,tc,cur,rfl,rfl,KE⟩:=hA.open bB5;simp only[bI0,bI3,bH7,bL6,bS0,bK2,Nat.reduceAdd];refine run ?_;refine aK (σ:=Nat) (fun k=>[(88,.int .i64 (k:Int))]) (fun _=>[⟨T,cur,3⟩]) (fun k=>k≤5∧∀ j,j<k→(decide ((P.pg ((P.gs i).first.toNat+j)).own= -1)&&decide ((P.pg ((P.gs i).first.toNat+j)).wit= -2))=true) (fun k=>5-k) 0 ⟨by omega,fun j hj=>absurd hj bB3⟩ ?_;rintro k m hm ⟨hk,hall⟩;refine run ?_;refine ah _ rfl (fun hc=>?_) (fun hc=>?_)
  ·have hlt:k<5:=by simp at hc;omega
   have hx:nth cur.toList k=some (.int .i64 ((P.gs i).first+(k:Int))):=by
    have h1:([(P.gs i).first,(P.gs i).first+1,(P.gs i).first+2,(P.gs i).first+3,(P.gs i).first+4].map bY)[k]?=some (bY ((P.gs i).first+(k:Int))):=by
     have:k=0∨k=1∨k=2∨k=3∨k=4:=by omega
     rcases this with rfl | rfl | rfl | rfl | rfl<;>simp
    have:=xw (k:=0) (KE k _ h1) rfl;simpa using this
   have hr:=h.v.pg ((P.gs i).first.toNat+k) bB3;rw[show (P.gs i).first.toNat+k=((P.gs i).first+(k:Int)).toNat by omega] at hr;refine run ?_;refine dA ?_;refine dI ?_;refine fB (fun wc hG=>OQ wc) ?_;refine dI ?_;refine run ?_;rw[show ((P.gs i).first+(k:Int)).toNat=(P.gs i).first.toNat+k by omega];refine ah _ rfl (fun hc=>?_) (fun hc=>?_)
   ·refine run ?_;refine fin1 ?_;rw[hgd]
    rw[show allB 5 (fun k=>decide ((P.pg ((P.gs i).first.toNat+k)).own= -1)&&decide ((P.pg ((P.gs i).first.toNat+k)).wit= -2))=false by
     rw[←bL8,aJ];intro ha;have:=ha k hlt;simp[aW,iF] at hc this;simp[this] at hc]
    rfl
   ·refine run ?_;refine aF (k+1) ⟨by omega,fun j hj=>?_⟩;rcases bJ0.1 hj with hj | rfl
    ·exact hall j hj
    ·simpa [aW,iF] using hc
  ·have hge:k=5:=by simp at hc;omega
   subst hge;rw[show allB 5 (fun k=>decide ((P.pg ((P.gs i).first.toNat+k)).own= -1)&&decide ((P.pg ((P.gs i).first.toNat+k)).wit= -2))=true from aJ.2 hall,bI6] at hgd;refine run ?_;refine aK (σ:=Nat) (fun k=>[(108,.int .i64 (k:Int))]) (fun _=>[]) (fun k=>k≤(P.gs i).aQ.length∧∀ j,j<k→P.nC i j=true) (fun k=>(P.gs i).aQ.length-k) 0 ⟨by omega,fun j hj=>absurd hj bB3⟩ ?_;rintro k m hm ⟨hk,uu⟩;refine run ?_;refine ah _ rfl (fun hc=>?_) (fun hc=>?_)
   ·have hlt:k<(P.gs i).aQ.length:=by simp at hc;omega
    obtain⟨b2,o2,rfl⟩:=hne2 bC';have hx:=aj (hrow.row hlt);rw[bK3] at hx;have hva:P.nC i k=(decide ((P.gs i).aQ.getD k 0= -1)||(PtD.dD ((P.gs i).aQ.getD k 0) 0 ((P.on.length:Int)-1)&&(decide ((P.st ((P.gs i).aQ.getD k 0).toNat).vm=(i:Int)+1)&&decide ((P.st ((P.gs i).aQ.getD k 0).toNat).cpu=(k:Int))))):=rfl;rw[show (default:Int)=0 from rfl] at hx;generalize (P.gs i).aQ.getD k 0=x at hx hva
    have hno:P.nC i k=false→P.lD i=false:=fun h=>by
     rw[hgd,←bL8,aJ];intro ha;rw[ha k hlt] at h;cases h
    have hyes:P.nC i k=true→∀ j,j<k+1→P.nC i j=true:=fun h j hj=>by
     rcases bJ0.1 hj with hj | rfl
     ·exact uu j hj
     ·exact h
    refine run ?_;cases hd:decide (x= -1)
    ·refine aC ?_;refine bG (fun h1 wc hG=>gB _ _ _ wc) ?_;cases hb:PtD.dD x 0 ((P.on.length:Int)-1)
     ·refine aC ?_;refine ah _ rfl (fun hc=>?_) (fun hc=>absurd hc bB5);refine run ?_;refine fin1 ?_;rw[hno (by rw[hva,hd,hb];rfl)]
     ·have hb':=hb;simp only[PtD.dD,bH6,decide_eq_true_eq] at hb';have hr:=h.v.st x.toNat bB3;refine aC ?_;refine ah _ rfl (fun hc=>?_) (fun hc=>?_)
      ·refine run ?_;refine fin1 ?_;rw[hno (by rw[hva,hd,hb];rw[hn] at hc;simp[aW,iF] at hc;simp;intro h1 h2;rcases hc with hc | hc<;>contradiction)]
      ·refine run ?_;refine aF (k+1) ⟨by omega,hyes (by rw[hva,hd,hb];rw[hn] at hc;simpa [aW,iF] using hc)⟩
    ·refine aC ?_;refine ah _ rfl (fun hc=>absurd hc bB5) (fun hc=>?_);refine run ?_;refine aF (k+1) ⟨by omega,hyes (by rw[hva,hd];rfl)⟩
   ·have hge:k=(P.gs i).aQ.length:=by simp at hc;omega
    subst hge;rw[aJ.2 uu] at hgd;refine run ?_;refine fin1 ?_;rw[hgd]
end
end
section
attribute [local irreducible] Hy St Ops DH dH
theorem aI.af0{r:Hp}:∀ {h h':Hp},h.Perm h'→aI r h→aI r h':=by
 cases r with
 | nil=>intros;trivial
 | cons e r=>
  rintro h h' hp ⟨x,h1,h2⟩;exact⟨x,h1.trans hp,h2⟩
theorem XV(hlt:k<5):([f,f+1,f+2,f+3,f+4].map bY)[k]?=some (bY (f+(k:Int))):=by
 have:k=0∨k=1∨k=2∨k=3∨k=4:=by omega
 rcases this with rfl | rfl | rfl | rfl | rfl<;>simp
theorem aM2{pv gv ov:Value}{P:PtD}{bp:Nat}(h:dO w pv gv ov P)(c0:w.cell? ⟨bp,0,none⟩=some pv)(c1:w.cell? ⟨bp,1,none⟩=some gv)(c2:w.cell? ⟨bp,2,none⟩=some ov):
  Fn Tryz.prog 120 [.pointer (some ⟨bp,0,none⟩)].toArray w [] (fun u _=>u=.bool P.may):=by
 obtain⟨p,pc,e1,_,hle1⟩:=h.pages.opened;obtain⟨o,oc,e3,_,hle3⟩:=h.on.opened
 obtain⟨g,gc,e2,hle2⟩:∃ g gc,gv=.slice g P.ay.length gc∧P.ay.length≤281474976710656:=by
  obtain⟨vv,mv,⟨⟨g,gc,e,_⟩,hl⟩,_⟩:=h.ay;simp only[bH7,bO0] at e hl;exact⟨g,gc,e,hl⟩
 have c0':=c0;have c1':=c1;have c2':=c2;rw[e1] at c0';rw[e2] at c1';rw[e3] at c2';refine enter Tryz.func120 ?_;refine run ?_;refine az (fun wc hG=>gB _ _ _ wc) ?_;refine aC ?_;refine bG (fun h1 wc hG=>gB _ _ _ wc) ?_;refine aC ?_
 have hlen:(!(PtD.dD (P.pages.length:Int) 24 64)||!decide ((P.ay.length:Int)=4)||!(PtD.dD (P.on.length:Int) 1 3))=false→P.Len:=fun h=>by
  simp only[bK9,bK6,PtD.dD,bH6,decide_eq_true_eq] at h;exact⟨by omega,by omega,by omega,by omega,by omega⟩
 refine ah _ rfl (fun hc=>?_) (fun hc=>?_)
 ·refine run ?_;refine fin1 ?_
  have:P.may=false:=by
   rw[←bL8];intro hm;simp only[PtD.may,bH6,decide_eq_true_eq] at hm;obtain⟨⟨⟨⟨⟨a,b⟩,c,d⟩,_⟩,_⟩,_⟩:=hm;simp only[PtD.dD,bJ7,bJ6,bN7,decide_eq_false_iff_not,bQ'] at hc;omega
  rw[this]
 have hn:=hlen (by simpa using hc);obtain⟨L,rfl,rfl,rfl,hv⟩:=h.open hn;have hQ:rC w bp L P:=⟨hv,hn,c0,c1,c2⟩
 cases e1;cases e2;cases e3
 have hmay:P.may=(allB 4 P.round&&allB P.pages.length (P.oG (P.taken 4))&&allB P.on.length P.seated):=by
  obtain⟨a,b,c,d,e⟩:=hn;simp only[PtD.may,a,b,c,d,e,decide_true,bQ9,bI6]
 have h4:=hn.g4;refine run ?_;refine aK (σ:=Nat×Value×Hp) (fun s=>[(3,s.2.1),(37,.int .i64 (s.1:Int))]) (fun s=>s.2.2) (fun s=>s.1≤5∧(∀ j,j<s.1-1→P.round j=true)∧Acc 3 1 s.2.1 s.2.2 ((P.taken (s.1-1)).map bY)) (fun s=>5-s.1) (0,_,[]) ⟨by omega,fun j hj=>absurd hj bB3,Acc.nil _ _⟩ ?_;rintro⟨k,tv,ha⟩ m hm ⟨hk,hall,hA⟩;dsimp only at hm hk hall hA ⊢;refine run ?_;refine ah _ rfl (fun hc=>?_) (fun hc=>?_)
 ·have hlt:k<5:=by simp at hc;omega
  refine run ?_;refine ah _ rfl (fun hc=>?_) (fun hc=>?_)
  ·have hk0:k=0:=by simp at hc;omega
   subst hk0;refine run ?_;refine aF (1,tv,ha) ⟨by omega,fun j hj=>absurd hj bB5,hA⟩
  have hk0:0<k:=by simp at hc;omega
  obtain⟨i,rfl⟩:∃ i,k=i+1:=⟨k-1,by omega⟩
  rw[bV0] at hall hA
  have hno:P.round i=false→allB 4 P.round=false:=fun h=>by
   rw[←bL8,aJ];intro ha;rw[ha i bB3] at h;cases h
  have hyes:P.round i=true→∀ j,j<i+1→P.round j=true:=fun h j hj=>by
   rcases bJ0.1 hj with hj | rfl
   ·exact hall j hj
   ·exact h
  refine run ?_;refine az (fun wc hG=>TZ (hQ.good hG) i bB3 ((i+1:Nat):Int) bB3) ?_;refine run ?_;refine ah _ rfl (fun hc=>?_) (fun hc=>?_)
  ·refine run ?_;refine fin1 ?_;simp only[bJ6] at hc;rw[hmay,hno (by rw[PtD.round,hc];rfl)];rfl
  simp only[bK6] at hc;have hg0:=hv.gs0 (i:=i) bB3;refine run ?_;refine az (fun wc hG=>tV (hQ.good hG) i bB3 ((i+1:Nat):Int) bB3) ?_;refine run ?_;refine ah _ rfl (fun hl=>?_) (fun hl=>?_)
  ·have hf:16≤(P.gs i).first∧(P.gs i).first≤(P.pages.length:Int)-5:=by
    have:=hc;simp only[PtD.lD,hl,cond_true,PtD.dD,bH6,decide_eq_true_eq] at this;exact this.1.1.1.1.2
   have hp1:=hn.p1;have hrow:P.rows i=[(P.gs i).first,(P.gs i).first+1,(P.gs i).first+2,(P.gs i).first+3,(P.gs i).first+4]:=by rw[PtD.rows,hl];rfl
   have hrd:P.round i=allB 5 fun k=>!((P.taken i).any fun t=>decide (t=(P.gs i).first+(k:Int))):=by rw[PtD.round,hc,hl];rfl
   refine run ?_;refine bH (fun wc hG=>LX _ _ (P.gs i).first bB3 bB3 wc (hG.cell (hv.gs2 (i:=i) bB3) bB5)) (fun v hn hA2=>?_);obtain⟨T,tc,cur,rfl,rfl,KE⟩:=hA2.open bB5;simp only[bI0,bI3,bH7,bL6,bS0,bK2,Nat.reduceAdd];refine run ?_;refine aK (σ:=Nat×Value×Hp) (fun s=>[(3,s.2.1),(56,.int .i64 (s.1:Int))]) (fun s=>⟨T,cur,3⟩::s.2.2) (fun s=>s.1≤5∧(∀ j,j<s.1→((P.taken i).any fun t=>decide (t=(P.gs i).first+(j:Int)))=false)∧Acc 3 1 s.2.1 s.2.2 ((P.taken i++(List.range s.1).map fun (j:Nat)=>(P.gs i).first+(j:Int)).map bY)) (fun s=>5-s.1) (0,tv,ha) ⟨by omega,fun j hj=>absurd hj bB5,by simpa using hA⟩ ?_;rintro⟨k2,tv2,ha2⟩ m2 hm2 ⟨hk2,uu,hA3⟩;dsimp only at hm2 hk2 uu hA3 ⊢
   have hlen3:((P.taken i++(List.range k2).map fun (j:Nat)=>(P.gs i).first+(j:Int)).map bY).length≤1000:=by
    have hl:∀ m,m≤4→(P.taken m).length≤m*5:=by
     intro m
     induction m with
     | zero=>intro _;simp[PtD.taken]
     | succ m ih=>
      intro hm;have:=ih bB3;rw[PtD.taken,bO5,bX9,bJ9]
      have e:(List.flatMap P.rows [m]).length≤5:=by
       simp only[List.flatMap_cons,List.flatMap_nil,bI',PtD.rows];cases (P.gs m).live<;>simp
      unfold PtD.taken at this;omega
    have:=hl i bB3;simp only[bH7,bJ9,bO0];omega
   refine run ?_;refine ah _ rfl (fun hc=>?_) (fun hc=>?_)
   ·have hlt2:k2<5:=by simp at hc;omega
    have hx:nth cur.toList k2=some (.int .i64 ((P.gs i).first+(k2:Int))):=by
     have:=xw (k:=0) (KE k2 _ (XV hlt2)) rfl;simpa using this
    refine run ?_;refine az (fun wc hG=>vF ((P.gs i).first+(k2:Int)) _ tv2 (hA3.aI8 hG (fun b hb=>bI5 _ hb) bB3)) ?_;refine run ?_
    have hany:((P.taken i++(List.range k2).map fun (j:Nat)=>(P.gs i).first+(j:Int)).any fun t=>decide (t=(P.gs i).first+(k2:Int)))=(P.taken i).any fun t=>decide (t=(P.gs i).first+(k2:Int)):=by
     rw[bZ9]
     have:((List.range k2).map fun (j:Nat)=>(P.gs i).first+(j:Int)).any (fun t=>decide (t=(P.gs i).first+(k2:Int)))=false:=by
      rw[bS8];intro x hx;obtain⟨j,hj,rfl⟩:=bI7.1 hx;have:=bJ1.1 hj;simp;omega
     rw[this,bU3]
    rw[hany];refine ah _ rfl (fun hc=>?_) (fun hc=>?_)
    ·refine run ?_;refine fin1 ?_;rw[hmay,hno (by rw[hrd,←bL8,aJ];intro h;have:=h k2 hlt2;rw[hc] at this;cases this)];rfl
    ·refine run ?_;intro X;refine dK (c:=bY ((P.gs i).first+(k2:Int))) hA3 (fun v' ha' hA'=>?_) bB3 (aY (m:=1) mh rfl) (hperm:=bJ5 (l₂:=[_,_]));refine run ?_;refine aF (k2+1,v',ha') ⟨by omega,fun j hj=>?_,?_⟩ (h2:=aI.af0 (bJ5 (l₁:=[_,_])) ⟨_,p1,aI.skip (aI.refl _)⟩)
     ·rcases bJ0.1 hj with hj | rfl
      ·exact uu j hj
      ·exact hc
     ·simpa [bO5] using hA'
   ·have hk5:k2=5:=by simp at hc;omega
    subst hk5;refine run ?_;refine aF (i+2,tv2,ha2) ⟨by omega,hyes (by rw[hrd,aJ];intro j hj;rw[uu j hj];rfl),?_⟩
    have:P.taken (i+2-1)=P.taken i++(List.range 5).map fun (j:Nat)=>(P.gs i).first+(j:Int):=by
     show P.taken (i+1)=_;rw[PtD.taken,bO5,bX9];simp[hrow,PtD.taken,bO5]
    rw[this];exact hA3
  ·refine run ?_;refine aF (i+2,tv,ha) ⟨by omega,hyes (by rw[PtD.round,hc,hl];rfl),?_⟩
   have:P.taken (i+2-1)=P.taken i:=by
    show P.taken (i+1)=_;rw[PtD.taken,bO5,bX9];simp[PtD.rows,hl,PtD.taken]
   rw[this];exact hA
 ·have hk5:k=5:=by simp at hc;omega
  subst hk5;rw[show allB 4 P.round=true from aJ.2 hall,bI6] at hmay
  have hlA:((P.taken (5-1)).map bY).length≤281474976710656:=by
   rw[bH7]
   have hl:∀ m,(P.taken m).length≤m*5:=by
    intro m
    induction m with
    | zero=>simp[PtD.taken]
    | succ m ih=>
     rw[PtD.taken,bO5,bX9,bJ9]
     have e:(List.flatMap P.rows [m]).length≤5:=by
      simp only[List.flatMap_cons,List.flatMap_nil,bI',PtD.rows];cases (P.gs m).live<;>simp
     unfold PtD.taken at ih;omega
   have:=hl (5-1);omega
  refine run ?_;refine aK (σ:=Nat) (fun k=>[(75,.int .i64 (k:Int))]) (fun _=>ha) (fun k=>k≤P.pages.length∧∀ j,j<k→P.oG (P.taken 4) j=true) (fun k=>P.pages.length-k) 0 ⟨by omega,fun j hj=>absurd hj bB3⟩ ?_;rintro k m2 hm2 ⟨hk2,uu⟩;refine run ?_;refine ah _ rfl (fun hc=>?_) (fun hc=>?_)
  ·have hlt:k<P.pages.length:=by simp at hc;omega
   refine run ?_;refine az (fun wc hG=>ae' (hQ.good hG) k hlt (P.taken 4) tv (hA.aI8 hG (fun b hb=>hb) hlA)) ?_;refine run ?_;refine ah _ rfl (fun hc3=>?_) (fun hc3=>?_)
   ·refine run ?_;refine fin1 ?_
    rw[hmay,show allB P.pages.length (P.oG (P.taken 4))=false by
     rw[←bL8,aJ];intro h;rw[h k hlt] at hc3;simp at hc3]
    rfl
   ·refine run ?_;refine aF (k+1) ⟨by omega,fun j hj=>?_⟩;rcases bJ0.1 hj with hj | rfl
    ·exact uu j hj
    ·simpa using hc3
  have hge:k=P.pages.length:=by simp at hc;omega
  subst hge;rw[show allB P.pages.length (P.oG (P.taken 4))=true from aJ.2 uu,bI6] at hmay;refine run ?_;refine aK (σ:=Nat) (fun k=>[(90,.int .i64 (k:Int))]) (fun _=>[]) (fun k=>k≤P.on.length∧∀ j,j<k→P.seated j=true) (fun k=>P.on.length-k) 0 ⟨by omega,fun j hj=>absurd hj bB3⟩ ?_;rintro k m3 Q3 ⟨hk3,ao7⟩;refine run ?_;refine ah _ rfl (fun hc=>?_) (fun hc=>?_)
  ·have hlt:k<P.on.length:=by simp at hc;omega
   refine run ?_;refine az (fun wc hG=>XR (hQ.good hG) k hlt) ?_;refine run ?_;refine ah _ rfl (fun hc3=>?_) (fun hc3=>?_)
   ·refine run ?_;refine fin1 ?_
    rw[hmay,show allB P.on.length P.seated=false by
     rw[←bL8,aJ];intro h;rw[h k hlt] at hc3;simp at hc3]
   ·refine run ?_;refine aF (k+1) ⟨by omega,fun j hj=>?_⟩;rcases bJ0.1 hj with hj | rfl
    ·exact ao7 j hj
    ·simpa using hc3
  have hge:k=P.on.length:=by simp at hc;omega
  subst hge;refine run ?_;refine fin1 ?_;rw[hmay,aJ.2 ao7]
end
section
attribute [local irreducible] Hy St Ops DH dH
section
variable {w : World} {pv gv ov : Value} {P : PtD}
theorem LZ{w0 w:World}{mu:List Nat}{hp:Hp}(hG:Good w0 mu hp w){t:Nat}{x y z:Value}(hm:(⟨b,#[x,y,z],t⟩:mO)∈hp):w.cell? ⟨b,0,none⟩=some x∧w.cell? ⟨b,1,none⟩=some y∧w.cell? ⟨b,2,none⟩=some z:=by
 have h:=hG.here _ hm;refine⟨?_,?_,?_⟩<;>(rw[cell_of_block h];rfl)
theorem wK(h:P.may=true):P.Len:=by
 simp only[PtD.may,bH6,decide_eq_true_eq] at h;exact⟨by omega,by omega,by omega,by omega,by omega⟩
theorem XW(h:dO w pv gv ov P){w':World}{hp:Hp}(hG:Good w [] hp w'){t:Nat}(hm:(⟨b,#[pv,gv,ov],t⟩:mO)∈hp):Fn Tryz.prog 120 [.pointer (some ⟨b,0,none⟩)].toArray w' [] (fun u _=>u=.bool P.may):=by
 obtain⟨a,b,c⟩:=LZ hG hm;exact aM2 (h.good hG) a b c
end
end
section
attribute [local irreducible] Hy St Ops DH dH
theorem ao8(n:Int)(w:World):Fn Tryz.prog 45 [.int .i64 n].toArray w [] (fun u _=>u=.bool (PtD.who n)):=by
 refine enter Tryz.func45 ?_;refine aC ?_;exact fin1 rfl
theorem Jl(n m:Int)(w:World):Fn Tryz.prog 96 [.int .i64 n,.int .i64 m].toArray w [] (fun u _=>u=.bool (decide (0≤n)&&decide (n≤m))):=by
 refine enter Tryz.func96 ?_;refine aC ?_;exact fin1 rfl
theorem AP(xs:List jQ)(v:Value)(w:World)(h:aA w v 2 (xs.map eF))(f:Int):Fn Tryz.prog 103 [v,.int .i64 f].toArray w [] (fun u _=>u=.int .i64 (PtD.lF xs f)):=by
 obtain⟨q,cap,rfl,hne,hle⟩:=h.opened;refine enter Tryz.func103 ?_;refine run ?_;refine aK (σ:=Nat) (fun k=>[(5,.int .i64 (k:Int))]) (fun _=>[]) (fun k=>k≤xs.length∧∀ j,j<k→decide ((xs.getD j default).eu=f)=false) (fun k=>xs.length-k) 0 ⟨bI1 _,fun j hj=>absurd hj bB3⟩ ?_;rintro k m hm ⟨hk,hno⟩;refine run ?_;refine ah _ rfl (fun hc=>?_) (fun hc=>?_)
 ·have hlt:k<xs.length:=by simp at hc;omega
  obtain⟨b,o,rfl⟩:=hne bB7;have h1:=cO (k:=1) (h.row hlt) rfl;refine run ?_;refine ah _ rfl (fun hp=>?_) (fun hp=>?_)
  ·refine run ?_;refine fin1 ?_;simp only[PtD.lF,(PtD.DY (p:=fun m=>decide (m.eu=f)) hlt hp).2 hno]
  ·refine run ?_;refine aF (k+1) ⟨hlt,fun j hj=>?_⟩;rcases bJ0.1 hj with hj | rfl
   ·exact hno j hj
   ·exact hp
 ·have hge:k=xs.length:=by simp at hc;omega
  subst hge;refine run ?_;refine fin1 ?_;unfold PtD.lF;rw[D7 (p:=fun (m:jQ)=>decide (m.eu=f)) hno]
section
variable {w : World} {L : JS} {P : PtD}
theorem L6(h:jl w L P)(n m:Nat)(vm:Int)(hvm:I64 vm):Fn Tryz.prog 47 [.agg #[L.pv n,L.gv P.ay.length,L.ov m],.int .i64 vm].toArray w [] (fun u _=>u=.bool (P.pR vm)):=by
 obtain⟨hv0,hv1⟩:=hvm;refine enter Tryz.func47 ?_;refine run ?_;intro B;by_cases hin:1≤vm∧vm≤P.ay.length
 ·have h0:=h.gs0 (i:=(vm-1).toNat) bB3;refine aC ?_;refine fin1 ?_;simp only[PtD.pR]
 ·have hf:(decide (1≤vm)&&decide (vm≤(P.ay.length:Int)))=false:=by
   rw[←bL8];intro h;simp at h;exact hin h
  refine aC ?_;rw[hf];refine aC ?_;refine fin1 ?_;rw[PtD.pR,hf];rfl
theorem G6(h:jl w L P)(n m:Nat)(hn:P.ay.length≤1000)(f:Int)(hf:I64 f):Fn Tryz.prog 46 [.agg #[L.pv n,L.gv P.ay.length,L.ov m],.int .i64 f].toArray w [] (fun u _=>u=.int .i64 (P.jF f)):=by
 obtain⟨hv0,hv1⟩:=hf;refine enter Tryz.func46 ?_;refine run ?_;intro B;refine run ?_;refine aK (σ:=Nat) (fun k=>[(5,.int .i64 (k:Int))]) (fun _=>[⟨B,#[L.pv n,L.gv P.ay.length,L.ov m],48⟩]) (fun k=>k≤P.ay.length∧∀ j,j<k→PtD.within f (P.gs j)=false) (fun k=>P.ay.length-k) 0 ⟨bI1 _,fun j hj=>absurd hj bB3⟩ ?_;rintro k m hm ⟨hk,hno⟩;refine run ?_;refine ah _ rfl (fun hc=>?_) (fun hc=>?_)
 ·have hlt:k<P.ay.length:=by simp at hc;omega
  have hr:=h.gs k hlt;obtain⟨q,cap,hmv,_⟩:=(h.mp k hlt).opened;obtain⟨q2,cap2,hvv,_⟩:=(h.vc k hlt).opened;rw[hmv,hvv] at hr;refine run ?_;intro G;refine aC ?_;have hw:((P.gs k).live&&decide ((P.gs k).first≤f)&&decide (IntKind.i64.wrap (f-(P.gs k).first)<5))=PtD.within f (P.gs k):=rfl;refine ah _ rfl (fun hp=>?_) (fun hp=>?_)
  ·refine run ?_;refine fin1 ?_;unfold PtD.jF;rw[(PtD.DY (p:=PtD.within f) hlt hp).2 hno];simp
  ·refine run ?_;refine aF (k+1) ⟨hlt,fun j hj=>?_⟩;rcases bJ0.1 hj with hj | rfl
   ·exact hno j hj
   ·exact hp
 ·have hge:k=P.ay.length:=by simp at hc;omega
  subst hge;refine run ?_;refine fin1 ?_;unfold PtD.jF;rw[D7 (p:=PtD.within f) hno]
end
end
section
attribute [local irreducible] Hy St Ops DH dH
section
variable {w : World} {L : JS} {P : PtD}
set_option maxHeartbeats 4000000 in
theorem Pg(h:jl w L P)(hn:P.Len)(i:Nat)(hi:i<P.ay.length)(vm:Int)(hvm:vm=(i:Int)+1):Fn Tryz.prog 48 [.agg #[L.pv P.pages.length,L.gv P.ay.length,L.ov P.on.length],.int .i64 vm].toArray w [] (fun u _=>u=.bool (P.oM i)):=by
 obtain⟨np0,np1,ng4,no0,no1⟩:=hn;have hr:=h.gs i hi;obtain⟨q,cap,hmv,hne,hle⟩:=(h.mp i hi).opened;obtain⟨q2,cap2,hvv,hne2,hle2⟩:=(h.vc i hi).opened;obtain⟨⟨hf0,hf1⟩,_,_⟩:=h.wf.gs i hi;have hrow:=h.vc i hi;have G7:=h.mp i hi;rw[hvv] at hrow;rw[hmv] at G7;rw[hmv,hvv] at hr;obtain rfl:vm=((i+1:Nat):Int):=by omega
 have hr':w.rangeAt L.gb (L.go+(((i+1:Nat):Int)-1).toNat*5) [.bool (P.gs i).live,.bool (P.gs i).dying,.int .i64 (P.gs i).first,.slice q2 (P.gs i).aQ.length cap2,.slice q (P.gs i).maps.length cap]:=by
  rw[show (((i+1:Nat):Int)-1).toNat=i by omega];exact hr
 refine enter Tryz.func48 ?_;refine run ?_;intro B G;refine run ?_;refine aK (σ:=Nat×Nat) (fun s=>[(6,.int .i64 (s.2:Int)),(7,.int .i64 (s.1:Int))]) (fun s=>[⟨G,#[.bool (P.gs i).live,.bool (P.gs i).dying,.int .i64 (P.gs i).first,.slice q2 (P.gs i).aQ.length cap2,.slice q (P.gs i).maps.length cap],100⟩,⟨B,#[L.pv P.pages.length,L.gv P.ay.length,L.ov P.on.length],48⟩]) (fun s=>s.1≤P.pages.length∧s.2≤s.1∧decide (0<s.2)=(P.pages.take s.1).any fun x=>decide (x.own=((i+1:Nat):Int))) (fun s=>P.pages.length-s.1) (0,0) ⟨by omega,by omega,by simp⟩ ?_;rintro⟨k,ow⟩ m hm ⟨hk,hok,how⟩;dsimp only at hm hk hok how ⊢;refine run ?_;refine ah _ rfl (fun hc=>?_) (fun hc=>?_)
 ·have hlt:k<P.pages.length:=by simp at hc;omega
  have h0:=h.pg0 hlt
  have htk:P.pages.take (k+1)=P.pages.take k++[P.pg k]:=by
   rw[bM5 hlt,PtD.pg,bH8,bH9 hlt];rfl
  refine run ?_;refine ah _ rfl (fun hp=>?_) (fun hp=>?_)
  ·refine run ?_;exact aF (k+1,ow+1) ⟨by dsimp only;omega,by dsimp only;omega,by dsimp only;rw[htk,bZ9,←how];simp at hp;simp[hp]⟩
  ·refine run ?_;exact aF (k+1,ow) ⟨by dsimp only;omega,by dsimp only;omega,by dsimp only;rw[htk,bZ9,←how];simp at hp;simp[hp]⟩
 have hge:k=P.pages.length:=by simp at hc;omega
 subst hge;rw[bN4] at how;have how':decide (0<ow)=P.owns ((i:Int)+1):=how;refine run ?_;refine ah _ rfl (fun hl=>?_) (fun hl=>?_)
 ·simp only[bJ6] at hl;refine aC ?_;refine fin1 ?_;simp only[PtD.oM,hl,cond_false,←how'];simp
 simp only[bK6] at hl
 have hone:P.oM i=(!((P.gs i).dying||decide ((P.gs i).first<16)||decide ((P.gs i).first > (P.pages.length:Int)-5)||decide ((P.gs i).aQ.length > 2)) &&
  allB 5 (fun k=>decide (P.jF ((P.gs i).first+k)=(i:Int)+1))&&allB (P.ay.length-(i+1)) (fun k=>P.pU i (i+1+k)) &&
  allB (P.gs i).aQ.length (P.yE i)&&allB (P.gs i).maps.length (PtD.II (P.gs i).maps P.pages.length)&&allB P.pages.length (P.IJ i)):=by simp only[PtD.oM,hl,cond_true]
 have hv2:decide ((P.gs i).aQ.length > 2)=decide ((2:Int)<((P.gs i).aQ.length:Nat)):=by rw[decide_eq_decide];omega
 rw[hv2] at hone;refine aC ?_;refine ah _ rfl (fun hc=>?_) (fun hc=>?_)
 ·refine run ?_;refine fin1 ?_;rw[hone,show ((P.gs i).dying||decide ((P.gs i).first<16)||decide ((P.gs i).first > (P.pages.length:Int)-5)||decide ((2:Int)<((P.gs i).aQ.length:Nat)))=true from hc];rfl
 rw[show ((P.gs i).dying||decide ((P.gs i).first<16)||decide ((P.gs i).first > (P.pages.length:Int)-5)||decide ((2:Int)<((P.gs i).aQ.length:Nat)))=false from hc] at hone;simp only[bL1,bI6] at hone;simp only[bK9,decide_eq_false_iff_not] at hc;obtain⟨⟨⟨hdy,hb1⟩,hb2⟩,hb3⟩:=hc
 have hno:∀ (n:Nat) (p:Nat→Bool) (k:Nat),k<n→p k=false→allB n p=false:=fun n p k hk h=>by
  rw[←bL8,aJ];intro ha;rw[ha k hk] at h;cases h
 have hyes:∀ (p:Nat→Bool) (k:Nat),(∀ j,j<k→p j=true)→p k=true→∀ j,j<k+1→p j=true:=fun p k h h2 j hj=>by
  rcases bJ0.1 hj with hj | rfl
  ·exact h j hj
  ·exact h2
 refine run ?_;refine aK (σ:=Nat) (fun k=>[(8,.int .i64 ((P.gs i).first+(k:Int)))]) (fun s=>[⟨G,#[.bool (P.gs i).live,.bool (P.gs i).dying,.int .i64 (P.gs i).first,.slice q2 (P.gs i).aQ.length cap2,.slice q (P.gs i).maps.length cap],100⟩,⟨B,#[L.pv P.pages.length,L.gv P.ay.length,L.ov P.on.length],48⟩]) (fun k=>k≤5∧∀ j,j<k→decide (P.jF ((P.gs i).first+(j:Int))=(i:Int)+1)=true) (fun k=>5-k) 0 ⟨by omega,fun j hj=>absurd hj bB3⟩ ?_ (hl:=by simp only[Int.natCast_zero,Int.add_zero];(repeat (first | exact True.intro | (refine And.intro bC1 ?_))));rintro k m hm ⟨hk,hall⟩;refine run ?_;refine ah _ rfl (fun hc=>?_) (fun hc=>?_)
 ·have hlt:k<5:=by simp at hc;omega
  refine run ?_;refine az (fun wc hG=>G6 (h.good hG) _ _ bB3 ((P.gs i).first+(k:Int)) ⟨by omega,by omega⟩) ?_;refine run ?_;refine ah _ rfl (fun hp=>?_) (fun hp=>?_)
  ·refine run ?_;refine fin1 ?_;rw[hone,hno 5 _ k hlt bE8];rfl
  ·refine run ?_;simp only[show (P.gs i).first+(k:Int)+1=(P.gs i).first+((k+1:Nat):Int) by omega];exact aF (k+1) ⟨by omega,hyes (fun j=>decide (P.jF ((P.gs i).first+(j:Int))=(i:Int)+1)) k hall bE8⟩
 have hge:k=5:=by simp at hc;omega
 subst hge;rw[show allB 5 (fun k=>decide (P.jF ((P.gs i).first+(k:Int))=(i:Int)+1))=true from aJ.2 hall,bI6] at hone;clear hall hm hk hc;refine run ?_;refine aK (σ:=Nat) (fun k=>[(9,.int .i64 ((i+1+k:Nat):Int))]) (fun s=>[⟨G,#[.bool (P.gs i).live,.bool (P.gs i).dying,.int .i64 (P.gs i).first,.slice q2 (P.gs i).aQ.length cap2,.slice q (P.gs i).maps.length cap],100⟩,⟨B,#[L.pv P.pages.length,L.gv P.ay.length,L.ov P.on.length],48⟩]) (fun k=>k≤P.ay.length-(i+1)∧∀ j,j<k→P.pU i (i+1+j)=true) (fun k=>P.ay.length-(i+1)-k) 0 ⟨by omega,fun j hj=>absurd hj bB3⟩ ?_;rintro k m hm ⟨hk,hall⟩;refine run ?_;refine ah _ rfl (fun hc=>?_) (fun hc=>?_)
 ·have hlt:i+1+k<P.ay.length:=by simp at hc;omega
  have hrj:=h.gs (i+1+k) hlt;obtain⟨qj,bn6,aX6,_⟩:=(h.mp (i+1+k) hlt).opened;obtain⟨qj2,bg8,aX7,_⟩:=(h.vc (i+1+k) hlt).opened;rw[aX6,aX7] at hrj;refine run ?_;intro O;refine aC ?_;refine ah _ rfl (fun hp=>?_) (fun hp=>?_)
  ·refine run ?_;refine fin1 ?_;rw[hone,hno _ _ k bB3 (by rw[PtD.pU,hp];rfl)];rfl
  ·refine run ?_;exact aF (k+1) ⟨by omega,hyes (fun j=>P.pU i (i+1+j)) k hall (by show P.pU i (i+1+k)=true;rw[PtD.pU,hp];rfl)⟩
 have hge:k=P.ay.length-(i+1):=by simp at hc;omega
 subst hge;rw[show allB (P.ay.length-(i+1)) (fun k=>P.pU i (i+1+k))=true from aJ.2 hall,bI6] at hone;clear hall hm hk hc;refine run ?_;refine aK (σ:=Nat) (fun k=>[(11,.int .i64 (k:Int))]) (fun s=>[⟨G,#[.bool (P.gs i).live,.bool (P.gs i).dying,.int .i64 (P.gs i).first,.slice q2 (P.gs i).aQ.length cap2,.slice q (P.gs i).maps.length cap],100⟩,⟨B,#[L.pv P.pages.length,L.gv P.ay.length,L.ov P.on.length],48⟩]) (fun k=>k≤(P.gs i).aQ.length∧∀ j,j<k→P.yE i j=true) (fun k=>(P.gs i).aQ.length-k) 0 ⟨by omega,fun j hj=>absurd hj bB3⟩ ?_;rintro k m hm ⟨hk,hall⟩;refine run ?_;refine ah _ rfl (fun hc=>?_) (fun hc=>?_)
 ·have hlt:k<(P.gs i).aQ.length:=by simp at hc;omega
  obtain⟨b2,o2,rfl⟩:=hne2 bC';have hx:=aj (hrow.row hlt);rw[bK3,show (default:Int)=0 from rfl] at hx;have hva:P.yE i k=!(decide ((P.gs i).aQ.getD k 0< -1)||decide ((P.gs i).aQ.getD k 0 ≥ P.on.length)||(decide ((P.gs i).aQ.getD k 0 ≥ 0)&&!(decide ((P.st ((P.gs i).aQ.getD k 0).toNat).vm=(i:Int)+1)&&decide ((P.st ((P.gs i).aQ.getD k 0).toNat).cpu=(k:Int))))):=rfl;generalize (P.gs i).aQ.getD k 0=x at hx hva;by_cases hin:0≤x∧x<P.on.length
  ·have hst:=h.st x.toNat bB3;refine aC ?_;refine ah _ rfl (fun hp=>?_) (fun hp=>?_)
   ·refine run ?_;refine fin1 ?_;rw[hone,hno _ _ k hlt (by rw[hva,bK6];simpa [aW,iF] using hp)];rfl
   ·refine run ?_;exact aF (k+1) ⟨by omega,hyes (P.yE i) k hall (by rw[hva,bJ6];simpa [aW,iF] using hp)⟩
  ·rcases (by omega:x< -1∨x= -1∨(P.on.length:Int)≤x) with h1 | h1 | h1
   ·have e1:decide (x< -1)=true:=by simpa using h1
    refine aC ?_;simp only[e1];refine aC ?_;refine ah _ rfl (fun hp=>?_) (fun hp=>absurd hp bB5);refine run ?_;refine fin1 ?_;rw[hone,hno _ _ k hlt (by rw[hva,e1];rfl)];rfl
   ·have e1:decide (x< -1)=false:=by simp;omega
    have e2:decide ((P.on.length:Int)≤x)=false:=by simp;omega
    have e3:decide (0≤x)=false:=by simp;omega
    refine aC ?_;simp only[e1,e2,e3];refine aC ?_;refine ah _ rfl (fun hp=>absurd hp bB5) (fun hp=>?_);refine run ?_;exact aF (k+1) ⟨by omega,hyes (P.yE i) k hall (by rw[hva,e1,show decide (x ≥ (P.on.length:Int))=false from e2,show decide (x ≥ 0)=false from e3];rfl)⟩
   ·have e1:decide (x< -1)=false:=by simp;omega
    have e2:decide ((P.on.length:Int)≤x)=true:=by simpa using h1
    refine aC ?_;simp only[e1,e2];refine aC ?_;refine ah _ rfl (fun hp=>?_) (fun hp=>absurd hp bB5);refine run ?_;refine fin1 ?_;rw[hone,hno _ _ k hlt (by rw[hva,e1,show decide (x ≥ (P.on.length:Int))=true from e2];rfl)];rfl
 have hge:k=(P.gs i).aQ.length:=by simp at hc;omega
 subst hge;rw[show allB (P.gs i).aQ.length (P.yE i)=true from aJ.2 hall,bI6] at hone;clear hall hm hk hc;refine run ?_;refine aK (σ:=Nat) (fun k=>[(13,.int .i64 (k:Int))]) (fun s=>[⟨G,#[.bool (P.gs i).live,.bool (P.gs i).dying,.int .i64 (P.gs i).first,.slice q2 (P.gs i).aQ.length cap2,.slice q (P.gs i).maps.length cap],100⟩,⟨B,#[L.pv P.pages.length,L.gv P.ay.length,L.ov P.on.length],48⟩]) (fun k=>k≤(P.gs i).maps.length∧∀ j,j<k→PtD.II (P.gs i).maps P.pages.length j=true) (fun k=>(P.gs i).maps.length-k) 0 ⟨by omega,fun j hj=>absurd hj bB3⟩ ?_;rintro k m hm ⟨hk,hall⟩;refine run ?_;refine ah _ rfl (fun hc=>?_) (fun hc=>?_)
 ·have hlt:k<(P.gs i).maps.length:=by simp at hc;omega
  obtain⟨b2,o2,rfl⟩:=hne bC';have hrm:=G7.row hlt;simp only[eF] at hrm;have hmd:PtD.II (P.gs i).maps P.pages.length k=!(!(decide (0≤((P.gs i).maps.getD k default).mid)&&decide (((P.gs i).maps.getD k default).mid≤15))||(decide (k > 0)&&decide (((P.gs i).maps.getD (k-1) default).mid ≥ ((P.gs i).maps.getD k default).mid))||!(decide (0≤((P.gs i).maps.getD k default).eu)&&decide (((P.gs i).maps.getD k default).eu≤(P.pages.length:Int)-1))||decide (PtD.lF (P.gs i).maps ((P.gs i).maps.getD k default).eu≠(k:Int))):=rfl;generalize (P.gs i).maps.getD k default=x at hrm hmd;refine run ?_;intro X;refine dA ?_;refine bg ?_;refine fB (fun wc hG=>Jl _ _ wc) ?_;cases hb1:(decide (0≤x.mid)&&decide (x.mid≤15))
  ·refine bg ?_;refine aC ?_;refine ah _ rfl (fun hc=>?_) (fun hc=>absurd hc bB5);refine run ?_;refine fin1 ?_;rw[hone,hno _ _ k hlt (by rw[hmd,hb1];rfl)];rfl
  rcases bU' k with hk0 | hk0
  ·have hk0':decide (0<(k:Int))=false:=by simp;omega
   refine bg ?_;simp only[hk0'];refine bg ?_;refine eX (fun h1 wc hG=>Jl _ _ wc) ?_;cases hb2:(decide (0≤x.eu)&&decide (x.eu≤(P.pages.length:Int)-1))
   ·refine bg ?_;refine aC ?_;refine ah _ rfl (fun hc=>?_) (fun hc=>absurd hc bB5);refine run ?_;refine fin1 ?_;rw[hone,hno _ _ k hlt (by rw[hmd,hb2];simp)];rfl
   refine bg ?_;refine eX (fun h1 wc hG=>AP (P.gs i).maps _ wc (G7.good hG) x.eu) ?_;refine bg ?_;refine aC ?_;refine ah _ rfl (fun hc=>?_) (fun hc=>?_)
   ·refine run ?_;refine fin1 ?_;rw[hone,hno _ _ k hlt bF9];rfl
   ·refine run ?_;exact aF (k+1) ⟨by omega,hyes (PtD.II (P.gs i).maps P.pages.length) k hall (by rw[hmd,hb1,hb2];rw[show decide (k > 0)=false by simpa using hk0];simp at hc;simp[hc])⟩
  have ao5:=LY G7 hlt hk0;have hk0':decide (0<(k:Int))=true:=by simp;omega
  refine bg ?_;simp only[hk0'];cases hc2:decide (x.mid≤((P.gs i).maps.getD (k-1) default).mid)
  ·refine eX (fun h1 wc hG=>Jl _ _ wc) ?_;cases hb2:(decide (0≤x.eu)&&decide (x.eu≤(P.pages.length:Int)-1))
   ·refine bg ?_;refine aC ?_;refine ah _ rfl (fun hc=>?_) (fun hc=>absurd hc bB5);refine run ?_;refine fin1 ?_;rw[hone,hno _ _ k hlt (by rw[hmd,hb2];simp)];rfl
   refine bg ?_;refine eX (fun h1 wc hG=>AP (P.gs i).maps _ wc (G7.good hG) x.eu) ?_;refine bg ?_;refine aC ?_;refine ah _ rfl (fun hc=>?_) (fun hc=>?_)
   ·refine run ?_;refine fin1 ?_;rw[hone,hno _ _ k hlt bF9];rfl
   ·refine run ?_;exact aF (k+1) ⟨by omega,hyes (PtD.II (P.gs i).maps P.pages.length) k hall (by rw[hmd,hb1,hb2];rw[show decide (((P.gs i).maps.getD (k-1) default).mid ≥ x.mid)=false from hc2];simp at hc;simp[hc])⟩
  ·refine bg ?_;refine aC ?_;refine ah _ rfl (fun hc=>?_) (fun hc=>absurd hc bB5);refine run ?_;refine fin1 ?_;rw[hone,hno _ _ k hlt (by rw[hmd,show decide (((P.gs i).maps.getD (k-1) default).mid ≥ x.mid)=true from hc2,show decide (k > 0)=true by simpa using hk0];simp)];rfl
 have hge:k=(P.gs i).maps.length:=by simp at hc;omega
 subst hge;rw[show allB (P.gs i).maps.length (PtD.II (P.gs i).maps P.pages.length)=true from aJ.2 hall,bI6] at hone;clear hall hm hk hc;refine run ?_;refine aK (σ:=Nat) (fun k=>[(15,.int .i64 (k:Int))]) (fun s=>[⟨G,#[.bool (P.gs i).live,.bool (P.gs i).dying,.int .i64 (P.gs i).first,.slice q2 (P.gs i).aQ.length cap2,.slice q (P.gs i).maps.length cap],100⟩,⟨B,#[L.pv P.pages.length,L.gv P.ay.length,L.ov P.on.length],48⟩]) (fun k=>k≤P.pages.length∧∀ j,j<k→P.IJ i j=true) (fun k=>P.pages.length-k) 0 ⟨by omega,fun j hj=>absurd hj bB3⟩ ?_;rintro k m hm ⟨hk,hall⟩;refine run ?_;refine ah _ rfl (fun hc=>?_) (fun hc=>?_)
 ·have hlt:k<P.pages.length:=by simp at hc;omega
  have hrp:=h.pg k hlt;refine run ?_;intro X;refine dA ?_;refine bg ?_;refine fB (fun wc hG=>AP (P.gs i).maps _ wc (G7.good hG) (k:Int)) ?_;refine bg ?_;refine aC ?_;refine ah _ rfl (fun hp=>?_) (fun hp=>?_)
  ·refine run ?_;refine fin1 ?_
   rw[hone,hno _ _ k hlt (by
    rw[←bL8];intro hu;simp only[PtD.IJ,beq_iff_eq] at hu;rw[bne_iff_ne] at hp
    exact hp hu)]
  ·refine run ?_;exact aF (k+1) ⟨by omega,hyes (P.IJ i) k hall (by simp only[PtD.IJ,beq_iff_eq];exact bne_eq_false_iff_eq.1 hp)⟩
 have hge:k=P.pages.length:=by simp at hc;omega
 subst hge;rw[show allB P.pages.length (P.IJ i)=true from aJ.2 hall] at hone;refine run ?_;refine fin1 ?_;rw[hone]
end
end
section
attribute [local irreducible] Hy St Ops DH dH
set_option maxHeartbeats 4000000 in
theorem af1{pv gv ov:Value}{P:PtD}(h:dO w pv gv ov P):Fn Tryz.prog 25 [.agg #[pv,gv,ov]].toArray w [] (fun u _=>u=.bool P.DX):=by
 obtain⟨p,pc,e1,_,hle1⟩:=h.pages.opened;obtain⟨o,oc,e3,_,hle3⟩:=h.on.opened
 obtain⟨g,gc,e2,hle2⟩:∃ g gc,gv=.slice g P.ay.length gc∧P.ay.length≤281474976710656:=by
  obtain⟨vv,mv,⟨⟨g,gc,e,_⟩,hl⟩,_⟩:=h.ay;simp only[bH7,bO0] at e hl;exact⟨g,gc,e,hl⟩
 rw[e1,e2,e3];refine enter Tryz.func25 ?_;refine run ?_;intro B;refine aC ?_
 have hlen:(decide ((P.pages.length:Int)<24)||decide ((64:Int)<(P.pages.length:Int))||!decide ((P.ay.length:Int)=4)||decide ((P.on.length:Int)<1)||decide ((3:Int)<(P.on.length:Int)))=(decide (P.pages.length<24)||decide (P.pages.length > 64)||decide (P.ay.length≠4)||decide (P.on.length<1)||decide (P.on.length > 3)):=by
  rw[bI2];simp only[bJ7,decide_eq_true_eq,bJ6,decide_eq_false_iff_not];omega
 refine ah _ rfl (fun hc=>?_) (fun hc=>?_)
 ·refine run ?_;refine fin1 ?_;rw[hlen] at hc;rw[PtD.DX,hc];rfl
 rw[hlen] at hc;have hmay:P.DX=(allB P.pages.length P.uI&&allB 4 P.oM&&allB P.on.length P.uJ):=by rw[PtD.DX,hc];rfl
 have hn:P.Len:=by
  simp only[bK9,decide_eq_false_iff_not] at hc;exact⟨by omega,by omega,by omega,by omega,by omega⟩
 have hno:∀ (n:Nat) (p:Nat→Bool) (k:Nat),k<n→p k=false→allB n p=false:=fun n p k hk h=>by
  rw[←bL8,aJ];intro ha;rw[ha k hk] at h;cases h
 have hyes:∀ (p:Nat→Bool) (k:Nat),(∀ j,j<k→p j=true)→p k=true→∀ j,j<k+1→p j=true:=fun p k h h2 j hj=>by
  rcases bJ0.1 hj with hj | rfl
  ·exact h j hj
  ·exact h2
 obtain⟨L,rfl,rfl,rfl,hv⟩:=h.open hn;cases e1;cases e2;cases e3;obtain⟨np0,np1,ng4,no0,no1⟩:=hn;refine run ?_;refine aK (σ:=Nat) (fun k=>[(4,.int .i64 (k:Int))]) (fun s=>[⟨B,#[L.pv P.pages.length,L.gv P.ay.length,L.ov P.on.length],48⟩]) (fun k=>k≤P.pages.length∧∀ j,j<k→P.uI j=true) (fun k=>P.pages.length-k) 0 ⟨by omega,fun j hj=>absurd hj bB3⟩ ?_;rintro k m hm ⟨hk,hall⟩;refine run ?_;refine ah _ rfl (fun hc=>?_) (fun hc=>?_)
 ·have hlt:k<P.pages.length:=by simp at hc;omega
  have hrp:=hv.pg k hlt
  have hpr:P.uI k=(!(!PtD.who (P.pg k).own||(!decide ((P.pg k).wit= -2)&&!PtD.who (P.pg k).wit)||decide ((P.pg k).wit=(P.pg k).own)) &&
   !((P.BZ k != decide ((P.pg k).own= -1))||(P.BZ k&&!decide ((P.pg k).wit= -2))) &&
   !((decide ((P.pg k).own=0)&&decide (0<(P.pg k).wit)&&!P.pR (P.pg k).wit)||(decide (0<(P.pg k).own)&&!decide ((P.pg k).wit= -2)&&!decide ((P.pg k).wit=0))) &&
   !(decide (0<(P.pg k).own)&&!(P.gs ((P.pg k).own-1).toNat).live&&(!(P.gs ((P.pg k).own-1).toNat).dying||!decide ((P.pg k).wit= -2)))):=by
   simp only[PtD.uI,ne_eq,decide_not,gt_iff_lt]
  have hbad:P.uI k=false→P.DX=false:=fun h=>by rw[hmay,hno _ _ k hlt h];rfl
  have hcast:decide (k<16)=decide ((k:Int)<16):=by rw[decide_eq_decide];omega
  have WH:P.BZ k=(decide ((k:Int)<16)||decide (0<P.jF (k:Int))):=by rw[PtD.BZ,hcast]
  have hwf:=(hv.wf.pg k hlt).2;generalize P.pg k=x at hrp hpr hwf;refine run ?_;intro X;refine az (fun wc hG=>ao8 _ wc) ?_;refine aC ?_;refine IC (fun h0 h1 wc hG=>ao8 x.wit wc) ?_;refine aC ?_;refine ah _ rfl (fun hc1=>?_) (fun hc1=>?_)
  ·refine run ?_;refine fin1 ?_;rw[hbad (by rw[hpr,hc1];rfl)]
  rw[hc1] at hpr;refine aC ?_;refine bG (fun h1 wc hG=>G6 (hv.good hG) _ _ bB3 (k:Int) ⟨by omega,by omega⟩) ?_;refine aC ?_;rw[←WH];refine ah _ rfl (fun hc2=>?_) (fun hc2=>?_)
  ·refine run ?_;refine fin1 ?_;rw[hbad (by rw[hpr,hc2];rfl)]
  rw[hc2] at hpr
  have hown:-1≤x.own∧x.own≤4:=by
   simp only[bK9,bK6,PtD.who,bH6,decide_eq_true_eq] at hc1;exact hc1.1.1
  refine aC ?_;refine bG (fun h1 wc hG=>L6 (hv.good hG) _ _ x.wit hwf) ?_;refine aC ?_;refine ah _ rfl (fun hc3=>?_) (fun hc3=>?_)
  ·refine run ?_;refine fin1 ?_;rw[hbad (by rw[hpr,hc3];rfl)]
  rw[hc3] at hpr;cases hpos:decide (0<x.own)
  ·refine aC ?_;simp only[hpos];refine aC ?_;refine ah _ rfl (fun hc4=>absurd hc4 bB5) (fun hc4=>?_);refine run ?_;exact aF (k+1) ⟨by omega,hyes P.uI k hall (by rw[hpr,hpos];rfl)⟩
  ·have hpos':0<x.own:=by simpa using hpos
   have hg0:=hv.gs0 (i:=(x.own-1).toNat) bB3;have hg1:=hv.gs1 (i:=(x.own-1).toNat) bB3;refine aC ?_;refine ah _ rfl (fun hc4=>?_) (fun hc4=>?_)
   ·refine run ?_;refine fin1 ?_;rw[hbad (by rw[hpr,hc4];rfl)]
   ·refine run ?_;exact aF (k+1) ⟨by omega,hyes P.uI k hall (by rw[hpr,hc4];rfl)⟩
 have hge:k=P.pages.length:=by simp at hc;omega
 subst hge;rw[show allB P.pages.length P.uI=true from aJ.2 hall,bI6] at hmay;clear hall hm hk hc;refine run ?_;refine aK (σ:=Nat) (fun k=>[(7,.int .i64 (k:Int))]) (fun s=>[⟨B,#[L.pv P.pages.length,L.gv P.ay.length,L.ov P.on.length],48⟩]) (fun k=>k≤4∧∀ j,j<k→P.oM j=true) (fun k=>4-k) 0 ⟨by omega,fun j hj=>absurd hj bB3⟩ ?_;rintro k m hm ⟨hk,hall⟩;refine run ?_;refine ah _ rfl (fun hc=>?_) (fun hc=>?_)
 ·have hlt:k<4:=by simp at hc;omega
  refine run ?_;refine az (fun wc hG=>Pg (hv.good hG) ⟨np0,np1,ng4,no0,no1⟩ k bB3 ((k:Int)+1) rfl) ?_;refine run ?_;refine ah _ rfl (fun hp=>?_) (fun hp=>?_)
  ·refine run ?_;refine fin1 ?_;rw[hmay,hno 4 _ k hlt bE8];rfl
  ·refine run ?_;exact aF (k+1) ⟨by omega,hyes P.oM k hall bE8⟩
 have hge:k=4:=by simp at hc;omega
 subst hge;rw[show allB 4 P.oM=true from aJ.2 hall,bI6] at hmay;clear hall hm hk hc;refine run ?_;refine aK (σ:=Nat) (fun k=>[(8,.int .i64 (k:Int))]) (fun s=>[⟨B,#[L.pv P.pages.length,L.gv P.ay.length,L.ov P.on.length],48⟩]) (fun k=>k≤P.on.length∧∀ j,j<k→P.uJ j=true) (fun k=>P.on.length-k) 0 ⟨by omega,fun j hj=>absurd hj bB3⟩ ?_;rintro k m hm ⟨hk,hall⟩;refine run ?_;refine ah _ rfl (fun hc=>?_) (fun hc=>?_)
 ·have hlt:k<P.on.length:=by simp at hc;omega
  have hrs:=hv.st k hlt
  have NM:P.uJ k=!((decide ((P.st k).vm=0)&&!decide ((P.st k).cpu=0))||(!decide ((P.st k).vm=0)&&(!P.pR (P.st k).vm||decide ((P.st k).cpu<0)||decide ((((P.gs ((P.st k).vm-1).toNat).aQ.length:Nat):Int)≤(P.st k).cpu)||!decide ((P.gs ((P.st k).vm-1).toNat).aQ.getD (P.st k).cpu.toNat 0=(k:Int))))):=by
   simp only[PtD.uJ,ne_eq,decide_not,ge_iff_le]
  have hbad:P.uJ k=false→P.DX=false:=fun h=>by rw[hmay,hno _ _ k hlt h]
  obtain⟨hwf,aX8⟩:=hv.wf.st k hlt;generalize P.st k=x at hrs NM hwf aX8;refine run ?_;intro X;refine dA ?_;refine bg ?_;cases h0:decide (x.vm=0)
  case true=>
   rw[h0] at NM;cases hz:decide (x.cpu=0)
   ·refine bg ?_;refine aC ?_;refine ah _ rfl (fun hp=>?_) (fun hp=>absurd hp bB5);refine run ?_;refine fin1 ?_;rw[hbad (by rw[NM,hz];rfl)]
   ·refine bg ?_;refine aC ?_;refine ah _ rfl (fun hp=>absurd hp bB5) (fun hp=>?_);refine run ?_;exact aF (k+1) ⟨by omega,hyes P.uJ k hall (by rw[NM,hz];rfl)⟩
  rw[h0] at NM;refine IE (fun h0 h1 wc hG=>L6 (hv.good hG) _ _ x.vm hwf) ?_;cases hgu:P.pR x.vm
  case false=>
   rw[hgu] at NM;refine bg ?_;refine aC ?_;refine ah _ rfl (fun hp=>?_) (fun hp=>absurd hp bB5);refine run ?_;refine fin1 ?_;rw[hbad (by rw[NM];simp)]
  rw[hgu] at NM;have Sz:=hgu;simp only[PtD.pR,bH6,decide_eq_true_eq] at Sz;have hi4:(x.vm-1).toNat<P.ay.length:=by omega
  obtain⟨q2,cap2,hvv,hne2,hle2⟩:=(hv.vc _ hi4).opened;have hg3:=hv.gs3 hi4;have hrow:=hv.vc _ hi4;rw[hvv] at hg3 hrow;refine bg ?_;cases hlo:decide (x.cpu<0)
  case true=>
   rw[hlo] at NM;refine bg ?_;refine aC ?_;refine ah _ rfl (fun hp=>?_) (fun hp=>absurd hp bB5);refine run ?_;refine fin1 ?_;rw[hbad (by rw[NM];simp)]
  rw[hlo] at NM;refine bg ?_;cases hhi:decide ((((P.gs (x.vm-1).toNat).aQ.length:Nat):Int)≤x.cpu)
  case true=>
   rw[hhi] at NM;refine bg ?_;refine aC ?_;refine ah _ rfl (fun hp=>?_) (fun hp=>absurd hp bB5);refine run ?_;refine fin1 ?_;rw[hbad (by rw[NM];simp)]
  rw[hhi] at NM;simp only[decide_eq_false_iff_not] at hlo hhi;obtain⟨b2,o2,rfl⟩:=hne2 (by intro e;rw[e] at hhi;simp at hhi;omega);have hx:=aj (hrow.row (k:=x.cpu.toNat) bB3);rw[bK3,show (default:Int)=0 from rfl] at hx;refine bg ?_;refine aC ?_;refine ah _ rfl (fun hp=>?_) (fun hp=>?_)
  ·refine run ?_;refine fin1 ?_;rw[hbad (by rw[NM];simp at hp;simp[hp])]
  ·refine run ?_;exact aF (k+1) ⟨by omega,hyes P.uJ k hall (by rw[NM];simp at hp;simp[hp])⟩
 have hge:k=P.on.length:=by simp at hc;omega
 subst hge;rw[show allB P.on.length P.uJ=true from aJ.2 hall] at hmay;refine run ?_;refine fin1 ?_;rw[hmay]
end
section
attribute [local irreducible] Hy St Ops DH dH
structure PtD.Small(P:PtD)(n:Nat):Prop where
 pg:P.pages.length≤n
 gs:P.ay.length≤n
 on:P.on.length≤n
 vc:∀ i,i<P.ay.length→(P.gs i).aQ.length≤n∧(P.gs i).maps.length≤n
section
variable {w : World} {pv gv ov : Value} {P : PtD}
end
end
section
attribute [local irreducible] Hy St Ops DH dH
theorem dO.slices{pv gv ov:Value}{P:PtD}(h:dO w pv gv ov P):∃ p pc g gc o oc,pv=.slice p P.pages.length pc∧gv=.slice g P.ay.length gc∧ov=.slice o P.on.length oc∧P.pages.length≤281474976710656∧P.ay.length≤281474976710656∧P.on.length≤281474976710656:=by
 obtain⟨p1,⟨vv,mv,⟨⟨g,gc,e2,hg⟩,hl⟩,g2⟩,o1,wf⟩:=h;obtain⟨p,pc,rfl,_,hl1⟩:=p1.opened;obtain⟨o,oc,rfl,_,hl2⟩:=o1.opened;simp only[bH7,bO0] at e2 hl;exact⟨p,pc,g,gc,o,oc,rfl,e2,rfl,hl1,hl,hl2⟩
end
section
attribute [local irreducible] Hy St Ops DH dH jg iP gQ DS gX lJ
theorem Ph{w:World}{F:Nat}{us:List Value}(p:Zp→Bool)(xs:List (Zp))(v:Value)(h:aA w v 3 (xs.map Q7))(hF:∀ x,x∈xs→∀ w',rO w w'→Fn Tryz.prog F ([]++[Value.agg (Q7 x).toArray]++us).toArray w' [] (fun u _=>u=.bool (p x)))(bM:mem iV F=true:=by rfl):
  Fn Tryz.prog 330 [v,.func (.func F) [].toArray us.toArray].toArray w [] (fun u _=>u=.int .i64 (gV p xs)):=by
 obtain⟨q,cap,rfl,hne,hle⟩:=h.opened;refine enter Tryz.func330 ?_;refine run ?_;refine aK (σ:=Nat) (fun k=>[(8,.int .i64 (k:Int))]) (fun _=>[]) (fun k=>k≤xs.length∧∀ j,j<k→p (xs.getD j default)=false) (fun k=>xs.length-k) 0 ⟨bI1 _,fun j hj=>absurd hj bB3⟩ ?_;rintro k m rfl ⟨hk,hno⟩;refine run ?_;refine ah _ rfl (fun hc=>?_) (fun hc=>?_)
 ·have hlt:k<xs.length:=by simpa using hc
  obtain⟨b,o,rfl⟩:=hne bB7;have hr:=h.row hlt;refine run ?_;refine l7 (fun wc hG=>hF (xs.getD k default) (getD_mem hlt) wc ⟨_,hG⟩) (bM:=bM) ?_;refine run ?_;refine ah _ rfl (fun hp=>?_) (fun hp=>?_)
  ·refine run ?_;refine fin1 ?_;rw[fG hlt hp hno]
  ·refine run ?_;refine aF (k+1) ⟨hlt,fun j hj=>?_⟩;rcases bJ0.1 hj with hj | rfl
   ·exact hno j hj
   ·exact hp
 ·have hge:k=xs.length:=by simp at hc;omega
  subst hge;refine run ?_;refine fin1 ?_;rw[dV hno]
theorem Pj{w:World}{F:Nat}{us:List Value}(p:jQ→Bool)(xs:List (jQ))(v:Value)(h:aA w v 2 (xs.map eF))(hF:∀ x,x∈xs→∀ w',rO w w'→Fn Tryz.prog F ([]++[Value.agg (eF x).toArray]++us).toArray w' [] (fun u _=>u=.bool (p x)))(bM:mem iV F=true:=by rfl):
  Fn Tryz.prog 156 [v,.func (.func F) [].toArray us.toArray].toArray w [] (fun u _=>u=.int .i64 (gV p xs)):=by
 obtain⟨q,cap,rfl,hne,hle⟩:=h.opened;refine enter Tryz.func156 ?_;refine run ?_;refine aK (σ:=Nat) (fun k=>[(8,.int .i64 (k:Int))]) (fun _=>[]) (fun k=>k≤xs.length∧∀ j,j<k→p (xs.getD j default)=false) (fun k=>xs.length-k) 0 ⟨bI1 _,fun j hj=>absurd hj bB3⟩ ?_;rintro k m rfl ⟨hk,hno⟩;refine run ?_;refine ah _ rfl (fun hc=>?_) (fun hc=>?_)
 ·have hlt:k<xs.length:=by simpa using hc
  obtain⟨b,o,rfl⟩:=hne bB7;have hr:=h.row hlt;refine run ?_;refine l7 (fun wc hG=>hF (xs.getD k default) (getD_mem hlt) wc ⟨_,hG⟩) (bM:=bM) ?_;refine run ?_;refine ah _ rfl (fun hp=>?_) (fun hp=>?_)
  ·refine run ?_;refine fin1 ?_;rw[fG hlt hp hno]
  ·refine run ?_;refine aF (k+1) ⟨hlt,fun j hj=>?_⟩;rcases bJ0.1 hj with hj | rfl
   ·exact hno j hj
   ·exact hp
 ·have hge:k=xs.length:=by simp at hc;omega
  subst hge;refine run ?_;refine fin1 ?_;rw[dV hno]
theorem Pm{w:World}{F:Nat}{us:List Value}(p:Az→Bool)(xs:List (Az))(v:Value)(h:aA w v 16 (xs.map wR))(hF:∀ x,x∈xs→∀ w',rO w w'→Fn Tryz.prog F ([]++[Value.agg (wR x).toArray]++us).toArray w' [] (fun u _=>u=.bool (p x)))(bM:mem iV F=true:=by rfl):
  Fn Tryz.prog 207 [v,.func (.func F) [].toArray us.toArray].toArray w [] (fun u _=>u=.int .i64 (gV p xs)):=by
 obtain⟨q,cap,rfl,hne,hle⟩:=h.opened;refine enter Tryz.func207 ?_;refine run ?_;refine aK (σ:=Nat) (fun k=>[(8,.int .i64 (k:Int))]) (fun _=>[]) (fun k=>k≤xs.length∧∀ j,j<k→p (xs.getD j default)=false) (fun k=>xs.length-k) 0 ⟨bI1 _,fun j hj=>absurd hj bB3⟩ ?_;rintro k m rfl ⟨hk,hno⟩;refine run ?_;refine ah _ rfl (fun hc=>?_) (fun hc=>?_)
 ·have hlt:k<xs.length:=by simpa using hc
  obtain⟨b,o,rfl⟩:=hne bB7;have hr:=h.row hlt;refine run ?_;refine l7 (fun wc hG=>hF (xs.getD k default) (getD_mem hlt) wc ⟨_,hG⟩) (bM:=bM) ?_;refine run ?_;refine ah _ rfl (fun hp=>?_) (fun hp=>?_)
  ·refine run ?_;refine fin1 ?_;rw[fG hlt hp hno]
  ·refine run ?_;refine aF (k+1) ⟨hlt,fun j hj=>?_⟩;rcases bJ0.1 hj with hj | rfl
   ·exact hno j hj
   ·exact hp
 ·have hge:k=xs.length:=by simp at hc;omega
  subst hge;refine run ?_;refine fin1 ?_;rw[dV hno]
theorem Pn{w:World}{F:Nat}{us:List Value}(p:eG→Bool)(xs:List (eG))(v:Value)(h:aA w v 6 (xs.map mW))(hF:∀ x,x∈xs→∀ w',rO w w'→Fn Tryz.prog F ([]++[Value.agg (mW x).toArray]++us).toArray w' [] (fun u _=>u=.bool (p x)))(bM:mem iV F=true:=by rfl):
  Fn Tryz.prog 208 [v,.func (.func F) [].toArray us.toArray].toArray w [] (fun u _=>u=.int .i64 (gV p xs)):=by
 obtain⟨q,cap,rfl,hne,hle⟩:=h.opened;refine enter Tryz.func208 ?_;refine run ?_;refine aK (σ:=Nat) (fun k=>[(8,.int .i64 (k:Int))]) (fun _=>[]) (fun k=>k≤xs.length∧∀ j,j<k→p (xs.getD j default)=false) (fun k=>xs.length-k) 0 ⟨bI1 _,fun j hj=>absurd hj bB3⟩ ?_;rintro k m rfl ⟨hk,hno⟩;refine run ?_;refine ah _ rfl (fun hc=>?_) (fun hc=>?_)
 ·have hlt:k<xs.length:=by simpa using hc
  obtain⟨b,o,rfl⟩:=hne bB7;have hr:=h.row hlt;refine run ?_;refine l7 (fun wc hG=>hF (xs.getD k default) (getD_mem hlt) wc ⟨_,hG⟩) (bM:=bM) ?_;refine run ?_;refine ah _ rfl (fun hp=>?_) (fun hp=>?_)
  ·refine run ?_;refine fin1 ?_;rw[fG hlt hp hno]
  ·refine run ?_;refine aF (k+1) ⟨hlt,fun j hj=>?_⟩;rcases bJ0.1 hj with hj | rfl
   ·exact hno j hj
   ·exact hp
 ·have hge:k=xs.length:=by simp at hc;omega
  subst hge;refine run ?_;refine fin1 ?_;rw[dV hno]
theorem Po{w:World}{F:Nat}{us:List Value}(p:Nat→Bool)(xs:List (Nat))(v:Value)(h:aA w v 1 (xs.map uV))(hF:∀ x,x∈xs→∀ w',rO w w'→Fn Tryz.prog F ([]++[Value.int .u64 (x:Int)]++us).toArray w' [] (fun u _=>u=.bool (p x)))(bM:mem iV F=true:=by rfl):
  Fn Tryz.prog 213 [v,.func (.func F) [].toArray us.toArray].toArray w [] (fun u _=>u=.int .i64 (gV p xs)):=by
 obtain⟨q,cap,rfl,hne,hle⟩:=h.opened;refine enter Tryz.func213 ?_;refine run ?_;refine aK (σ:=Nat) (fun k=>[(8,.int .i64 (k:Int))]) (fun _=>[]) (fun k=>k≤xs.length∧∀ j,j<k→p (xs.getD j default)=false) (fun k=>xs.length-k) 0 ⟨bI1 _,fun j hj=>absurd hj bB3⟩ ?_;rintro k m rfl ⟨hk,hno⟩;refine run ?_;refine ah _ rfl (fun hc=>?_) (fun hc=>?_)
 ·have hlt:k<xs.length:=by simpa using hc
  obtain⟨b,o,rfl⟩:=hne bB7;have hr:=aj (h.row hlt);simp only[bK3] at hr;refine run ?_;refine l7 (fun wc hG=>hF (xs.getD k default) (getD_mem hlt) wc ⟨_,hG⟩) (bM:=bM) ?_;refine run ?_;refine ah _ rfl (fun hp=>?_) (fun hp=>?_)
  ·refine run ?_;refine fin1 ?_;rw[fG hlt hp hno]
  ·refine run ?_;refine aF (k+1) ⟨hlt,fun j hj=>?_⟩;rcases bJ0.1 hj with hj | rfl
   ·exact hno j hj
   ·exact hp
 ·have hge:k=xs.length:=by simp at hc;omega
  subst hge;refine run ?_;refine fin1 ?_;rw[dV hno]
theorem FO{w:World}{F:Nat}{us:List Value}(p:Zp→Bool)(xs:List (Zp))(v:Value)(h:aA w v 3 (xs.map Q7))(hF:∀ x,x∈xs→∀ w',rO w w'→Fn Tryz.prog F ([]++[Value.agg (Q7 x).toArray]++us).toArray w' [] (fun u _=>u=.bool (p x)))(bM:mem iV F=true:=by rfl):
  Fn Tryz.prog 284 [v,.func (.func F) [].toArray us.toArray].toArray w [] (fun u _=>u=.bool (xs.any p)):=by
 refine enter Tryz.func284 ?_;refine run ?_;refine az (fun wc hG=>Ph p xs v (h.good hG) (fun x hx w' ha=>hF x hx w' ?_) bM) ?_
 ·obtain⟨hp,hg⟩:=ha;exact⟨_,hG.trans hg⟩
 refine run ?_;refine fin1 ?_;rw[←gq]
theorem FP{w:World}{F:Nat}{us:List Value}(p:jQ→Bool)(xs:List (jQ))(v:Value)(h:aA w v 2 (xs.map eF))(hF:∀ x,x∈xs→∀ w',rO w w'→Fn Tryz.prog F ([]++[Value.agg (eF x).toArray]++us).toArray w' [] (fun u _=>u=.bool (p x)))(bM:mem iV F=true:=by rfl):
  Fn Tryz.prog 224 [v,.func (.func F) [].toArray us.toArray].toArray w [] (fun u _=>u=.bool (xs.any p)):=by
 refine enter Tryz.func224 ?_;refine run ?_;refine az (fun wc hG=>Pj p xs v (h.good hG) (fun x hx w' ha=>hF x hx w' ?_) bM) ?_
 ·obtain⟨hp,hg⟩:=ha;exact⟨_,hG.trans hg⟩
 refine run ?_;refine fin1 ?_;rw[←gq]
theorem FQ{w:World}{F:Nat}{us:List Value}(p:Az→Bool)(xs:List (Az))(v:Value)(h:aA w v 16 (xs.map wR))(hF:∀ x,x∈xs→∀ w',rO w w'→Fn Tryz.prog F ([]++[Value.agg (wR x).toArray]++us).toArray w' [] (fun u _=>u=.bool (p x)))(bM:mem iV F=true:=by rfl):
  Fn Tryz.prog 124 [v,.func (.func F) [].toArray us.toArray].toArray w [] (fun u _=>u=.bool (xs.any p)):=by
 refine enter Tryz.func124 ?_;refine run ?_;refine az (fun wc hG=>Pm p xs v (h.good hG) (fun x hx w' ha=>hF x hx w' ?_) bM) ?_
 ·obtain⟨hp,hg⟩:=ha;exact⟨_,hG.trans hg⟩
 refine run ?_;refine fin1 ?_;rw[←gq]
theorem xg{w:World}{F:Nat}{us:List Value}(p:eG→Bool)(xs:List (eG))(v:Value)(h:aA w v 6 (xs.map mW))(hF:∀ x,x∈xs→∀ w',rO w w'→Fn Tryz.prog F ([]++[Value.agg (mW x).toArray]++us).toArray w' [] (fun u _=>u=.bool (p x)))(bM:mem iV F=true:=by rfl):
  Fn Tryz.prog 126 [v,.func (.func F) [].toArray us.toArray].toArray w [] (fun u _=>u=.bool (xs.any p)):=by
 refine enter Tryz.func126 ?_;refine run ?_;refine az (fun wc hG=>Pn p xs v (h.good hG) (fun x hx w' ha=>hF x hx w' ?_) bM) ?_
 ·obtain⟨hp,hg⟩:=ha;exact⟨_,hG.trans hg⟩
 refine run ?_;refine fin1 ?_;rw[←gq]
theorem FT{w:World}{F:Nat}{us:List Value}(p:Nat→Bool)(xs:List (Nat))(v:Value)(h:aA w v 1 (xs.map uV))(hF:∀ x,x∈xs→∀ w',rO w w'→Fn Tryz.prog F ([]++[Value.int .u64 (x:Int)]++us).toArray w' [] (fun u _=>u=.bool (p x)))(bM:mem iV F=true:=by rfl):
  Fn Tryz.prog 132 [v,.func (.func F) [].toArray us.toArray].toArray w [] (fun u _=>u=.bool (xs.any p)):=by
 refine enter Tryz.func132 ?_;refine run ?_;refine az (fun wc hG=>Po p xs v (h.good hG) (fun x hx w' ha=>hF x hx w' ?_) bM) ?_
 ·obtain⟨hp,hg⟩:=ha;exact⟨_,hG.trans hg⟩
 refine run ?_;refine fin1 ?_;rw[←gq]
theorem FU{w:World}{F:Nat}{us:List Value}(p:fF→Bool)(xs:List (fF))(v:Value)(h:aA w v 14 (xs.map iy))(hF:∀ x,x∈xs→∀ w',rO w w'→Fn Tryz.prog F ([]++[Value.agg (iy x).toArray]++us).toArray w' [] (fun u _=>u=.bool (p x)))(bM:mem iV F=true:=by rfl):
  Fn Tryz.prog 137 [v,.func (.func F) [].toArray us.toArray].toArray w [] (fun u _=>u=.bool (xs.any p)):=by
 refine enter Tryz.func137 ?_;refine run ?_;refine az (fun wc hG=>EH p xs v (h.good hG) (fun x hx w' ha=>hF x hx w' ?_) bM) ?_
 ·obtain⟨hp,hg⟩:=ha;exact⟨_,hG.trans hg⟩
 refine run ?_;refine fin1 ?_;rw[←gq]
theorem aX9(a x:jQ):aW (eF a) (eF x)=(decide (x.mid=a.mid)&&decide (x.eu=a.eu)):=by
 rw[bI2,bH6,decide_eq_true_eq,decide_eq_true_eq];simp only[eF,aW,iF,bH6,decide_eq_true_eq,and_true];exact⟨fun h=>⟨h.1.symm,h.2.symm⟩,fun h=>⟨h.1.symm,h.2.symm⟩⟩
theorem Ua(a:jQ)(xs:List jQ)(v:Value)(h:aA w v 2 (xs.map eF)):
  Fn Tryz.prog 294 [v,.agg (eF a).toArray].toArray w [] (fun u _=>u=.int .i64 (gV (fun t=>decide (t.mid=a.mid)&&decide (t.eu=a.eu)) xs)):=by
 obtain⟨q,cap,rfl,hne,hle⟩:=h.opened;refine enter Tryz.func294 ?_;refine run ?_;intro B;refine run ?_;refine aK (σ:=Nat) (fun k=>[(8,.int .i64 (k:Int))]) (fun _=>[⟨B,(eF a).toArray,173⟩]) (fun k=>k≤xs.length∧∀ j,j<k→(decide ((xs.getD j default).mid=a.mid)&&decide ((xs.getD j default).eu=a.eu))=false) (fun k=>xs.length-k) 0 ⟨bI1 _,fun j hj=>absurd hj bB3⟩ ?_;rintro k m rfl ⟨hk,hno⟩;refine run ?_;refine ah _ rfl (fun hc=>?_) (fun hc=>?_)
 ·have hlt:k<xs.length:=by simpa using hc
  obtain⟨b,o,rfl⟩:=hne bB7;have hr:=h.row hlt;refine run ?_;refine dA ?_;refine dI ?_;refine run ?_;try rw[show List.take 2 (eF a)=eF a from rfl]
  rw[aX9];refine ah _ rfl (fun hp=>?_) (fun hp=>?_)
  ·refine run ?_;refine fin1 ?_;rw[fG hlt hp hno]
  ·refine run ?_;refine aF (k+1) ⟨hlt,fun j hj=>?_⟩;rcases bJ0.1 hj with hj | rfl
   ·exact hno j hj
   ·exact hp
 ·have hge:k=xs.length:=by simp at hc;omega
  subst hge;refine run ?_;refine fin1 ?_;rw[dV hno]
theorem Jm(a:jQ)(xs:List jQ)(v:Value)(h:aA w v 2 (xs.map eF)):
  Fn Tryz.prog 211 [v,.agg (eF a).toArray].toArray w [] (fun u _=>u=.bool (xs.any fun t=>decide (t.mid=a.mid)&&decide (t.eu=a.eu))):=by
 refine enter Tryz.func211 ?_;refine run ?_;intro B;refine run ?_;refine az (fun wc hG=>Ua a xs v (h.good hG)) ?_;refine run ?_;refine fin1 ?_;rw[←gq]
theorem L8(v:Value)(xs:List (List Value))(h:aA w v 19 xs)(hall:∀ c∈xs,c.length=19∧c.all (·.oneCell')=true)(hl:xs.length<1000000):Fn Tryz.prog 70 [v].toArray w [] (fun u hn=>Own 74 19 u hn xs):=by
 obtain⟨⟨q,cap,rfl,hne⟩,_⟩:=h;refine enter Tryz.func70 ?_;refine run ?_;refine jI bB8 (nH aB rfl rfl) ?_;refine run ?_;refine ah _ rfl (fun hp=>?_) (fun hp=>?_)
 ·obtain rfl:xs=[]:=by
   rcases bM6 (xs=[]) with h | h
   ·exact h
   ·obtain⟨b,o,rfl,_⟩:=hne h;cases hp
  refine run ?_;refine fin1 ?_;exact⟨by simp,.inl ⟨rfl,rfl,rfl⟩⟩
 refine run ?_;refine iD aB bB8 bB8 (fun g=>?_);refine run ?_;rcases bM6 (xs=[]) with rfl | hx
 ·cases q with
  | none=>cases hp
  | some q=>
  refine jI bB8 (iC aB (jr:=0) rfl rfl rfl (bI9 _)) ?_;refine run ?_;refine fin1 ?_;exact⟨by simp,.inr ⟨g,0,#[],rfl,rfl,⟨rfl,bI9 _,by decide,rfl,rfl⟩⟩⟩
 ·obtain⟨b,o,rfl,hr⟩:=hne hx;refine eP aB bB8 rfl ⟨rfl,bI9 _,by decide,rfl,rfl⟩ rfl rfl rfl rfl rfl rfl (.refl _) rfl hall hr bB5 hl (fun v' ha' hA=>?_);refine run ?_;refine fin1 ?_;rw[bI'];exact hA
theorem Pq(v:Value)(xs:List (List Value))(h:aA w v 6 xs)(hall:∀ c∈xs,c.length=6∧c.all (·.oneCell')=true)(hl:xs.length<1000000):Fn Tryz.prog 71 [v].toArray w [] (fun u hn=>Own 62 6 u hn xs):=by
 obtain⟨⟨q,cap,rfl,hne⟩,_⟩:=h;refine enter Tryz.func71 ?_;refine run ?_;refine jI bB8 (nH aB rfl rfl) ?_;refine run ?_;refine ah _ rfl (fun hp=>?_) (fun hp=>?_)
 ·obtain rfl:xs=[]:=by
   rcases bM6 (xs=[]) with h | h
   ·exact h
   ·obtain⟨b,o,rfl,_⟩:=hne h;cases hp
  refine run ?_;refine fin1 ?_;exact⟨by simp,.inl ⟨rfl,rfl,rfl⟩⟩
 refine run ?_;refine iD aB bB8 bB8 (fun g=>?_);refine run ?_;rcases bM6 (xs=[]) with rfl | hx
 ·cases q with
  | none=>cases hp
  | some q=>
  refine jI bB8 (iC aB (jr:=0) rfl rfl rfl (bI9 _)) ?_;refine run ?_;refine fin1 ?_;exact⟨by simp,.inr ⟨g,0,#[],rfl,rfl,⟨rfl,bI9 _,by decide,rfl,rfl⟩⟩⟩
 ·obtain⟨b,o,rfl,hr⟩:=hne hx;refine eP aB bB8 rfl ⟨rfl,bI9 _,by decide,rfl,rfl⟩ rfl rfl rfl rfl rfl rfl (.refl _) rfl hall hr bB5 hl (fun v' ha' hA=>?_);refine run ?_;refine fin1 ?_;rw[bI'];exact hA
theorem L9(v:Value)(xs:List (List Value))(h:aA w v 15 xs)(hall:∀ c∈xs,c.length=15∧c.all (·.oneCell')=true)(hl:xs.length<1000000):Fn Tryz.prog 72 [v].toArray w [] (fun u hn=>Own 68 15 u hn xs):=by
 obtain⟨⟨q,cap,rfl,hne⟩,_⟩:=h;refine enter Tryz.func72 ?_;refine run ?_;refine jI bB8 (nH aB rfl rfl) ?_;refine run ?_;refine ah _ rfl (fun hp=>?_) (fun hp=>?_)
 ·obtain rfl:xs=[]:=by
   rcases bM6 (xs=[]) with h | h
   ·exact h
   ·obtain⟨b,o,rfl,_⟩:=hne h;cases hp
  refine run ?_;refine fin1 ?_;exact⟨by simp,.inl ⟨rfl,rfl,rfl⟩⟩
 refine run ?_;refine iD aB bB8 bB8 (fun g=>?_);refine run ?_;rcases bM6 (xs=[]) with rfl | hx
 ·cases q with
  | none=>cases hp
  | some q=>
  refine jI bB8 (iC aB (jr:=0) rfl rfl rfl (bI9 _)) ?_;refine run ?_;refine fin1 ?_;exact⟨by simp,.inr ⟨g,0,#[],rfl,rfl,⟨rfl,bI9 _,by decide,rfl,rfl⟩⟩⟩
 ·obtain⟨b,o,rfl,hr⟩:=hne hx;refine eP aB bB8 rfl ⟨rfl,bI9 _,by decide,rfl,rfl⟩ rfl rfl rfl rfl rfl rfl (.refl _) rfl hall hr bB5 hl (fun v' ha' hA=>?_);refine run ?_;refine fin1 ?_;rw[bI'];exact hA
theorem Jn(v:Value)(xs:List (List Value))(h:aA w v 16 xs)(hall:∀ c∈xs,c.length=16∧c.all (·.oneCell')=true)(hl:xs.length<1000000):Fn Tryz.prog 75 [v].toArray w [] (fun u hn=>Own 102 16 u hn xs):=by
 obtain⟨⟨q,cap,rfl,hne⟩,_⟩:=h;refine enter Tryz.func75 ?_;refine run ?_;refine jI bB8 (nH aB rfl rfl) ?_;refine run ?_;refine ah _ rfl (fun hp=>?_) (fun hp=>?_)
 ·obtain rfl:xs=[]:=by
   rcases bM6 (xs=[]) with h | h
   ·exact h
   ·obtain⟨b,o,rfl,_⟩:=hne h;cases hp
  refine run ?_;refine fin1 ?_;exact⟨by simp,.inl ⟨rfl,rfl,rfl⟩⟩
 refine run ?_;refine iD aB bB8 bB8 (fun g=>?_);refine run ?_;rcases bM6 (xs=[]) with rfl | hx
 ·cases q with
  | none=>cases hp
  | some q=>
  refine jI bB8 (iC aB (jr:=0) rfl rfl rfl (bI9 _)) ?_;refine run ?_;refine fin1 ?_;exact⟨by simp,.inr ⟨g,0,#[],rfl,rfl,⟨rfl,bI9 _,by decide,rfl,rfl⟩⟩⟩
 ·obtain⟨b,o,rfl,hr⟩:=hne hx;refine eP aB bB8 rfl ⟨rfl,bI9 _,by decide,rfl,rfl⟩ rfl rfl rfl rfl rfl rfl (.refl _) rfl hall hr bB5 hl (fun v' ha' hA=>?_);refine run ?_;refine fin1 ?_;rw[bI'];exact hA
theorem XX(v:Nat→Value):∀ k:Nat,k<4→(#[v 0,v 1,v 2,v 3]:Array Value)[k]?=some (v k):=by
 intro k hk;have:k=0∨k=1∨k=2∨k=3:=by omega
 rcases this with rfl | rfl | rfl | rfl<;>rfl
def HyD.oU(H:HyD)(f s:Int)(i:Nat):Bool:=(H.msA i).any fun m=>decide (m.eu=f)&&decide (m.soft=s)
theorem Pv(H:HyD)(f s:Int):H.pG f s=if H.oU f s 0 then 1 else if H.oU f s 1 then 2 else if H.oU f s 2 then 3 else if H.oU f s 3 then 4 else 0:=by
 unfold HyD.pG;simp only[PtD.idx];change (match (bif H.oU f s 0 then some 0 else bif H.oU f s 1 then some 1 else bif H.oU f s 2 then some 2 else bif H.oU f s 3 then some 3 else none:Option Nat) with | some i=>(i:Int)+1 | none=>0)=_;cases H.oU f s 0<;>cases H.oU f s 1<;>cases H.oU f s 2<;>cases H.oU f s 3<;>rfl
theorem XY{s:Int}(hk:k<4)(h:H.oU f s k=true)(hn:∀ j,j<k→H.oU f s j=false):H.pG f s=(k:Int)+1:=by
 rw[Pv];have:k=0∨k=1∨k=2∨k=3:=by omega
 rcases this with rfl | rfl | rfl | rfl
 ·simp[h]
 ·simp[h,hn 0 bB3]
 ·simp[h,hn 0 bB3,hn 1 bB3]
 ·simp[h,hn 0 bB3,hn 1 bB3,hn 2 bB3]
theorem XZ{s:Int}(hn:∀ j,j<4→H.oU f s j=false):H.pG f s=0:=by
 rw[Pv,hn 0 bB3,hn 1 bB3,hn 2 bB3,hn 3 bB3];rfl
theorem Px(H:HyD)(f s:Int):0≤H.pG f s∧H.pG f s≤4:=by
 rw[Pv];cases H.oU f s 0<;>cases H.oU f s 1<;>cases H.oU f s 2<;>cases H.oU f s 3<;>simp
theorem af2(m:Zp)(f s:Int)(Y Z:Nat)(w:World)(hY:w.cell? ⟨Y,0,none⟩=some (.int .i64 f))(hZ:w.cell? ⟨Z,0,none⟩=some (.int .i64 s)):Fn Tryz.prog 285 ([]++[Value.agg (Q7 m).toArray]++[Value.pointer (some ⟨Y,0,none⟩),.pointer (some ⟨Z,0,none⟩)]).toArray w [] (fun u _=>u=.bool (decide (m.eu=f)&&decide (m.soft=s))):=by
 refine enter Tryz.func285 ?_;refine run ?_;intro B;refine aC ?_;exact fin1 rfl
theorem Q9(h:w.rangeAt X 4 [mv 0,mv 1,mv 2,mv 3])(hm:∀ i,i<4→aA w (mv i) 3 ((H.msA i).map Q7))(f s:Int):Fn Tryz.prog 197 [.pointer (some ⟨X,0,none⟩),.int .i64 f,.int .i64 s].toArray w [] (fun u _=>u=.int .i64 (H.pG f s)):=by
 refine enter Tryz.func197 ?_;refine run ?_;intro Y Z;refine aK (σ:=Nat) (fun k=>[(13,.int .i64 (k:Int))]) (fun _=>[⟨Z,#[.int .i64 s],3⟩,⟨Y,#[.int .i64 f],3⟩]) (fun k=>k≤4∧∀ j,j<k→H.oU f s j=false) (fun k=>4-k) 0 ⟨bI1 _,fun j hj=>absurd hj (bL0 _)⟩ ?_;rintro k m hm2 ⟨hk,hK⟩;refine run ?_;refine ah _ rfl (fun hc=>?_) (fun hc=>?_)
 ·have hk3:k<4:=by simp at hc;omega
  refine run ?_;refine jI bB8 (Eu rfl rfl rfl rfl bB3 bB3 (XX mv k hk3)) ?_;refine run ?_;refine az (fun wc hG=>FO (us:=[.pointer (some ⟨Y,0,none⟩),.pointer (some ⟨Z,0,none⟩)]) (fun m=>decide (m.eu=f)&&decide (m.soft=s)) (H.msA k) (mv k) ((hm k hk3).good hG) (fun m _ w' ha=>af2 m f s Y Z w' ?_ ?_)) ?_
  ·obtain⟨hp,hg⟩:=ha;exact hg.cell (by rw[cell_of_block (hG.here ⟨Y,#[.int .i64 f],3⟩ bB5)];rfl) bB5
  ·obtain⟨hp,hg⟩:=ha;exact hg.cell (by rw[cell_of_block (hG.here ⟨Z,#[.int .i64 s],3⟩ bB5)];rfl) bB5
  refine run ?_;refine ah _ rfl (fun hd=>?_) (fun hd=>?_)
  ·refine run ?_;refine fin1 ?_;rw[XY hk3 hd hK];rfl
  ·refine aP ?_;refine aF (k+1) ⟨hk3,fun j hj=>?_⟩;by_cases e:j=k
   ·subst e;exact hd
   ·exact hK j bB3
 ·have hk4:k=4:=by simp at hc;omega
  subst hk4;refine run ?_;refine fin1 ?_;rw[XZ hK]
theorem af4{vv rv:Value}(h:w.rangeAt X 0 [wv,cv,vv,rv,mv 0,mv 1,mv 2,mv 3])(hms:∀ i,i<4→aA w (mv i) 3 ((H.msA i).map Q7))(hw:lW H.ws)(hs:aA w wv 1 (H.ws.map uV))(hm:fJ H.ws.length=true)(f:Nat)(hf:f≤4095):Fn Tryz.prog 118 [.pointer (some ⟨X,0,none⟩),.int .i64 (f:Int)].toArray w [] (fun u _=>u=.agg #[.int .i64 (H.mG f).own,.int .i64 (H.mG f).wit]):=by
 have h0:w.rangeAt X 0 [wv]:=aV (k:=0) (n:=1) h rfl;have h4:w.rangeAt X 4 [mv 0,mv 1,mv 2,mv 3]:=aV (k:=4) (n:=4) h rfl;refine enter Tryz.func118 ?_;refine run ?_;intro R O;refine run ?_;refine az (fun wc hG=>Jb H.ws hw (hs.good hG) hm 0 f hf) ?_;unfold HyD.mG;generalize iE H.ws 0 f=g;refine run ?_;intro D;dsimp only;refine ah _ rfl (fun hc=>?_) (fun hc=>?_)
 ·rw[hc,cond_true];refine run ?_;exact dR (cs:=#[.int .i64 (-1),.int .i64 (-2)]) rfl
 rw[hc,cond_false];refine aC ?_;refine ah _ rfl (fun hc2=>?_) (fun hc2=>?_)
 ·rw[hc2,cond_true];refine run ?_;exact dR (cs:=#[.int .i64 0,.int .i64 (-2)]) rfl
 rw[hc2,cond_false];refine aC ?_;refine ah _ rfl (fun hc3=>?_) (fun hc3=>?_)
 ·rw[hc3,cond_true];refine run ?_;refine az (fun wc hG=>Q9 (hG.range h4 bR5) (fun i hi=>(hms i hi).good hG) f 2) ?_;generalize H.pG f 2=n;refine run ?_;refine ah _ rfl (fun hd=>?_) (fun hd=>?_)
  ·rw[hd,cond_true];refine run ?_;exact dR (cs:=#[.int .i64 0,.int .i64 n]) rfl
  ·rw[hd,cond_false];refine run ?_;exact dR (cs:=#[.int .i64 0,.int .i64 (-1)]) rfl
 rw[hc3,cond_false];refine aC ?_;refine ah _ rfl (fun hc4=>?_) (fun hc4=>?_)
 ·rw[hc4,cond_true];refine run ?_;refine az (fun wc hG=>Q9 (hG.range h4 bR5) (fun i hi=>(hms i hi).good hG) f 1) ?_;generalize H.pG f 1=n;refine run ?_;refine ah _ rfl (fun hd=>?_) (fun hd=>?_)
  ·rw[hd,cond_true];refine run ?_;exact dR (cs:=#[.int .i64 n,.int .i64 0]) rfl
  ·rw[hd,cond_false];refine aP ?_;exact dR (cs:=#[.int .i64 (-1),.int .i64 (-2)]) rfl
 rw[hc4,cond_false];refine aC ?_;refine ah _ rfl (fun hc5=>?_) (fun hc5=>?_)
 ·rw[hc5,cond_true];have hn:1<g.d.note∧g.d.note≤5:=by simp at hc5;omega
  refine run ?_;exact dR (cs:=#[.int .i64 (g.d.note-1),.int .i64 (-2)]) rfl
 rw[hc5,cond_false];refine run ?_;exact dR (cs:=#[.int .i64 (-1),.int .i64 (-2)]) rfl
theorem jH{α:Type}[Inhabited α](l:List α)(h:k<l.length):l[k]=l.getD k default:=by
 rw[bH8,bH9 h];rfl
structure xM(w:World)(X:Nat)(wv cv vv rv:Value)(mv:Nat→Value)(H:HyD):Prop where
 x:w.rangeAt X 0 [wv,cv,vv,rv,mv 0,mv 1,mv 2,mv 3]
 h:vw w wv cv vv rv H
 m:∀ i,i<4→aA w (mv i) 3 ((H.msA i).map Q7)
 ok:H.iq=true
theorem xM.good{w':World}{hp:Hp}{vv rv:Value}(h:xM w X wv cv vv rv mv H)(hG:Good w [] hp w'):xM w' X wv cv vv rv mv H:=⟨hG.range h.x bR5,h.h.good hG,fun i hi=>(h.m i hi).good hG,h.ok⟩
structure vG(H:HyD):Prop where
 m:fJ H.ws.length=true
 f:24≤H.ws.length/8
 c1:1≤H.cs.length
 c3:H.cs.length≤3
 r:H.rs.length=H.cs.length
 v:H.vs.length=4
theorem jq(h:H.iq=true):vG H:=by
 simp only[HyD.iq,bH6,decide_eq_true_eq] at h;obtain⟨⟨⟨⟨a,b⟩,c,d⟩,e⟩,f⟩:=h;exact⟨a,b,c,d,e,f⟩
theorem X0{vv rv:Value}(h:xM w X wv cv vv rv mv H)(i:Nat)(hi:i<4):Fn Tryz.prog 119 [.pointer (some ⟨X,0,none⟩),.int .i64 (i:Int)].toArray w [] (fun u hn=>∃ v1 h1 v2 h2,u=.agg #[.bool (H.bU i).live,.bool (H.bU i).dying,.int .i64 (H.bU i).first,v1,v2]∧Own 3 1 v1 h1 ((H.bU i).aQ.map bY)∧Own 173 2 v2 h2 ((H.bU i).maps.map eF)∧aI (h1++h2) hn):=by
 have hL:=jq h.ok;have h2:w.rangeAt X 2 [vv]:=aV (k:=2) (n:=1) h.x rfl;have h2':=aj h2;have h4:w.rangeAt X 4 [mv 0,mv 1,mv 2,mv 3]:=aV (k:=4) (n:=4) h.x rfl
 have h4i:w.cell? ⟨X,4+i,none⟩=some (mv i):=by
  have:i=0∨i=1∨i=2∨i=3:=by omega
  rcases this with rfl | rfl | rfl | rfl
  ·exact h4 0 _ rfl
  ·exact h4 1 _ rfl
  ·exact h4 2 _ rfl
  ·exact h4 3 _ rfl
 have hms:=h.m i hi;obtain⟨cs,vs,e1,e2,_,hH⟩:=h.h.ex;have hvl:vs.length=4:=by rw[←hL.v,←e2,bH7]
 have hfit:=h.h.fit.v (H.vu i) (getD_mem bG');have hop:=hH.vs.rows.opened;rw[hvl] at hop;obtain⟨q,cap,rfl,hne,_⟩:=hop;obtain⟨b,o,rfl⟩:=hne bC7;have hr:=hH.vs.rows.row (k:=i) bB3;have hfs:=hH.vs.fs _ (getD_mem (l:=vs) (k:=i) bB3);have lC:=hH.vs.vs _ (getD_mem (l:=vs) (k:=i) bB3);have hu:=rM e2 i;rw[show H.vs.getD i default=H.vu i from rfl] at hu;have aX':(H.msA i).length≤4096:=by unfold HyD.msA;rw[bH7];exact zf H i
 obtain⟨g,hg⟩:∃ g,g=H.bU i:=⟨_,rfl⟩
 rw[←hg];unfold HyD.bU at hg;rw[←hu] at hfit hg;have hmm:H.wZ i=(H.msA i).map fun m=>⟨m.mid,m.eu⟩:=by unfold HyD.msA;rw[bW'];exact (List.map_id _).symm
 rw[hmm] at hg;generalize H.msA i=ms at hms aX' hg;generalize vs.getD i default=v at *;simp only[eG.u,kJ.root] at hfit hg;refine enter Tryz.func119 ?_;refine run ?_;intro G V Q;refine ah _ rfl (fun hc=>?_) (fun hc=>?_)
 ·have hlf:v.live=false:=by simpa using hc
  refine run ?_;refine dR (cs:=#[.bool v.live,.bool v.dying,.int .i64 0,.slice none 0 0,.slice none 0 0]) ?_;rw[hlf,cond_false] at hg;rw[hg,hlf];exact⟨_,[],_,[],rfl,Own.nil _ _,Own.nil _ _,by (exact ak)⟩
 have hlt:v.live=true:=by simpa using hc
 rw[hlt,cond_true] at hg;rw[hlt];refine run ?_;have aY0:=hfs.opened;refine sF (σ:=Int) (fun _=>[]) (fun z=>[⟨Q,#[.bool true,.bool v.dying,.int .i64 z,.slice none 0 0,.slice none 0 0],100⟩,⟨V,#[.bool true,.bool v.dying,.int .i64 v.aN,v.fv,v.rv,v.vv],62⟩,⟨G,#[.bool false,.bool false,.int .i64 0,.slice none 0 0,.slice none 0 0],100⟩]) (fun z=>z=bif decide (0<v.fs.length) then v.fs.getD 0 0 else 0) ?_ ?_
 ·refine ah _ rfl (fun hc2=>?_) (fun hc2=>?_)
  ·have h0:0<v.fs.length:=by simpa using hc2
   obtain⟨qf,cf,ef,rP,_⟩:=aY0;obtain⟨bf,BJ,rfl⟩:=rP (by intro e;rw[e] at h0;simp at h0);rw[ef] at hfs ⊢;have hrf:=aj (hfs.row h0);simp only[bK3] at hrf;refine run ?_;exact kZ (v.fs.getD 0 0) (by rw[decide_eq_true h0,cond_true])
  ·have h0:¬ 0<v.fs.length:=by simpa using hc2
   refine run ?_;exact kZ 0 (by rw[decide_eq_false h0,cond_false])
 rintro z hz;replace hg:g=⟨true,v.dying,z,v.vs.map Az.on,ms.map fun m=>⟨m.mid,m.eu⟩⟩:=by rw[hg,hz];rfl
 refine run ?_;have aY1:=lC.opened;obtain⟨qv,AL,ev,X3,_⟩:=aY1;rw[ev];refine aK (σ:=Nat×Value×Hp) (fun s=>[(40,.int .i64 (s.1:Int))]) (fun s=>⟨Q,#[.bool true,.bool v.dying,.int .i64 z,s.2.1,.slice none 0 0],100⟩::⟨V,#[.bool true,.bool v.dying,.int .i64 v.aN,v.fv,v.rv,.slice qv v.vs.length AL],62⟩::⟨G,#[.bool false,.bool false,.int .i64 0,.slice none 0 0,.slice none 0 0],100⟩::s.2.2) (fun s=>s.1≤v.vs.length∧Own 3 1 s.2.1 s.2.2 (((v.vs.take s.1).map Az.on).map bY)) (fun s=>v.vs.length-s.1) (0,.slice none 0 0,[]) ⟨bI1 _,Own.nil _ _⟩ ?_ (hh:=by dsimp only;(exact ak));rintro⟨k,gv,ha⟩ m hm ⟨hk,hA⟩;dsimp only at hm hk hA ⊢;refine run ?_;refine ah _ rfl (fun hc2=>?_) (fun hc2=>?_)
 ·have hkl:k<v.vs.length:=by simp at hc2;omega
  obtain⟨bv,ov,rfl⟩:=X3 bG7;rw[ev] at lC;have Zq:=lC.row hkl;refine run ?_;intro B1 B2;refine aS (⟨B2,#[.int .i64 (v.vs.getD k default).on],3⟩::⟨Q,#[.bool true,.bool v.dying,.int .i64 z,gv,.slice none 0 0],100⟩::⟨V,#[.bool true,.bool v.dying,.int .i64 v.aN,v.fv,v.rv,.slice (some ⟨bv,ov,none⟩) v.vs.length AL],62⟩::⟨G,#[.bool false,.bool false,.int .i64 0,.slice none 0 0,.slice none 0 0],100⟩::ha) ak ?_;refine wz (c:=[.int .i64 (v.vs.getD k default).on]) (⟨B2,#[.int .i64 (v.vs.getD k default).on],3⟩::⟨Q,#[.bool true,.bool v.dying,.int .i64 z,gv,.slice none 0 0],100⟩::⟨V,#[.bool true,.bool v.dying,.int .i64 v.aN,v.fv,v.rv,.slice (some ⟨bv,ov,none⟩) v.vs.length AL],62⟩::[⟨G,#[.bool false,.bool false,.int .i64 0,.slice none 0 0,.slice none 0 0],100⟩]) hA (fun v' ha' hA2=>?_) bB9 (aY (m:=1) mh rfl) (hperm:=by (exact aU));obtain⟨q9,c9,e9⟩:=hA2.opened;subst e9;refine aS (⟨Q,#[.bool true,.bool v.dying,.int .i64 z,gv,.slice none 0 0],100⟩::⟨V,#[.bool true,.bool v.dying,.int .i64 v.aN,v.fv,v.rv,.slice (some ⟨bv,ov,none⟩) v.vs.length AL],62⟩::⟨G,#[.bool false,.bool false,.int .i64 0,.slice none 0 0,.slice none 0 0],100⟩::ha') ak ?_;refine run ?_;exact aF (k+1,_,ha') ⟨hkl,by dsimp only;rw[bM5 hkl,bJ4,bJ4,bN5,bN5,jH v.vs hkl];exact hA2⟩ (hm:=by dsimp only;omega) (h2:=by (exact ak))
 have hke:k=v.vs.length:=by simp at hc2;omega
 subst hke;rw[bN4] at hA;obtain⟨qa,ca,xa⟩:=hA.opened;simp only[bH7] at xa;subst xa;obtain⟨qm,cm,em,aY2,_⟩:=hms.opened;rw[em] at hms h4i;refine run ?_;refine aK (σ:=Nat×Value×Hp) (fun s=>[(59,.int .i64 (s.1:Int))]) (fun s=>⟨Q,#[.bool true,.bool v.dying,.int .i64 z,.slice qa v.vs.length ca,s.2.1],100⟩::⟨V,#[.bool true,.bool v.dying,.int .i64 v.aN,v.fv,v.rv,.slice qv v.vs.length AL],62⟩::⟨G,#[.bool false,.bool false,.int .i64 0,.slice none 0 0,.slice none 0 0],100⟩::(ha++s.2.2)) (fun s=>s.1≤ms.length∧Own 173 2 s.2.1 s.2.2 (((ms.take s.1).map fun m=>(⟨m.mid,m.eu⟩:jQ)).map eF)) (fun s=>ms.length-s.1) (0,.slice none 0 0,[]) ⟨bI1 _,Own.nil _ _⟩ ?_ (hh:=by dsimp only;(exact ak));rintro⟨k,gv,hb⟩ m hm ⟨hk,hB⟩;dsimp only at hm hk hB ⊢;refine run ?_;refine ah _ rfl (fun hc3=>?_) (fun hc3=>?_)
 ·have hkl:k<ms.length:=by simp at hc3;omega
  obtain⟨bm,om,rfl⟩:=aY2 bG7;have hrm:=hms.row hkl;refine run ?_;intro B1 B2;refine aS (⟨B2,#[.int .i64 (ms.getD k default).mid,.int .i64 (ms.getD k default).eu],173⟩::⟨Q,#[.bool true,.bool v.dying,.int .i64 z,.slice qa v.vs.length ca,gv],100⟩::⟨V,#[.bool true,.bool v.dying,.int .i64 v.aN,v.fv,v.rv,.slice qv v.vs.length AL],62⟩::⟨G,#[.bool false,.bool false,.int .i64 0,.slice none 0 0,.slice none 0 0],100⟩::(ha++hb)) ak ?_;refine wz (c:=[.int .i64 (ms.getD k default).mid,.int .i64 (ms.getD k default).eu]) (⟨B2,#[.int .i64 (ms.getD k default).mid,.int .i64 (ms.getD k default).eu],173⟩::⟨Q,#[.bool true,.bool v.dying,.int .i64 z,.slice qa v.vs.length ca,gv],100⟩::⟨V,#[.bool true,.bool v.dying,.int .i64 v.aN,v.fv,v.rv,.slice qv v.vs.length AL],62⟩::⟨G,#[.bool false,.bool false,.int .i64 0,.slice none 0 0,.slice none 0 0],100⟩::ha) hB (fun v' ha' hA2=>?_) bB9 (aY (m:=2) mh rfl) (hperm:=by (exact aU));obtain⟨q9,c9,e9⟩:=hA2.opened;subst e9;refine aS (⟨Q,#[.bool true,.bool v.dying,.int .i64 z,.slice qa v.vs.length ca,gv],100⟩::⟨V,#[.bool true,.bool v.dying,.int .i64 v.aN,v.fv,v.rv,.slice qv v.vs.length AL],62⟩::⟨G,#[.bool false,.bool false,.int .i64 0,.slice none 0 0,.slice none 0 0],100⟩::(ha++ha')) ak ?_;refine run ?_;exact aF (k+1,_,ha') ⟨hkl,by dsimp only;rw[bM5 hkl,bJ4,bJ4,bN5,bN5,jH ms hkl];exact hA2⟩ (hm:=by dsimp only;omega) (h2:=by (exact ak))
 have hke:k=ms.length:=by simp at hc3;omega
 subst hke;rw[bN4] at hB;obtain⟨qb,cb,xb⟩:=hB.opened;simp only[bH7] at xb;subst xb;refine run ?_;refine dR (cs:=#[.bool true,.bool v.dying,.int .i64 z,.slice qa v.vs.length ca,.slice qb ms.length cb]) ?_;rw[hg];exact⟨_,ha,_,hb,rfl,hA,hB,by (exact ak)⟩
theorem Dp{ws:List Nat}{root:Int}{q:Nat}{m:jQ}:∀ {n:Nat} {xs:List jQ},dL ws root q n=some xs→m∈xs→∃ k,k<n∧lX ws root (q+k)=some [m]:=by
 intro n
 induction n with
 | zero=>intro xs h hm;cases h;cases hm
 | succ n ih=>
  intro xs h hm;rw[dL] at h
  cases h1:dL ws root q n with
  | none=>rw[h1] at h;cases h
  | some a=>
   rw[h1] at h;dsimp only at h
   cases h2:lX ws root (q+n) with
   | none=>rw[h2] at h;cases h
   | some b=>
    rw[h2] at h;cases h;rcases bK4.1 hm with h3 | h3
    ·obtain⟨k,hk,e⟩:=ih h1 h3;exact⟨k,by omega,e⟩
    ·refine⟨n,by omega,?_⟩;rw[h2];unfold lX at h2;dsimp only at h2;revert h2
     cases (!(aO ws root (q+n) 3).ok) with
     | true=>intro h2;cases h2
     | false=>
      cases decide ((aO ws root (q+n) 3).d.kind=2) with
      | true=>intro h2;cases h2;rw[bN3.1 h3]
      | false=>intro h2;cases h2;cases h3
theorem vH{ws:List Nat}{root:Int}{q:Nat}{m:jQ}(h:lX ws root q=some [m]):(aO ws root q 3).ok=true∧(aO ws root q 3).d.kind=2∧m.mid=(q:Int)∧m.eu=(aO ws root q 3).d.frame+((q%au (aO ws root q 3).lv:Nat):Int):=by
 unfold lX at h;dsimp only at h;revert h
 cases (aO ws root q 3).ok with
 | false=>intro h;cases h
 | true=>
  by_cases hk:(aO ws root q 3).d.kind=2
  ·rw[decide_eq_true hk];intro h;cases h;exact⟨rfl,hk,rfl,rfl⟩
  ·rw[decide_eq_false hk];intro h;cases h
theorem af5{m:jQ}(h:m∈H.wZ i):∃ q:Nat,q≤15∧(H.vu i).has=true∧lX H.ws (H.vu i).root q=some [m]:=by
 unfold HyD.wZ at h
 cases hh:(H.vu i).has with
 | false=>rw[hh] at h;cases h
 | true=>
  rw[hh,cond_true] at h;obtain⟨h1,h2⟩:=bN'.1 h
  cases hp:dL H.ws (H.vu i).root 0 4096 with
  | none=>rw[hp] at h1;cases h1
  | some xs=>
   rw[hp] at h1;obtain⟨k,hk,e⟩:=Dp hp h1;rw[bK2] at e;have:=(vH e).2.2.1;rw[this] at h2;exact⟨k,by simp at h2;omega,rfl,e⟩
theorem Rh{m:jQ}(h:m∈H.wZ i):0≤m.mid∧m.mid≤15∧0≤m.eu∧m.eu≤8191:=by
 obtain⟨q,hq,_,e⟩:=af5 h;obtain⟨h1,h2,h3,h4⟩:=vH e;have hf:=jO h1;have hd:=mD H.ws ((aO H.ws (H.vu i).root q 3).place q) (aO H.ws (H.vu i).root q 3).lv;rw[←hf.d] at hd;have:=(gy hd).2.2.2 h2;have hm:q%au (aO H.ws (H.vu i).root q 3).lv≤q:=Nat.mod_le _ _;omega
end
theorem Ub{ws:List Nat}{p down:Nat}:∀ (k level:Nat) (f:Int) (fs:List Int) (d:DsD),fs.length≤(bT ws p down k level f fs d).fs.length:=by
 intro k
 induction k with
 | zero=>intro level f fs d;exact bI9 _
 | succ k ih=>
  intro level f fs d;rw[bT]
  cases bK ws.length f with
  | false=>exact bI9 _
  | true=>
   simp only[cond_true]
   cases (!decide ((gJ ws (jh f level p) level).kind=1)||decide (level=down)) with
   | true=>simp
   | false=>
    have:=ih (level+1) (gJ ws (jh f level p) level).frame (fs++[f]) (gJ ws (jh f level p) level);rw[bJ9] at this;simp only[cond_false];omega
theorem Uc{ws:List Nat}{p q:Nat}:∀ (k level:Nat) (f:Int) (fs:List Int) (d:DsD),fs.length=level→(∀ l,level≤l→l<(bT ws p 3 k level f fs d).fs.length→mg l q=mg l p)→bT ws q 3 k level f fs d=bT ws p 3 k level f fs d:=by
 intro k
 induction k with
 | zero=>intro level f fs d _ _;rfl
 | succ k ih=>
  intro level f fs d hfs h
  have hg:bK ws.length f=true→level<(bT ws p 3 (k+1) level f fs d).fs.length:=fun hh=>by
   rw[bT,hh];simp only[cond_true]
   cases (!decide ((gJ ws (jh f level p) level).kind=1)||decide (level=3)) with
   | true=>simp[hfs]
   | false=>
    have:=Ub (ws:=ws) (p:=p) (down:=3) k (level+1) (gJ ws (jh f level p) level).frame (fs++[f]) (gJ ws (jh f level p) level);rw[bJ9,hfs] at this;simp only[cond_false];exact this
  cases hh:bK ws.length f with
  | false=>rw[bT,bT,hh];rfl
  | true=>
   have hi:=h level (bI9 _) (hg hh);rw[bT] at h;rw[bT,bT,hh];simp only[cond_true];rw[show jh f level q=jh f level p by unfold jh;rw[hi]];rw[hh] at h;simp only[cond_true] at h
   cases hc:(!decide ((gJ ws (jh f level p) level).kind=1)||decide (level=3)) with
   | true=>rfl
   | false=>
    rw[hc] at h;simp only[cond_false] at h ⊢;exact ih _ _ _ _ (by simp[hfs]) fun l h1 h2=>h l bB3 h2
theorem Py{l:Nat}:au l=2 ^ lV l:=by unfold au;rw[Nat.one_shiftLeft]
theorem Ud{ws:List Nat}{root:Int}{p q:Nat}(h:q/au (aO ws root p 3).lv=p/au (aO ws root p 3).lv):aO ws root q 3=aO ws root p 3:=by
 refine Uc 4 0 root [] dG rfl fun l _ hl=>?_;have hle:l≤(aO ws root p 3).lv:=by unfold qQ.lv aO;omega
 have h4:=yQ ws root p 3;generalize (aO ws root p 3).lv=lv at h hle;unfold mg;rw[bP6,bP6];rw[Py] at h;have hb:lV l=lV lv+(lV l-lV lv):=by unfold lV;omega
 rw[hb,Nat.pow_add,←Nat.div_div_eq_div_mul,←Nat.div_div_eq_div_mul,h]
section
attribute [local irreducible] Hy St Ops DH dH
def ap0(r:Option (List jQ))(u:Value)(hn:Hp):Prop:=match r with
 | none=>u=.tuple #[.slice none 0 0,.bool false]
 | some xs=>∃ v h,u=.tuple #[v,.bool true]∧Own 173 2 v h (xs.map eF)∧aI h hn
theorem az6(ws:List Nat)(hw:lW ws)(h:aA w v 1 (ws.map uV))(root:Int)(hn:ws.length<1000000):Fn Tryz.prog 92 [.agg #[v],.int .i64 root].toArray w [] (fun u hn=>ap0 (dL ws root 0 4096) u hn):=by
 obtain⟨q,cap,rfl,hne,hle⟩:=h.opened;refine enter Tryz.func92 ?_;refine run ?_;intro B;refine run ?_;refine aK (σ:=Nat×Value×Hp×List jQ) (fun s=>[(7,.int .i64 (s.1:Int)),(6,s.2.1)]) (fun s=>⟨B,#[.slice q ws.length cap],24⟩::s.2.2.1) (fun s=>s.1≤4096∧s.2.2.2.length≤s.1∧dL ws root 0 s.1=some s.2.2.2∧(∀ q,q<s.1→(q/au (aO ws root q 3).lv+1)*au (aO ws root q 3).lv≤s.1)∧Acc 173 2 s.2.1 s.2.2.1 (s.2.2.2.map eF)) (fun s=>4096-s.1) (0,.slice none 0 0,[],[]) ⟨bI1 _,bI9 _,rfl,fun q hq=>absurd hq bB3,Acc.nil _ _⟩ ?_;rintro⟨mid,av,ha,xs⟩ m hm ⟨hmid,hxl,qH,hbl,hA⟩;dsimp only at hm hmid hxl qH hbl hA ⊢;obtain⟨qa,ca,ea⟩:=hA.own.opened;rw[bH7] at ea;subst ea;refine run ?_;refine ah _ rfl (fun hc=>?_) (fun hc=>?_)
 ·have hlt:mid≤4095:=by simp at hc;omega
  refine run ?_;refine bH (fun wc hG=>OD ws hw (h.good hG) root mid hlt bB3) ?_;rintro u hn2 ⟨v2,h2,rfl,hO,hle2⟩;have hl4:=yQ ws root mid 3;have hwb:=fun p2=>Ud (ws:=ws) (root:=root) (p:=mid) (q:=p2);generalize hW:aO ws root mid 3=W at hO hl4 hwb ⊢;obtain⟨q2,c2,e2⟩:=hO.opened;rw[bH7] at e2;subst e2;refine aS (⟨B,#[.slice q ws.length cap],24⟩::ha) ak ?_;refine run ?_;intro D;refine run ?_
  cases hok:W.ok with
  | false=>
   have hnone:dL ws root 0 4096=none:=LK (k:=mid) (by unfold lX;rw[bK2,hW];simp[hok]) bB3;rw[hnone];refine aP ?_
   exact fin2 rfl
  | true=>
   have kE:=jO (hW▸hok);rw[hW] at kE;have hpos:=kE.pos;have hc9:=fH (level:=W.lv) (by unfold qQ.lv;omega);simp only[cond_true];refine aP ?_;refine az (fun wc hG=>pq W.lv (by unfold qQ.lv;omega) wc) ?_;refine run ?_;generalize hcv:au W.lv=c at *
   have hal:mid%c=0:=by
    rcases bU' (mid%c) with h0 | h0
    ·exact h0
    ·exfalso;have hdm:=Nat.div_add_mod mid c;have hm0:mid≠0:=by intro e;rw[e,Nat.zero_mod] at h0;omega
     have hq:(mid-1)/c=mid/c:=by
      have:mid-1=(mid%c-1)+c*(mid/c):=by omega
      have hlt2:=bV8 mid (show 0<c by omega);rw[this,Nat.add_mul_div_left _ _ bB3,Nat.div_eq_of_lt bB3,bK2]
     have h1:=hbl (mid-1) bB3;rw[hwb (mid-1) hq,hcv,hq,bN6] at h1;have hlt2:=bV8 mid (show 0<c by omega);rw[bQ4] at h1;omega
   have hc4:c=512∨c=64∨c=8∨c=1:=by
    rw[←hcv];have h4:W.lv<4:=by unfold qQ.lv;omega
    generalize W.lv=lv at h4;obtain rfl | rfl | rfl | rfl:lv=0∨lv=1∨lv=2∨lv=3:=by omega
    all_goals decide
   have hmc:mid+c≤4096:=by clear hcv;rcases hc4 with rfl | rfl | rfl | rfl<;>omega
   have hqd:∀ q,mid≤q→q<mid+c→q/c=mid/c:=fun q h1 h2=>by clear hcv;rcases hc4 with rfl | rfl | rfl | rfl<;>omega
   have aM3:∀ q,q<mid+c→(q/au (aO ws root q 3).lv+1)*au (aO ws root q 3).lv≤mid+c:=fun q hq=>by
    rcases bQ3 q mid with h1 | h1
    ·exact bP8 (hbl q h1) bB3
    ·rw[hwb q (hqd q h1 hq),hcv,hqd q h1 hq,bN6,bQ4];have:=Nat.div_add_mod mid c;omega
   have hws:∀ j,j<c→aO ws root (mid+j) 3=W:=fun j hj=>hwb _ (hqd _ bB3 bB3)
   have hall:dL ws root 0 (mid+c)=some (xs++bif decide (W.d.kind=2) then rJ mid W.d.frame c else []):=by
    rw[wI,qH];dsimp only;rw[bK2];by_cases hk:W.d.kind=2
    ·rw[LM hok hk (by rw[hcv];exact hal) c (by rw[hcv];exact bI9 _) hws,decide_eq_true hk];rfl
    ·rw[XL hok hk c hws,decide_eq_false hk];rfl
   have hfr:W.d.kind=2→0≤W.d.frame∧W.d.frame≤4095:=fun hk=>by
    have hmay:W.d.may 2 W.lv=true:=by rw[kE.d];exact mD _ _ _
    obtain⟨_,_,_,k4⟩:=gy hmay;have:=k4 hk;omega
   refine ah _ rfl (fun hc2=>?_) (fun hc2=>?_)
   ·have hk:W.d.kind=2:=of_decide_eq_true hc2;have hfr2:=hfr hk;rw[decide_eq_true hk] at hall;refine run ?_;refine aK (σ:=Nat×Value×Hp) (fun s=>[(13,.int .i64 (s.1:Int)),(6,s.2.1)]) (fun s=>⟨D,#[.int .i64 W.d.kind,.int .i64 W.d.frame,.bool W.d.r,.bool W.d.w,.bool W.d.x,.bool W.d.af,.bool W.d.ng,.int .i64 W.d.soft,.int .i64 W.d.note],95⟩::⟨B,#[.slice q ws.length cap],24⟩::s.2.2) (fun s=>s.1≤c∧Acc 173 2 s.2.1 s.2.2 ((xs++rJ mid W.d.frame s.1).map eF)) (fun s=>c-s.1) (0,.slice qa xs.length ca,ha) ⟨bI1 _,by simpa [rJ] using hA⟩ ?_;rintro⟨k,kv,hk2⟩ m2 hm2 ⟨hkc,hA2⟩;dsimp only at hm2 hkc hA2 ⊢;obtain⟨qb,cb,eb⟩:=hA2.own.opened;subst eb;refine run ?_;refine ah _ rfl (fun hc3=>?_) (fun hc3=>?_)
    ·have az7:k<c:=by simp at hc3;omega
     refine run ?_;intro T;refine dK (c:=eF ⟨((mid+k:Nat):Int),W.d.frame+(k:Int)⟩) (hp':=[⟨T,#[.int .i64 ((mid:Int)+(k:Int)),.int .i64 (W.d.frame+(k:Int))],173⟩,⟨D,#[.int .i64 W.d.kind,.int .i64 W.d.frame,.bool W.d.r,.bool W.d.w,.bool W.d.x,.bool W.d.af,.bool W.d.ng,.int .i64 W.d.soft,.int .i64 W.d.note],95⟩,⟨B,#[.slice q ws.length cap],24⟩]) hA2 (fun v' ha' hA'=>?_) (by simp[yY];omega) (aY (m:=2) mh rfl) (hperm:=by (exact aU));rw[show (xs++rJ mid W.d.frame k).map eF++[eF ⟨((mid+k:Nat):Int),W.d.frame+(k:Int)⟩]=(xs++rJ mid W.d.frame (k+1)).map eF by rw[rJ];simp] at hA';refine aS (⟨D,#[.int .i64 W.d.kind,.int .i64 W.d.frame,.bool W.d.r,.bool W.d.w,.bool W.d.x,.bool W.d.af,.bool W.d.ng,.int .i64 W.d.soft,.int .i64 W.d.note],95⟩::⟨B,#[.slice q ws.length cap],24⟩::ha') ak ?_;refine run ?_;refine aF (k+1,v',ha') ⟨az7,hA'⟩ (hm:=by dsimp only;omega) (h2:=by (exact ak))
    ·have az8:k=c:=by simp at hc3;omega
     subst az8;refine run ?_;refine aF (mid+k,.slice qb ((xs++rJ mid W.d.frame k).map eF).length cb,hk2,xs++rJ mid W.d.frame k) ⟨hmc,by simp[yY];omega,hall,aM3,hA2⟩ (hm:=by dsimp only;omega) (h2:=by (exact ak))
   ·have hk:¬ W.d.kind=2:=of_decide_eq_false hc2;rw[decide_eq_false hk] at hall;refine run ?_;refine aF (mid+c,.slice qa xs.length ca,ha,xs) ⟨hmc,by dsimp only;omega,by simpa using hall,aM3,hA⟩ (hm:=by dsimp only;omega) (h2:=by (exact ak))
 ·refine run ?_;have:mid=4096:=by simp at hc;omega
  subst this;rw[qH];exact fin2 ⟨_,ha,rfl,hA.own,by (exact ak)⟩
end
theorem aA.ap1{w':World}{hp:Hp}{mu:List Nat}{o cap sz:Nat}{xs:List (List Value)}(h:aA w (.slice (some ⟨b,o,none⟩) n cap) sz xs)(hb:b∉mu)(hG:Good w mu hp w'):aA w' (.slice (some ⟨b,o,none⟩) n cap) sz xs:=by
 obtain⟨⟨p,c,e,hp⟩,hl⟩:=h;refine⟨⟨p,c,e,fun hne=>?_⟩,hl⟩;obtain⟨b',off,rfl,hr⟩:=hp hne;injection e with e
 injection e with e
 injection e with e1 e2
 subst e1;exact⟨b,off,rfl,fun i c hc=>hG.range (hr i c hc) hb⟩
theorem Good.apart{w0:World}{hp:Hp}{mu:List Nat}{o cap:Nat}{ws:List Nat}(hG:Good w0 mu hp w)(h:aA w0 (.slice (some ⟨b,o,none⟩) n cap) 1 (ws.map uV))(hne:ws≠[])(hb:b∉mu):b∉hp.map (·.b):=by
 have h0:0<ws.length:=List.length_pos_iff.2 hne;have hr:=h.row h0;have hc:=hr 0 _ rfl;have hlt:b<w0.heap.size:=block_lt_of_cell hc;intro hm;obtain⟨e,he,rfl⟩:=bI7.1 hm;rcases hG.own e he with h1 | h1
 ·exact hb h1
 ·omega
theorem af6{ws:List Nat}{root:Int}{q:Nat}:∀ {n:Nat} {xs:List jQ},dL ws root q n=some xs→xs.length≤n:=by
 intro n
 induction n with
 | zero=>intro xs h;cases h;exact bI9 _
 | succ n ih=>
  intro xs h;rw[dL] at h
  cases h1:dL ws root q n with
  | none=>rw[h1] at h;cases h
  | some ys=>
   rw[h1] at h;dsimp only at h;have hy:=ih h1
   cases h2:lX ws root (q+n) with
   | none=>rw[h2] at h;cases h
   | some zs=>
    rw[h2] at h;cases h
    have hz:zs.length≤1:=by
     unfold lX at h2;dsimp only at h2
     cases h3:(!(aO ws root (q+n) 3).ok) with
     | true=>rw[h3] at h2;cases h2
     | false=>
      rw[h3,cond_false] at h2
      cases h4:decide ((aO ws root (q+n) 3).d.kind=2) with
      | true=>rw[h4] at h2;cases h2;exact bI9 _
      | false=>rw[h4] at h2;cases h2;exact bI1 _
    rw[bJ9];omega
section
attribute [local irreducible] Hy St Ops DH dH
def aM4(r:Option (List jQ))(xs:List jQ)(u:Value)(hn:Hp):Prop:=match r with
 | none=>u=.tuple #[.slice none 0 0,.bool false]
 | some ys=>∃ v h,u=.tuple #[v,.bool true]∧Acc 173 2 v h ((xs++ys).map eF)∧aI h hn
theorem af7(ws:List Nat)(hw:lW ws)(hm:fJ ws.length=true)(root:Int):∀ (k level:Nat),level+k=3→∀ (w:World) (b o cap:Nat) (h:aA w (.slice (some ⟨b,o,none⟩) ws.length cap) 1 (ws.map uV)) (f:Int) (page:Nat) (hp:page%(8*au level)=0) (hpl:page+8*au level≤4096) (hon:BF ws root f level page) (xs:List jQ) (hxl:xs.length≤page) (v:Value) (ha:Hp) (hA:Acc 173 2 v ha (xs.map eF)) (hN:dY ha w) (hb:b∉ha.map (·.b)),
  Fn Tryz.prog 194 [.agg #[.slice (some ⟨b,o,none⟩) ws.length cap,.int .i64 root],v,.int .i64 f,.int .i64 (level:Int),.int .i64 (page:Int)].toArray w (ha.map (·.b)) (fun u hn=>aM4 (dL ws root page (8*au level)) xs u hn):=by
 intro k
 induction k using Nat.strongRecOn with
 | ind k ih=>
 intro level hlk w b o cap h f page hp hpl hon xs hxl v ha hA hN hb;have rY:=bP hm;have hl:level<4:=by omega
 have hc9:=fH hl;obtain⟨q,c,ev⟩:=hA.own.opened;rw[bH7] at ev;subst ev;refine dS ha hN Tryz.func194 ?_;refine run ?_;intro B;refine run ?_;refine az (fun wc hG=>OG ws.length cap _ root bB3 f wc) ?_;refine run ?_;refine ah _ rfl (fun hc=>?_) (fun hc=>?_)
 ·have hh:bK ws.length f=false:=by simpa using hc
  rw[O6 hl hon hh];refine run ?_;exact fin2 rfl
 have hh:bK ws.length f=true:=by simpa using hc
 have hfi:=iJ hh;refine run ?_;refine az (fun wc hG=>Gx level hl wc) ?_;refine run ?_;have hwl:ws≠[]:=by intro e;rw[e] at rY;simp at rY
 generalize hcv:au level=cv at *;have aY5:dL ws root page 0=some []:=rfl;refine aK (σ:=Nat×Value×Hp×List jQ) (fun s=>[(29,.int .i64 (s.1:Int)),(1,s.2.1)]) (fun s=>⟨B,#[.slice (some ⟨b,o,none⟩) ws.length cap,.int .i64 root],272⟩::s.2.2.1) (fun s=>s.1≤8∧dL ws root page (s.1*cv)=some s.2.2.2∧s.2.2.2.length≤s.1*cv∧Acc 173 2 s.2.1 s.2.2.1 ((xs++s.2.2.2).map eF)) (fun s=>8-s.1) (0,.slice q xs.length c,ha,[]) ⟨bI1 _,by simp only[bR6];exact aY5,bI1 _,by simpa using hA⟩ ?_;rintro⟨i,ov,h1,ys⟩ m hm2 ⟨hi,qH,hyl,hA1⟩;dsimp only at hm2 hi qH hyl hA1 ⊢;obtain⟨q1,c1,e1⟩:=hA1.own.opened;subst e1;refine run ?_;refine ah _ rfl (fun hc2=>?_) (fun hc2=>?_)
 ·have NL:i<8:=by simp at hc2;omega
  have hic:i*cv≤7*cv:=bK8 _ bB3;have hmul:(i:Int)*(cv:Int)=((i*cv:Nat):Int):=(Int.natCast_mul _ _).symm;have hsl:=TN hl (hcv▸hp) NL hh hon;rw[hcv] at hsl;refine run ?_;rw[show f*8+(i:Int)=((f.toNat*8+i:Nat):Int) by omega,show (page:Int)+(i:Int)*(cv:Int)=((page+i*cv:Nat):Int) by rw[hmul];omega];have hdm:=mD ws (f.toNat*8+i) level;have hdt:(gJ ws (f.toNat*8+i) level).kind=1→level<3:=fun e=>sZ e;have aY6:=fun hl3=>xJ (ws:=ws) (root:=root) (f:=f) (level:=level) (page:=page) (i:=i) hl3 (hcv▸hp) NL hh hon;refine az (fun wc hG=>an' ws hw (h.ap1 hb hG) root (f.toNat*8+i) level hl bB3 bB3) ?_;generalize gJ ws (f.toNat*8+i) level=d at *;obtain⟨hk3,hk0,hk1,hk2⟩:=gy hdm
  have hstep:∀ zs,dL ws root (page+i*cv) cv=some zs→dL ws root page ((i+1)*cv)=some (ys++zs):=fun zs hz=>by
   rw[bN6,wI,qH];dsimp only;rw[hz]
  have hstop:dL ws root (page+i*cv) cv=none→dL ws root page (8*cv)=none:=fun hz=>by
   have e:8*cv=i*cv+(cv+(7*cv-i*cv)):=by omega
   rw[e,wI,qH];dsimp only;rw[wI,hz]
  refine run ?_;intro D;refine run ?_;rcases hk3 with hk | hk | hk
  ·rw[hk];refine aP ?_;have h2:=hstep [] (hsl.2 hk);rw[bI'] at h2;refine aF (i+1,.slice q1 ((xs++ys).map eF).length c1,h1,ys) ⟨NL,h2,by dsimp only;rw[bN6];omega,hA1⟩ (hm:=by dsimp only;omega) (h2:=by (exact ak))
  ·rw[hk];refine aP ?_;have hl3:=hdt hk;have hcn:8*au (level+1)=cv:=by rw[←hcv,kG hl3]
   have hcm:(page+i*cv)%cv=0:=by
    have h8:cv ∣ page:=bX8 ⟨8,bQ4 _ _⟩ (bR8 hp);exact bT4 (Nat.dvd_add h8 ⟨i,bQ4 _ _⟩)
   refine iR (R:=fun u hn=>aM4 (dL ws root (page+i*cv) cv) (xs++ys) u hn) h1 [⟨D,#[.int .i64 1,.int .i64 d.frame,.bool d.r,.bool d.w,.bool d.x,.bool d.af,.bool d.ng,.int .i64 d.soft,.int .i64 d.note],95⟩,⟨B,#[.slice (some ⟨b,o,none⟩) ws.length cap,.int .i64 root],272⟩] (fun wc hG=>by
    have h5:=ih (k-1) bB3 (level+1) bB3 wc b o cap (h.ap1 hb hG) d.frame (page+i*cv) (by rw[hcn];exact hcm) (by rw[hcn];omega) (hcv▸aY6 hl3 hk) (xs++ys) (by rw[bJ9];omega) _ h1 hA1 hG.iG (fun hmem=>(hG.apart h hwl hb) (by rw[bJ4];exact bJ2 _ hmem));rw[hcn] at h5
    exact h5) ?_ aU
   intro u hn hR
   cases hz:dL ws root (page+i*cv) cv with
   | none=>
    rw[hz] at hR;obtain rfl:u=.tuple #[.slice none 0 0,.bool false]:=hR;rw[hstop hz];refine aP ?_
    exact fin2 rfl
   | some zs=>
    rw[hz] at hR;obtain⟨v',h',rfl,hA',hle'⟩:=hR;have hzl:=af6 hz;refine ig hle' ?_;refine aP ?_;refine aF (i+1,v',h',ys++zs) ⟨NL,hstep zs hz,by dsimp only;rw[bJ9,bN6];omega,by rw[←bK7];exact hA'⟩ (hm:=by dsimp only;omega) (h2:=by (exact ak))
  ·rw[hk];refine aP ?_;have hk4:=hk2 hk;have hfull:=hstep _ (hsl.1 hk);refine aK (σ:=Nat×Value×Hp) (fun s=>[(65,.int .i64 (s.1:Int)),(1,s.2.1)]) (fun s=>⟨D,#[.int .i64 2,.int .i64 d.frame,.bool d.r,.bool d.w,.bool d.x,.bool d.af,.bool d.ng,.int .i64 d.soft,.int .i64 d.note],95⟩::⟨B,#[.slice (some ⟨b,o,none⟩) ws.length cap,.int .i64 root],272⟩::s.2.2) (fun s=>s.1≤cv∧Acc 173 2 s.2.1 s.2.2 ((xs++(ys++rJ (page+i*cv) d.frame s.1)).map eF)) (fun s=>cv-s.1) (0,.slice q1 ((xs++ys).map eF).length c1,h1) ⟨bI1 _,by simpa [rJ] using hA1⟩ ?_;rintro⟨j,kv,hk2⟩ m2 Q3 ⟨hkc,hA2⟩;dsimp only at Q3 hkc hA2 ⊢;obtain⟨qb,cb,eb⟩:=hA2.own.opened;subst eb;refine run ?_;refine ah _ rfl (fun hc3=>?_) (fun hc3=>?_)
   ·have az7:j<cv:=by simp at hc3;omega
    refine run ?_;intro T;refine dK (c:=eF ⟨((page+i*cv+j:Nat):Int),d.frame+(j:Int)⟩) (hp':=[⟨T,#[.int .i64 (((page+i*cv:Nat):Int)+(j:Int)),.int .i64 (d.frame+(j:Int))],173⟩,⟨D,#[.int .i64 2,.int .i64 d.frame,.bool d.r,.bool d.w,.bool d.x,.bool d.af,.bool d.ng,.int .i64 d.soft,.int .i64 d.note],95⟩,⟨B,#[.slice (some ⟨b,o,none⟩) ws.length cap,.int .i64 root],272⟩]) hA2 (fun v' ha' hA'=>?_) (by simp[yY];omega) (aY (m:=2) mh rfl) (hperm:=by (exact aU));rw[show (xs++(ys++rJ (page+i*cv) d.frame j)).map eF++[eF ⟨((page+i*cv+j:Nat):Int),d.frame+(j:Int)⟩]=(xs++(ys++rJ (page+i*cv) d.frame (j+1))).map eF by rw[rJ];simp] at hA';refine aS (⟨D,#[.int .i64 2,.int .i64 d.frame,.bool d.r,.bool d.w,.bool d.x,.bool d.af,.bool d.ng,.int .i64 d.soft,.int .i64 d.note],95⟩::⟨B,#[.slice (some ⟨b,o,none⟩) ws.length cap,.int .i64 root],272⟩::ha') ak ?_;refine run ?_;refine aF (j+1,v',ha') ⟨az7,hA'⟩ (hm:=by dsimp only;omega) (h2:=by (exact ak))
   ·have az8:j=cv:=by simp at hc3;omega
    subst az8;refine run ?_;refine aF (i+1,.slice qb ((xs++(ys++rJ (page+i*j) d.frame j)).map eF).length cb,hk2,ys++rJ (page+i*j) d.frame j) ⟨NL,hfull,by dsimp only;rw[bJ9,yY,bN6];omega,hA2⟩ (hm:=by dsimp only;omega) (h2:=by (exact ak))
 ·have NL:i=8:=by simp at hc2;omega
  subst NL;rw[qH];refine run ?_;exact fin2 ⟨_,h1,rfl,hA1,by (exact ak)⟩
theorem Mc{G R:Prop}(k:R)(h:yC R→G:=by (intro nR;(repeat (first | (with_reducible apply H6) | (with_reducible apply vO) | (with_reducible apply vP) | (with_reducible apply Ia) | (with_reducible apply CJ) | (with_reducible apply vU) | (with_reducible apply rZ) | (with_reducible apply CO) | (with_reducible apply yc) | (with_reducible apply CE) | (with_reducible apply H7) | (with_reducible apply Cm) | (with_reducible apply CB) | ((with_reducible apply yf);rfl) | ((with_reducible apply jI);rfl;(first | exact Wy)) | ((with_reducible apply Qq);rfl;rfl;(exact lZ);intro blk) | ((with_reducible apply CP aB);rfl;rfl;(exact lZ);intro blk) | ((with_reducible apply yh aB);rfl;rfl;(exact lZ);rfl;rfl;(exact DV);(exact Wv);(exact Wx);(exact xA)) | ((with_reducible apply yj aB);rfl;rfl;rfl;(exact lZ);rfl;rfl;rfl;rfl;(exact QD);intro blk) | ((with_reducible apply Sj);rfl;rfl;rfl;rfl;(intro hg1;(try simp only[hg1,bI,bI6]);(first | exact hyG | exact Bq hg1 rfl))) | ((with_reducible apply Dy);rfl;rfl;rfl;rfl;(intro hg0 hg1;have hgC:=hg0;(try simp only[bH6] at hg0);(try simp only[hg0,hg1,bI,bI6,bM',bQ9]);(first | exact hyG | exact Bq hg1 rfl | exact Il hgC rfl))) | ((with_reducible apply VT);rfl;rfl;rfl;rfl)));(repeat revert blk);exact nR.get)):G:=h ⟨k⟩
def aM5(r:Option (List jQ))(u:Value)(hn:Hp):Prop:=match r with
 | none=>u=.tuple #[.slice none 0 0,.int .i64 2]
 | some xs=>∃ v h,u=.tuple #[v,.int .i64 0]∧Own 173 2 v h (xs.map eF)∧aI h hn
theorem X4(ws:List Nat)(hw:lW ws)(h:aA w v 1 (ws.map uV))(hm:fJ ws.length=true)(root:Int):Fn Tryz.prog 116 [.agg #[v],.int .i64 root].toArray w [] (fun u hn=>aM5 (dL ws root 0 4096) u hn):=by
 have rY:=bP hm;obtain⟨q,cap,rfl,hne,hle⟩:=h.opened;obtain⟨b,o,rfl⟩:=hne bF0;refine enter Tryz.func116 ?_;refine run ?_;intro B;refine run ?_;refine az (fun wc hG=>yN ws.length cap bB3 _ wc) ?_;rw[hm];refine aP ?_;refine bH (fun wc hG=>af7 ws hw hm root 3 0 rfl wc b o cap (h.good hG) root 0 bB4 bB4 (qy ws root) [] (bI9 _) (.slice none 0 0) [] (Acc.nil _ _) ⟨by simp,by simp⟩ bB5) ?_;intro u hn hR;have e4:8*au 0=4096:=by decide
 rw[e4] at hR
 cases hz:dL ws root 0 4096 with
 | none=>
  rw[hz] at hR;obtain rfl:u=.tuple #[.slice none 0 0,.bool false]:=hR;refine aP ?_
  exact fin2 rfl
 | some zs=>
  rw[hz] at hR;obtain⟨v',h',rfl,hA',hle'⟩:=hR;refine ig hle' ?_;refine aP ?_;exact fin2 ⟨_,h',rfl,hA'.own,by (exact ak)⟩
end
section
attribute [local irreducible] Hy St Ops DH dH jg iP gQ DS gX lJ
theorem zh(H:HyD)(f:Nat):(-1≤(H.mG f).own∧(H.mG f).own≤4)∧-2≤(H.mG f).wit∧(H.mG f).wit≤4:=by
 unfold HyD.mG;have h1:=Px H f 1;have h2:=Px H f 2;generalize iE H.ws 0 f=g;dsimp only
 cases (!decide (g.e=0)) with
 | true=>(simp only[cond_true,cond_false];omega)
 | false=>
  cases (decide (g.d.kind=2)&&decide (g.d.soft=0)) with
  | true=>(simp only[cond_true,cond_false];omega)
  | false=>
   cases (decide (g.d.kind=2)&&decide (g.d.soft=1)) with
   | true=>(simp only[cond_true,cond_false];cases decide (0<H.pG f 2)<;>(simp only[cond_true,cond_false];omega))
   | false=>
    cases (decide (g.d.kind=2)&&decide (g.d.soft=2)) with
    | true=>(simp only[cond_true,cond_false];cases decide (0<H.pG f 1)<;>(simp only[cond_true,cond_false];omega))
    | false=>
     cases hn:(decide (g.d.kind=0)&&decide (1<g.d.note)&&decide (g.d.note≤5)) with
     | true=>
      simp only[bH6,decide_eq_true_eq] at hn;simp only[cond_true,cond_false]
      omega
     | false=>(simp only[cond_true,cond_false];omega)
def Md(H:HyD)(hx:Hp)(i:Nat)(r:List Value):Prop:=∃ v1 v2,r=[.bool (H.bU i).live,.bool (H.bU i).dying,.int .i64 (H.bU i).first,v1,v2]∧∀ w,Here hx w→aA w v1 1 ((H.bU i).aQ.map bY)∧aA w v2 2 ((H.bU i).maps.map eF)
theorem Md.le{a b:Hp}{r:List Value}(h:Md H a i r)(hle:∀ e∈a,e∈b):Md H b i r:=by
 obtain⟨v1,v2,e,h5⟩:=h;exact⟨v1,v2,e,fun w hw=>h5 w fun e he=>hw e (hle e he)⟩
theorem G8{H:HyD}(hf:H.Fit){i:Nat}(hi:i<H.vs.length):I64 (H.bU i).first∧(∀ x∈(H.bU i).aQ,I64 x)∧(∀ x∈(H.bU i).maps,I64 x.mid∧I64 x.eu)∧(H.bU i).aQ.length<100000∧(H.bU i).maps.length<100000:=by
 have hv:=hf.v (H.vu i) (getD_mem hi);unfold HyD.bU
 cases (H.vu i).live with
 | false=>exact⟨(⟨by decide,by decide⟩:I64 0),by simp,by simp,by simp,by simp⟩
 | true=>
  rw[cond_true];refine⟨?_,?_,?_,by simpa using hv.2.2.1,?_⟩
  ·show I64 (bif decide (0<(H.vu i).fs.length) then (H.vu i).root else 0)
   cases hd:decide (0<(H.vu i).fs.length) with
   | false=>exact (⟨by decide,by decide⟩:I64 0)
   | true=>
    rw[cond_true];have h0:=of_decide_eq_true hd;refine hv.2.2.2.1 _ ?_;unfold kJ.root;rw[bH8,bH9 h0];exact bX7 h0
  ·intro x hx;obtain⟨c,hc,rfl⟩:=bI7.1 hx;exact hv.2.2.2.2.2 c hc
  ·intro x hx;have:=Rh hx;unfold I64;omega
  ·have:=zf H i;show (H.wZ i).length<100000;omega
theorem qC(H:HyD):(∀ f,f<H.ws.length/8→H.aG.pg f=H.mG f)∧(∀ i,i<4→H.aG.gs i=H.bU i)∧(∀ c,c<H.cs.length→H.aG.st c=⟨(H.cu c).vm,(H.cu c).vc⟩):=by
 refine⟨fun f hf=>?_,fun i hi=>?_,fun c hc=>?_⟩
 ·simp only[HyD.aG,PtD.pg,bH8,bJ',bO' hf,bL5,bP1]
 ·simp only[HyD.aG,PtD.gs,bH8,bJ',bO' hi,bL5,bP1]
 ·simp only[HyD.aG,PtD.st,HyD.cu,bH8,bJ',bH9 hc,bL5,bP1]
theorem G9{pv gv ov:Value}{ha hg hx ho:Hp}{G:List (List Value)}(hA:Acc 51 2 pv ha (((List.range (H.ws.length/8)).map H.mG).map sS))(hB:Acc 100 5 gv hg G)(Ue:G.length=4)(hR:∀ i,i<4→Md H hx i (G.getD i []))(hC:Own 104 2 ov ho ((H.cs.map fun c=>(⟨c.vm,c.vc⟩:JR)).map yG))(hf:H.Fit)(hv:H.vs.length=4)(h:Here (ha++hg++hx++ho) w):dO w pv gv ov H.aG:=by
 obtain⟨hp1,hp2,hp3⟩:=qC H
 have hex:∀ i,∃ p:Value×Value,i<4→G.getD i []=[.bool (H.bU i).live,.bool (H.bU i).dying,.int .i64 (H.bU i).first,p.1,p.2]∧∀ w,Here hx w→aA w p.1 1 ((H.bU i).aQ.map bY)∧aA w p.2 2 ((H.bU i).maps.map eF):=fun i=>by
  by_cases hi:i<4
  ·obtain⟨v1,v2,e,h5⟩:=hR i hi;exact⟨(v1,v2),fun _=>⟨e,h5⟩⟩
  ·exact⟨(default,default),fun h=>absurd h hi⟩
 have hgl:H.aG.ay.length=4:=by simp[HyD.aG]
 refine⟨hA.lie (h.sub fun e he=>by simp[he]) (by have:=hf.l.1;simp;omega),⟨fun i=>(Classical.choose (hex i)).1,fun i=>(Classical.choose (hex i)).2,?_,fun i hi=>?_⟩,?_,?_⟩
 ·have e:((List.range H.aG.ay.length).map fun i=>[Value.bool (H.aG.gs i).live,.bool (H.aG.gs i).dying,.int .i64 (H.aG.gs i).first,(Classical.choose (hex i)).1,(Classical.choose (hex i)).2])=G:=by
   rw[hgl];refine List.ext_getElem (by simp[Ue]) fun i h1 h2=>?_;rw[List.getElem_map,List.getElem_range,hp2 i bB3];have:=(bT7 (hex i) bB3).1;rw[←this,bH8,bH9 h2];rfl
  rw[e];exact hB.lie (h.sub fun e he=>by simp[he]) bB3
 ·rw[hgl] at hi;rw[hp2 i hi];exact (bT7 (hex i) hi).2 w (h.sub fun e he=>by simp[he])
 ·exact hC.lie (fun e he=>h e bC9) (by have:=hf.l.2.1;simp;omega)
 ·refine⟨fun f hf2=>?_,fun i hi=>?_,fun c hc=>?_⟩
  ·rw[hp1 f (by simpa [HyD.aG] using hf2)];have:=zh H f;unfold I64;omega
  ·rw[hgl] at hi;rw[hp2 i hi];have:=G8 hf (i:=i) bB3;exact⟨this.1,this.2.1,this.2.2.1⟩
  ·have hc':c<H.cs.length:=by simpa [HyD.aG] using hc
   rw[hp3 c hc'];have:=hf.c (H.cu c) (getD_mem hc');exact this.2.2
theorem Ri{w:World}{vv rv:Value}(h:xM w X wv cv vv rv mv H):Fn Tryz.prog 59 [.pointer (some ⟨X,0,none⟩)].toArray w [] (fun u hn=>∃ p1 p2 p3 k1 k2 k3:_,∃ n1 n2 n3:Nat,u=.agg #[.slice p1 n1 k1,.slice p2 n2 k2,.slice p3 n3 k3]∧∀ w,Here hn w→dO w (.slice p1 n1 k1) (.slice p2 n2 k2) (.slice p3 n3 k3) H.aG):=by
 have h':=h;have hL:=jq h.ok;have rY:=bP hL.m;have hfit:=h.h.fit;obtain⟨cs,vs,e1,e2,_,hH⟩:=h.h.ex;have hvl:vs.length=4:=by rw[←hL.v,←e2,bH7]
 have hcl:cs.length=H.cs.length:=by rw[←e1,bH7]
 have h0:w.rangeAt X 0 [wv]:=aV (k:=0) (n:=1) h.x rfl;have h0':=aj h0;have hpe:∀ wc hp,Good w [] hp wc→∀ k:Nat,k≤4095→Fn Tryz.prog 118 [.pointer (some ⟨X,0,none⟩),.int .i64 (k:Int)].toArray wc [] (fun u _=>u=.agg #[.int .i64 (H.mG k).own,.int .i64 (H.mG k).wit]):=fun wc hp hG k hk=>af4 (hG.range h.x bR5) (fun i hi=>(h.m i hi).good hG) hH.Df (hH.ws.good hG) hL.m k hk;have hws:=hH.ws;obtain⟨q,cap,rfl,_,_⟩:=hws.opened;refine enter Tryz.func59 ?_;refine run ?_;intro R P;refine jI bB8 (uM rfl rfl H.ws.length 8 rfl rfl bB4 bB3) ?_;refine run ?_;refine aK (σ:=Nat×Value×Hp) (fun s=>[(16,.int .i64 (s.1:Int))]) (fun s=>⟨P,#[s.2.1,.slice none 0 0,.slice none 0 0],48⟩::⟨R,#[.slice none 0 0,.slice none 0 0,.slice none 0 0],48⟩::s.2.2) (fun s=>s.1≤H.ws.length/8∧Acc 51 2 s.2.1 s.2.2 (((List.range s.1).map H.mG).map sS)) (fun s=>H.ws.length/8-s.1) (0,.slice none 0 0,[]) ⟨bI1 _,Acc.nil _ _⟩ ?_;rintro⟨k,pv,ha⟩ m hm ⟨hk,hA⟩;dsimp only at hm hk hA ⊢;obtain⟨qa,ca,xa⟩:=hA.own.opened;simp only[bH7,bO0] at xa;subst xa;refine run ?_;refine ah _ rfl (fun hc=>?_) (fun hc=>?_)
 ·have hlt:k<H.ws.length/8:=by simp at hc;omega
  refine run ?_;refine ve 9 6 [0,1,2,3,4,7] [(5,false),(6,false),(8,false)] [⟨R,#[.slice none 0 0,.slice none 0 0,.slice none 0 0],48⟩] ?_;refine kU ?_;refine Ef (fun wc hx hG=>hpe wc _ hG k bB3) ?_;refine kU ?_;generalize qH:H.mG k=pg;refine xC ?_;refine Ae [.int .i64 pg.own,.int .i64 pg.wit] (fun Z=>?_);refine di ?_;refine XG (c:=sS pg) (hp':=⟨Z,#[.int .i64 pg.own,.int .i64 pg.wit],51⟩::⟨P,#[.slice qa k ca,.slice none 0 0,.slice none 0 0],48⟩::[⟨R,#[.slice none 0 0,.slice none 0 0,.slice none 0 0],48⟩]) hA (aY (m:=2) mh rfl) (by rw[bH7,bH7,bO0];omega) aU ak (fun v' ha' hA2=>?_);obtain⟨q9,c9,e9⟩:=hA2.own.opened;subst e9;refine xC ?_;refine je (b:=P) (tb:=48) (cs:=#[.slice qa k ca,.slice none 0 0,.slice none 0 0]) (cs':=#[.slice q9 _ c9,.slice none 0 0,.slice none 0 0]) (hp':=ha'++(⟨Z,#[.int .i64 pg.own,.int .i64 pg.wit],51⟩::[⟨R,#[.slice none 0 0,.slice none 0 0,.slice none 0 0],48⟩])) ?_ aU;refine di ?_;refine Ji ?_;refine kV ?_;refine run ?_;exact aF (k+1,_,ha') ⟨hlt,by dsimp only;rw[bO5,bJ4,bJ4,bN5,bN5,qH];exact hA2⟩ (hm:=by dsimp only;omega) (h2:=by (exact ak))
 have hkF:k=H.ws.length/8:=by simp at hc;omega
 subst hkF;have hop:=hH.vs.rows.opened;rw[hvl] at hop;obtain⟨q2,cap2,rfl,hne2,_⟩:=hop;have h2:w.rangeAt X 2 [.slice q2 4 cap2]:=aV (k:=2) (n:=1) h.x rfl;have h2':=aj h2;refine run ?_;refine aK (σ:=Nat×Value×Hp×List (List Value)×Hp) (fun s=>[(34,.int .i64 (s.1:Int))]) (fun s=>⟨P,#[.slice qa (H.ws.length/8) ca,s.2.1,.slice none 0 0],48⟩::⟨R,#[.slice none 0 0,.slice none 0 0,.slice none 0 0],48⟩::(ha++(s.2.2.1++s.2.2.2.2))) (fun s=>s.1≤4∧Acc 100 5 s.2.1 s.2.2.1 s.2.2.2.1∧s.2.2.2.1.length=s.1∧∀ i,i<s.1→Md H s.2.2.2.2 i (s.2.2.2.1.getD i [])) (fun s=>4-s.1) (0,.slice none 0 0,[],[],[]) ⟨bI1 _,Acc.nil _ _,rfl,fun i hi=>absurd hi (bL0 _)⟩ ?_ (hh:=by dsimp only;(exact ak));rintro⟨k,gv,hg,G,hx⟩ m2 hm2 ⟨hk2,hB,Ue,hR⟩;dsimp only at hm2 hk2 hB Ue hR ⊢;obtain⟨qb,cb,xb⟩:=hB.own.opened;rw[Ue] at xb;subst xb;refine run ?_;refine ah _ rfl (fun hc2=>?_) (fun hc2=>?_)
 ·have hlt:k<4:=by simp at hc2;omega
  refine run ?_;have hge:=fun (wc:World) (hp:Hp) (hG:Good w [] hp wc)=>X0 (h'.good hG) k hlt;have hgl:=(G8 hfit (i:=k) (by rw[hL.v];exact hlt)).2.2.2;have hgr:∀ a b (r:List Value),r=[.bool (H.bU k).live,.bool (H.bU k).dying,.int .i64 (H.bU k).first,a,b]→∀ hz,(∀ w,Here hz w→aA w a 1 ((H.bU k).aQ.map bY)∧aA w b 2 ((H.bU k).maps.map eF))→Md H hz k r:=fun a b r e hz hs=>⟨a,b,e,hs⟩
  generalize H.bU k=g at hge hgl hgr;refine ve 9 6 [0,1,2,3,7] [(4,false),(5,false),(6,false),(8,false)] (⟨R,#[.slice none 0 0,.slice none 0 0,.slice none 0 0],48⟩::(ha++hx)) ?_;refine kU ?_;refine xC ?_;refine yH (fun wc hG=>hge wc _ hG) ?_;rintro _ hn ⟨v1,h1,v2,h2,rfl,g1,g2,hle2⟩;obtain⟨r1,d1,f1⟩:=g1.opened;obtain⟨r2,d2,f2⟩:=g2.opened;rw[bH7] at f1 f2;subst f1 f2;refine di ?_;refine xC ?_;refine Ae [.bool g.live,.bool g.dying,.int .i64 g.first,.slice r1 g.aQ.length d1,.slice r2 g.maps.length d2] (fun Z=>?_);refine di ?_;refine XG (c:=[.bool g.live,.bool g.dying,.int .i64 g.first,.slice r1 g.aQ.length d1,.slice r2 g.maps.length d2]) (hp':=⟨Z,#[.bool g.live,.bool g.dying,.int .i64 g.first,.slice r1 g.aQ.length d1,.slice r2 g.maps.length d2],100⟩::(hn++⟨P,#[.slice qa (H.ws.length/8) ca,.slice qb k cb,.slice none 0 0],48⟩::⟨R,#[.slice none 0 0,.slice none 0 0,.slice none 0 0],48⟩::(ha++hx))) hB (aY (m:=5) mh rfl) bB3 aU ak (fun v' ha' hA2=>?_);obtain⟨q9,c9,e9⟩:=hA2.own.opened;subst e9;refine xC ?_;refine je (b:=P) (tb:=48) (cs:=#[.slice qa (H.ws.length/8) ca,.slice qb k cb,.slice none 0 0]) (cs':=#[.slice qa (H.ws.length/8) ca,.slice q9 _ c9,.slice none 0 0]) (hp':=ha'++(⟨Z,#[.bool g.live,.bool g.dying,.int .i64 g.first,.slice r1 g.aQ.length d1,.slice r2 g.maps.length d2],100⟩::(hn++⟨R,#[.slice none 0 0,.slice none 0 0,.slice none 0 0],48⟩::(ha++hx)))) ?_ aU;refine di ?_;refine Ji ?_;refine kV ?_;refine run ?_;refine aF (k+1,_,ha',_,hn++hx) ⟨hlt,hA2,by simp[Ue],fun i hi=>?_⟩ (hm:=by dsimp only;omega) (h2:=by (exact ak));dsimp only;by_cases e:i=k
  ·subst e
   have:(G++[[Value.bool g.live,.bool g.dying,.int .i64 g.first,.slice r1 g.aQ.length d1,.slice r2 g.maps.length d2]]).getD i []=[.bool g.live,.bool g.dying,.int .i64 g.first,.slice r1 g.aQ.length d1,.slice r2 g.maps.length d2]:=by
    rw[bH8,bT6 bB3,Ue];simp
   rw[this];refine hgr _ _ _ rfl _ fun w hw=>⟨g1.lie (fun e he=>hw e (bJ2 _ (hle2.mem bC9))) bB9,g2.lie (fun e he=>hw e (bJ2 _ (hle2.mem bC9))) bB9⟩
  ·have:(G++[[Value.bool g.live,.bool g.dying,.int .i64 g.first,.slice r1 g.aQ.length d1,.slice r2 g.maps.length d2]]).getD i []=G.getD i []:=by
    rw[bH8,bT' bB3,←bH8]
   rw[this];exact (hR i bB3).le fun e he=>bI4 _ he
 have hk4:k=4:=by simp at hc2;omega
 subst hk4;have Me:=hH.cs.rows.opened;rw[hcl] at Me;obtain⟨q3,cap3,rfl,jG,_⟩:=Me;have h3:w.rangeAt X 1 [.slice q3 H.cs.length cap3]:=aV (k:=1) (n:=1) h.x rfl;have h3':=aj h3;refine run ?_;refine aK (σ:=Nat×Value×Hp) (fun s=>[(52,.int .i64 (s.1:Int))]) (fun s=>⟨P,#[.slice qa (H.ws.length/8) ca,.slice qb 4 cb,s.2.1],48⟩::⟨R,#[.slice none 0 0,.slice none 0 0,.slice none 0 0],48⟩::(ha++(hg++hx)++s.2.2)) (fun s=>s.1≤H.cs.length∧Own 104 2 s.2.1 s.2.2 (((H.cs.take s.1).map fun c=>(⟨c.vm,c.vc⟩:JR)).map yG)) (fun s=>H.cs.length-s.1) (0,.slice none 0 0,[]) ⟨bI1 _,Own.nil _ _⟩ ?_ (hh:=by dsimp only;(exact ak));rintro⟨k,ov,ho⟩ m3 Q3 ⟨hk3,hC⟩;dsimp only at Q3 hk3 hC ⊢;have hkm:min k H.cs.length=k:=by omega
 obtain⟨qc,cc,xc⟩:=hC.opened;rw[bH7,bH7,bK',hkm] at xc;subst xc;refine run ?_;refine ah _ rfl (fun hc3=>?_) (fun hc3=>?_)
 ·have hlt:k<H.cs.length:=by simp at hc3;omega
  obtain⟨b3,o3,rfl⟩:=jG bF8;have hr3:=hH.cs.rows.row (k:=k) bB3;have Uf:=FM e1 k
  have ht:(H.cs.take (k+1)).map (fun c=>(⟨c.vm,c.vc⟩:JR))=(H.cs.take k).map (fun c=>(⟨c.vm,c.vc⟩:JR))++[⟨(cs.getD k default).vm,(cs.getD k default).vc⟩]:=by
   rw[bM5 hlt,bJ4,bN5,jH H.cs hlt,←Uf];rfl
  clear Uf;generalize cs.getD k default=c at hr3 ht;refine run ?_;intro U Z;have hC3:=hL.c3;refine aS (⟨Z,#[.int .i64 c.vm,.int .i64 c.vc],104⟩::⟨P,#[.slice qa (H.ws.length/8) ca,.slice qb 4 cb,.slice qc k cc],48⟩::⟨R,#[.slice none 0 0,.slice none 0 0,.slice none 0 0],48⟩::(ha++(hg++hx)++ho)) ak ?_;refine wz (c:=[.int .i64 c.vm,.int .i64 c.vc]) (⟨Z,#[.int .i64 c.vm,.int .i64 c.vc],104⟩::⟨P,#[.slice qa (H.ws.length/8) ca,.slice qb 4 cb,.slice qc k cc],48⟩::⟨R,#[.slice none 0 0,.slice none 0 0,.slice none 0 0],48⟩::(ha++(hg++hx))) hC (fun v' ha' hA2=>?_) (by rw[bH7,bH7,bK'];omega) (aY (m:=2) mh rfl) (hperm:=by (exact aU));obtain⟨q9,c9,e9⟩:=hA2.opened;subst e9;refine aS (⟨P,#[.slice qa (H.ws.length/8) ca,.slice qb 4 cb,.slice qc k cc],48⟩::⟨R,#[.slice none 0 0,.slice none 0 0,.slice none 0 0],48⟩::(ha++(hg++hx)++ha')) ak ?_;refine run ?_;exact aF (k+1,_,ha') ⟨hlt,by dsimp only;rw[ht,bJ4,bN5];exact hA2⟩ (hm:=by dsimp only;omega) (h2:=by (exact ak))
 have hkC:k=H.cs.length:=by simp at hc3;omega
 subst hkC;rw[bN4] at hC;refine run ?_;exact dR (cs:=#[.slice qa (H.ws.length/8) ca,.slice qb 4 cb,.slice qc H.cs.length cc]) ⟨_,_,_,_,_,_,_,_,_,rfl,fun w hw=>G9 hA hB Ue hR hC hfit hL.v (hw.sub (fun e he=>bI5 _ (bI5 _ (by simpa only [bK7] using he))))⟩
theorem Pz(n cap:Nat)(hn:n<4611686018427387904)(q:Option Addr)(w:World):Fn Tryz.prog 193 [.agg #[.slice q n cap]].toArray w [] (fun u _=>u=.int .i64 ((n/8:Nat):Int)):=by
 refine enter Tryz.func193 ?_;refine run ?_;intro B;refine run ?_;refine jI bB8 (uM rfl rfl n 8 bB8 bB8 bB4 bB3) ?_;refine run ?_;exact fin1 rfl
theorem PD(n cap:Nat)(hn:n<4611686018427387904)(q:Option Addr)(w:World):Fn Tryz.prog 115 [.agg #[.slice q n cap]].toArray w [] (fun u _=>u=.tuple #[.int .i64 (bif fJ n then ((n/8:Nat):Int) else 0),.int .i64 (bif fJ n then 0 else 1)]):=by
 refine enter Tryz.func115 ?_;refine run ?_;intro B;refine run ?_;refine az (fun wc hG=>yN n cap hn q wc) ?_;refine run ?_;refine ah _ rfl (fun hc=>?_) (fun hc=>?_)
 ·have hm:fJ n=false:=by cases h:fJ n<;>simp[h] at hc ⊢
  refine run ?_;refine fin2 ?_;rw[hm];rfl
 ·have hm:fJ n=true:=by cases h:fJ n<;>simp[h] at hc ⊢
  refine run ?_;refine az (fun wc hG=>Pz n cap hn q wc) ?_;refine run ?_;refine fin2 ?_;rw[hm];rfl
theorem qN{cs:List Value}{t:TypeId}(h:w.heap[b]?=some (.cells cs.toArray t (0,0))):w.rangeAt b 0 cs:=by
 intro j u hu;rw[cell_of_block h];simpa using hu
theorem Rj(y:jQ):[y].filter (fun m=>decide (m.mid≤15))=if y.mid≤15 then [y] else []:=by
 by_cases e:y.mid≤15<;>simp[e]
def vI(m:Nat→Value)(k:Nat)(v:Value):Nat→Value:=fun i=>if i=k then v else m i
theorem Ug{m:Nat→Value}(h:m k=v):vI m k v=m:=by
 funext i
 unfold vI;split
 ·rename_i e;rw[e,h]
 ·rfl
theorem PE(m:Nat→Value)(k:Nat)(v u:Value):vI (vI m k v) k u=vI m k u:=by
 funext i
 unfold vI;split<;>rfl
theorem Rk(m:Nat→Value)(k:Nat)(v:Value):vI m k v k=v:=if_pos rfl
def Jo(wv cv vv rv:Value)(m:Nat→Value):Array Value:=#[wv,cv,vv,rv,m 0,m 1,m 2,m 3]
theorem af8(wv cv vv rv:Value)(m:Nat→Value)(hk:k<4)(v:Value):putAt (Jo wv cv vv rv m) (4+k) [v]=Jo wv cv vv rv (vI m k v):=by
 have:k=0∨k=1∨k=2∨k=3:=by omega
 rcases this with rfl | rfl | rfl | rfl<;>rfl
theorem af9(wv cv vv rv:Value)(m:Nat→Value)(hk:k<4):nth (Jo wv cv vv rv m).toList (4+k)=some (m k):=by
 have:k=0∨k=1∨k=2∨k=3:=by omega
 rcases this with rfl | rfl | rfl | rfl<;>rfl
def FV(xs:List jQ)(u:Value)(hn:Hp):Prop:=∃ v h e,u=.tuple #[v,.int .i64 e]∧Own 173 2 v h (xs.map eF)∧aI h hn
theorem FV.of{r:Option (List jQ)}{u:Value}{hn:Hp}(h:aM5 r u hn):FV (r.getD []) u hn:=by
 cases r with
 | none=>exact⟨_,[],2,h,Own.nil _ _,by (exact ak)⟩
 | some xs=>
  obtain⟨v,h1,e,hO,hle⟩:=h;exact⟨v,h1,0,e,hO,hle⟩
theorem FV.ex{xs:List jQ}(h:xs.length≤4096):∃ u hn,FV xs u hn:=by
 obtain⟨v,h1,hO⟩:=dZ (e:=173) (sz:=2) (xs:=xs.map eF) (fun c hc=>by obtain⟨m,_,rfl⟩:=bI7.1 hc;exact⟨rfl,rfl⟩) bB6;exact⟨_,h1,v,h1,0,rfl,hO,aI.refl _⟩
def MB(H:HyD)(wv cv vv rv u:Value)(hn:Hp):Prop:=
 bif H.iq then ∃ X mv hx,u=.tuple #[.pointer (some ⟨X,0,none⟩),.bool true]∧(∀ i,i<4→∀ wc,Here hx wc→aA wc (mv i) 3 ((H.msA i).map Q7))∧aI (⟨X,Jo wv cv vv rv mv,142⟩::hx) hn
 else u=.tuple #[.pointer none,.bool false]
set_option maxHeartbeats 2000000 in
theorem Rl{vv rv:Value}(h:vw w wv cv vv rv H):Fn Tryz.prog 58 [.agg #[wv,cv,vv,rv]].toArray w [] (MB H wv cv vv rv):=by
 have hfit:=h.fit;obtain⟨cs,vs,e1,e2,_,hH⟩:=h.ex;have hvl:vs.length=H.vs.length:=by rw[←e2,bH7]
 have hcl:cs.length=H.cs.length:=by rw[←e1,bH7]
 have hws:=hH.ws;obtain⟨q,cap,rfl,hne,_⟩:=hws.opened;have ho2:=hH.cs.rows.opened;have ho3:=hH.vs.rows.opened;have ho4:=hH.rs.opened;rw[hcl] at ho2;rw[hvl] at ho3;obtain⟨n2,en2⟩:∃ n,n=H.cs.length:=⟨_,rfl⟩
 obtain⟨n3,en3⟩:∃ n,n=H.vs.length:=⟨_,rfl⟩
 obtain⟨n4,en4⟩:∃ n,n=H.rs.length:=⟨_,rfl⟩
 rw[←en2] at ho2;rw[←en3] at ho3;rw[←en4] at ho4;obtain⟨q2,cap2,rfl,hne2,_⟩:=ho2;obtain⟨q3,cap3,rfl,jG,_⟩:=ho3;obtain⟨q4,cap4,rfl,oV,_⟩:=ho4;have hlk:H.iq=(fJ H.ws.length&&decide (24≤H.ws.length/8)&&(decide (1≤n2)&&decide (n2≤3))&&decide (n4=n2)&&decide (n3=4)):=by rw[en2,en3,en4];rfl
 obtain⟨L,hL⟩:∃ L,L=H.iq:=⟨_,rfl⟩
 rw[←hL] at hlk;have hfl:=hfit.l;refine enter Tryz.func58 ?_;refine run ?_;intro Y X;refine run ?_;refine az (fun wc hG=>PD H.ws.length cap bB3 q wc) ?_;refine aC ?_
 have hcond:(!decide ((bif fJ H.ws.length then (0:Int) else 1)=0)||decide ((bif fJ H.ws.length then ((H.ws.length/8:Nat):Int) else 0)<24)||decide ((n2:Int)<1)||decide (3<(n2:Int))||!decide ((n4:Int)=(n2:Int))||!decide ((n3:Int)=4))=!L:=by
  rw[hlk,bI2]
  cases fJ H.ws.length with
  | false=>simp
  | true=>
   simp only[cond_true,bJ7,bJ6,bN7,decide_eq_true_eq,decide_eq_false_iff_not,bI6];simp;omega
 refine ah _ rfl (fun hb=>?_) (fun hb=>?_)
 ·rw[hcond] at hb;have hLf:L=false:=by simpa using hb
  refine run ?_;refine fin2 ?_;unfold MB;rw[←hL,hLf];rfl
 rw[hcond] at hb;have hLt:L=true:=by simpa using hb
 have hS:=jq (hL.symm.trans hLt);have h34:n3=4:=by rw[en3,hS.v]
 subst h34;clear hb hcond hlk;obtain⟨b3,o3,rfl⟩:=jG (by intro e;rw[e] at hvl;simp at hvl;omega);refine run ?_;refine aK (σ:=Nat×(Nat→Value)×Hp) (fun s=>[(61,.int .i64 (s.1:Int))]) (fun s=>⟨X,Jo (.slice q H.ws.length cap) (.slice q2 n2 cap2) (.slice (some ⟨b3,o3,none⟩) 4 cap3) (.slice q4 n4 cap4) s.2.1,142⟩::⟨Y,#[.slice q H.ws.length cap,.slice q2 n2 cap2,.slice (some ⟨b3,o3,none⟩) 4 cap3,.slice q4 n4 cap4],29⟩::s.2.2) (fun s=>s.1≤4∧(∀ i,s.1≤i→s.2.1 i=.slice none 0 0)∧(∀ i,i<s.1→∀ wc,Here s.2.2 wc→aA wc (s.2.1 i) 3 ((H.msA i).map Q7))) (fun s=>4-s.1) (0,fun _=>.slice none 0 0,[]) ⟨bI1 _,fun _ _=>rfl,fun i hi=>absurd hi (bL0 _)⟩ ?_ (hh:=by dsimp only[Jo];(exact ak));rintro⟨k,mv,hx⟩ m2 hm2 ⟨hk2,hZ,hM⟩;dsimp only at hm2 hk2 hZ hM ⊢;refine run ?_;refine ah _ rfl (fun hc1=>?_) (fun hc1=>?_)
 ·have hlt:k<4:=by simp at hc1;omega
  have hr:=hH.vs.rows.row (k:=k) bB3;have hfs:=hH.vs.fs _ (getD_mem (l:=vs) (k:=k) bB3);have hu:=rM e2 k;rw[show H.vs.getD k default=H.vu k from rfl] at hu;generalize vs.getD k default=v at *;refine run ?_;intro V;refine aC ?_
  have hhas:(H.vu k).has=!(!v.live||decide ((v.fs.length:Int)=0)):=by
   rw[←hu];unfold kJ.has eG.u
   cases v.live with
   | false=>rfl
   | true=>
    rw[bI2];simp only[bI6,bK1,bL3,bJ6,decide_eq_true_eq,decide_eq_false_iff_not];omega
  refine ah _ rfl (fun hd=>?_) (fun hd=>?_)
  ·rw[hd] at hhas;have hms:H.msA k=[]:=by unfold HyD.msA HyD.wZ;rw[hhas];rfl
   refine run ?_;refine aF (k+1,mv,hx) ⟨hlt,fun i hi=>hZ i (by dsimp only at hi;omega),fun i hi=>?_⟩ (hm:=by dsimp only;omega) (h2:=by (exact ak));dsimp only at hi ⊢;by_cases e:i=k
   ·subst e;rw[hms,hZ i (bI9 _)];exact fun wc _=>gW wc 3
   ·exact hM i bB3
  rw[hd] at hhas
  have hlv:v.fs.length≠0:=by
   intro e;rw[e] at hd;simp at hd
  obtain⟨qf,cf,ef,rP,_⟩:=hfs.opened;obtain⟨bf,BJ,rfl⟩:=rP (by intro e;rw[e] at hlv;exact hlv rfl);rw[ef] at hfs;have hrf:=aj (hfs.row (show 0<v.fs.length by omega));simp only[bK3] at hrf;have hroot:v.fs.getD 0 default=(H.vu k).root:=by rw[←hu];rfl
  rw[hroot] at hrf;have MC:H.wZ k=((dL H.ws (H.vu k).root 0 4096).getD []).filter (fun m=>decide (m.mid≤15)):=by unfold HyD.wZ;rw[hhas];rfl
  have af':H.msA k=(H.wZ k).map fun m=>⟨m.mid,m.eu,qM H.ws (H.vu k).root m.mid⟩:=rfl;rw[MC] at af';generalize (H.vu k).root=root at hrf af';rw[ef];refine run ?_;refine late 10 9 ?_;refine xB 10 [0,1,2,3,4,5] [6] [7,8,9] ?_;refine gI ?_;refine jZ (fun wc hG=>(X4 H.ws hH.Df (hws.good hG) hS.m root).mono (R':=FV ((dL H.ws root 0 4096).getD [])) (fun u hn hu=>FV.of hu)) (FV.ex ?_) ?_
  ·cases hz:dL H.ws root 0 4096 with
   | none=>exact bI1 _
   | some zs=>exact vz _ _ _ _ _ hz
  refine kL ?_;rintro u hn ⟨v1,h1,e,rfl,hO,hle⟩
  have hxl:((dL H.ws root 0 4096).getD []).length≤4096:=by
   cases hz:dL H.ws root 0 4096 with
   | none=>exact bI1 _
   | some zs=>exact vz _ _ _ _ _ hz
  have hxm:∀ m∈(dL H.ws root 0 4096).getD [],∃ q:Nat,q≤4095∧m.mid=(q:Int):=fun m hm=>by
   cases hz:dL H.ws root 0 4096 with
   | none=>rw[hz] at hm;cases hm
   | some zs=>
    rw[hz] at hm;obtain⟨k,hk,e⟩:=Dp hz hm;rw[bK2] at e;exact⟨k,by omega,(vH e).2.2.1⟩
  generalize (dL H.ws root 0 4096).getD []=xs at hO af' hxl hxm;refine yD ?_;refine dX ?_;refine dX ?_;refine jJ ?_;refine ry ?_;simp only[bI0,bI3,bI'];obtain⟨q5,c5,x5⟩:=hO.opened;rw[bH7] at x5;subst x5;refine run ?_;have hxr:∀ (wc:World) (hp:Hp),Good w [] hp wc→(∀ e∈h1,e∈hp)→aA wc (.slice q5 xs.length c5) 2 (xs.map eF):=fun wc hp hG hs=>hO.lie (hG.lie hs) bB6
  refine aK (σ:=Nat×Value×Hp) (fun s=>[(87,.int .i64 (s.1:Int))]) (fun s=>⟨X,Jo (.slice q H.ws.length cap) (.slice q2 n2 cap2) (.slice (some ⟨b3,o3,none⟩) 4 cap3) (.slice q4 n4 cap4) (vI mv k s.2.1),142⟩::⟨V,#[.bool v.live,.bool v.dying,.int .i64 v.aN,.slice (some ⟨bf,BJ,none⟩) v.fs.length cf,v.rv,v.vv],62⟩::⟨Y,#[.slice q H.ws.length cap,.slice q2 n2 cap2,.slice (some ⟨b3,o3,none⟩) 4 cap3,.slice q4 n4 cap4],29⟩::(hx++(h1++s.2.2))) (fun s=>s.1≤xs.length∧Acc 201 3 s.2.1 s.2.2 ((((xs.take s.1).filter fun m=>decide (m.mid≤15)).map fun m=>(⟨m.mid,m.eu,qM H.ws root m.mid⟩:Zp)).map Q7)) (fun s=>xs.length-s.1) (0,.slice none 0 0,[]) ⟨bI1 _,Acc.nil _ _⟩ ?_ (hh:=by
   dsimp only;rw[Ug (hZ k (bI9 _))]
   (exact cnt1 hle))
  rintro⟨j,mk,ha⟩ m3 Q3 ⟨hj,hA⟩;dsimp only at Q3 hj hA ⊢;refine run ?_;refine ah _ rfl (fun hc2=>?_) (fun hc2=>?_)
  ·have hjl:j<xs.length:=by simp at hc2;omega
   obtain⟨g5,k5,FW,e5,eh5,_,hn5,_⟩:=hO.oq hjl;have hm0:=hn5 0 _ rfl;have hm1:=hn5 1 _ rfl;rw[bL4] at hm0;have ht5:List.take 2 (List.drop (j*2) FW.toList)=eF (xs.getD j default):=Dj hm0 hm1;obtain⟨qq,bo0,hqm⟩:=hxm _ (getD_mem hjl)
   have htk:(xs.take (j+1)).filter (fun m=>decide (m.mid≤15))=(xs.take j).filter (fun m=>decide (m.mid≤15))++(if (xs.getD j default).mid≤15 then [xs.getD j default] else []):=by
    rw[bM5 hjl,bW6,jH xs hjl]
    congr 1
    exact Rj _
   generalize xs.getD j default=m at ht5 hm0 hm1 hqm htk;obtain⟨mm,mf⟩:=m;dsimp only at hqm htk;subst hqm;injection e5 with e5 _ e5'
   subst e5 e5' eh5;simp only[eF] at ht5;refine oD (⟨g5,FW,173⟩::⟨X,Jo (.slice q H.ws.length cap) (.slice q2 n2 cap2) (.slice (some ⟨b3,o3,none⟩) 4 cap3) (.slice q4 n4 cap4) (vI mv k mk),142⟩::⟨V,#[.bool v.live,.bool v.dying,.int .i64 v.aN,.slice (some ⟨bf,BJ,none⟩) v.fs.length cf,v.rv,v.vv],62⟩::⟨Y,#[.slice q H.ws.length cap,.slice q2 n2 cap2,.slice (some ⟨b3,o3,none⟩) 4 cap3,.slice q4 n4 cap4],29⟩::(hx++ha)) ak ?_;refine run ?_;intro M;refine run ?_;refine ah _ rfl (fun hd2=>?_) (fun hd2=>?_)
   rotate_left
   ·have hqn:¬ (qq:Int)≤15:=of_decide_eq_false hd2;rw[if_neg hqn,bI'] at htk;refine aP ?_;refine aF (j+1,mk,ha) ⟨hjl,by dsimp only;rw[htk];exact hA⟩ (hm:=by dsimp only;omega) (h2:=by (exact ak))
   have hqy:(qq:Int)≤15:=of_decide_eq_true hd2;rw[if_pos hqy] at htk;refine run ?_;refine Ag 14 [0,1,2,3,4,5,6,7,8] [13] [9,10,11,12] [15,16] [14] ?_;refine gI ?_;refine Eo (fun wc hx hG=>Jb H.ws hH.Df (hws.good hG) hS.m root qq bB3) ?_;refine gI ?_;refine sO ?_;refine kL ?_;rintro _ _ ⟨D,rfl,rfl⟩;have hsf:qM H.ws root (qq:Int)=(iE H.ws root qq).d.soft:=by unfold qM;rw[bN1]
   generalize iE H.ws root qq=g at hsf;refine yD ?_;refine dX ?_;refine dX ?_;refine dX ?_;refine jJ ?_;refine oQ ?_;refine oQ ?_;refine jJ ?_;simp only[DN,bI0,bI3,bI'];refine je (b:=D) (tb:=95) (cs:=#[.int .i64 0,.int .i64 0,.bool false,.bool false,.bool false,.bool false,.bool false,.int .i64 0,.int .i64 0]) (cs':=#[.int .i64 g.d.kind,.int .i64 g.d.frame,.bool g.d.r,.bool g.d.w,.bool g.d.x,.bool g.d.af,.bool g.d.ng,.int .i64 g.d.soft,.int .i64 g.d.note]) (hp':=⟨M,#[.int .i64 (qq:Int),.int .i64 mf],173⟩::⟨g5,FW,173⟩::⟨X,Jo (.slice q H.ws.length cap) (.slice q2 n2 cap2) (.slice (some ⟨b3,o3,none⟩) 4 cap3) (.slice q4 n4 cap4) (vI mv k mk),142⟩::⟨V,#[.bool v.live,.bool v.dying,.int .i64 v.aN,.slice (some ⟨bf,BJ,none⟩) v.fs.length cf,v.rv,v.vv],62⟩::⟨Y,#[.slice q H.ws.length cap,.slice q2 n2 cap2,.slice (some ⟨b3,o3,none⟩) 4 cap3,.slice q4 n4 cap4],29⟩::(hx++ha)) ?_ aU;refine di ?_;refine kV ?_;have hcx:=af9 (.slice q H.ws.length cap) (.slice q2 n2 cap2) (.slice (some ⟨b3,o3,none⟩) 4 cap3) (.slice q4 n4 cap4) (vI mv k mk) hlt;rw[Rk] at hcx;refine run ?_;refine ve 19 14 [0,1,2,3,4,5,6,7,8,9,10,11,12,15,16,17] [(13,false),(14,false),(18,false)] (⟨D,#[.int .i64 g.d.kind,.int .i64 g.d.frame,.bool g.d.r,.bool g.d.w,.bool g.d.x,.bool g.d.af,.bool g.d.ng,.int .i64 g.d.soft,.int .i64 g.d.note],95⟩::⟨M,#[.int .i64 (qq:Int),.int .i64 mf],173⟩::⟨g5,FW,173⟩::⟨V,#[.bool v.live,.bool v.dying,.int .i64 v.aN,.slice (some ⟨bf,BJ,none⟩) v.fs.length cf,v.rv,v.vv],62⟩::⟨Y,#[.slice q H.ws.length cap,.slice q2 n2 cap2,.slice (some ⟨b3,o3,none⟩) 4 cap3,.slice q4 n4 cap4],29⟩::hx) ?_;refine kU ?_;obtain⟨q7,c7,x7⟩:=hA.own.opened;obtain⟨n7,en7⟩:∃ n,n=((((xs.take j).filter fun m=>decide (m.mid≤15)).map fun m=>(⟨m.mid,m.eu,qM H.ws root m.mid⟩:Zp)).map Q7).length:=⟨_,rfl⟩
   have hn7:n7≤4096:=by
    rw[en7,bH7,bH7];exact bP8 (bS4 _ _) bD8
   rw[←en7] at x7;subst x7;refine xC ?_;refine Ae [.int .i64 (qq:Int),.int .i64 mf,.int .i64 g.d.soft] (fun Z=>?_);refine di ?_;refine XG (c:=[.int .i64 (qq:Int),.int .i64 mf,.int .i64 g.d.soft]) (hp':=⟨Z,#[.int .i64 (qq:Int),.int .i64 mf,.int .i64 g.d.soft],201⟩::⟨X,Jo (.slice q H.ws.length cap) (.slice q2 n2 cap2) (.slice (some ⟨b3,o3,none⟩) 4 cap3) (.slice q4 n4 cap4) (vI mv k (.slice q7 n7 c7)),142⟩::⟨D,#[.int .i64 g.d.kind,.int .i64 g.d.frame,.bool g.d.r,.bool g.d.w,.bool g.d.x,.bool g.d.af,.bool g.d.ng,.int .i64 g.d.soft,.int .i64 g.d.note],95⟩::⟨M,#[.int .i64 (qq:Int),.int .i64 mf],173⟩::⟨g5,FW,173⟩::⟨V,#[.bool v.live,.bool v.dying,.int .i64 v.aN,.slice (some ⟨bf,BJ,none⟩) v.fs.length cf,v.rv,v.vv],62⟩::⟨Y,#[.slice q H.ws.length cap,.slice q2 n2 cap2,.slice (some ⟨b3,o3,none⟩) 4 cap3,.slice q4 n4 cap4],29⟩::hx) hA (aY (m:=3) mh rfl) (by rw[←en7];omega) aU ak (fun v' ha' hA2=>?_);obtain⟨q9,c9,e9⟩:=hA2.own.opened;obtain⟨n9,en9⟩:∃ n,n=(((((xs.take j).filter fun m=>decide (m.mid≤15)).map fun m=>(⟨m.mid,m.eu,qM H.ws root m.mid⟩:Zp)).map Q7)++[[Value.int .i64 (qq:Int),.int .i64 mf,.int .i64 g.d.soft]]).length:=⟨_,rfl⟩
   rw[←en9] at e9;subst e9;refine xC ?_;refine Ed aB (b:=X) (tb:=142) (off:=4+k) (vs:=[.slice q9 n9 c9]) (hp':=ha'++(⟨Z,#[.int .i64 (qq:Int),.int .i64 mf,.int .i64 g.d.soft],201⟩::⟨D,#[.int .i64 g.d.kind,.int .i64 g.d.frame,.bool g.d.r,.bool g.d.w,.bool g.d.x,.bool g.d.af,.bool g.d.ng,.int .i64 g.d.soft,.int .i64 g.d.note],95⟩::⟨M,#[.int .i64 (qq:Int),.int .i64 mf],173⟩::⟨g5,FW,173⟩::⟨V,#[.bool v.live,.bool v.dying,.int .i64 v.aN,.slice (some ⟨bf,BJ,none⟩) v.fs.length cf,v.rv,v.vv],62⟩::⟨Y,#[.slice q H.ws.length cap,.slice q2 n2 cap2,.slice (some ⟨b3,o3,none⟩) 4 cap3,.slice q4 n4 cap4],29⟩::hx)) rfl rfl rfl (by (first | ((simp only[Value.cells])<;>rfl) | rfl)) rfl rfl aU rfl (by show 4+k+1≤8;omega) (show putAt (Jo (.slice q H.ws.length cap) (.slice q2 n2 cap2) (.slice (some ⟨b3,o3,none⟩) 4 cap3) (.slice q4 n4 cap4) (vI mv k (.slice q7 n7 c7))) (4+k) [.slice q9 n9 c9]=Jo (.slice q H.ws.length cap) (.slice q2 n2 cap2) (.slice (some ⟨b3,o3,none⟩) 4 cap3) (.slice q4 n4 cap4) (vI mv k (.slice q9 n9 c9)) by rw[af8 _ _ _ _ _ hlt,PE]) ak ?_;refine di ?_;refine Ji ?_;refine kV ?_;refine run ?_;refine aF (j+1,.slice q9 n9 c9,ha') ⟨hjl,?_⟩ (hm:=by dsimp only;omega) (h2:=by (exact ak));dsimp only;rw[htk,bJ4,bJ4];rw[←hsf] at hA2;exact hA2
  have hje:j=xs.length:=by simp at hc2;omega
  subst hje;rw[bN4] at hA;rw[←af'] at hA;refine run ?_;refine aF (k+1,vI mv k mk,hx++ha) ⟨hlt,fun i hi=>?_,fun i hi=>?_⟩ (hm:=by dsimp only;omega) (h2:=by (exact ak))
  ·dsimp only at hi ⊢;rw[←hZ i bB3];exact if_neg bB3
  ·dsimp only at hi ⊢;by_cases e:i=k
   ·subst e;rw[Rk];intro wc hw;refine hA.own.lie (hw.sub fun e he=>bI4 _ he) ?_;have:=zf H i;unfold HyD.msA;rw[bH7,bH7];omega
   ·rw[show vI mv k mk i=mv i from if_neg e];exact fun wc hw=>hM i bB3 wc (hw.sub fun e he=>bJ2 _ he)
 have hk4:k=4:=by simp at hc1;omega
 subst hk4;refine run ?_;refine fin2 ?_;unfold MB;rw[←hL,hLt,cond_true];exact⟨X,mv,hx,rfl,hM,by (exact ak)⟩
theorem He{vv rv:Value}{hx:Hp}{t:TypeId}(h:vw w wv cv vv rv H)(hm:∀ i,i<4→∀ wc,Here hx wc→aA wc (mv i) 3 ((H.msA i).map Q7))(hL:H.iq=true)(hh:Here (⟨X,Jo wv cv vv rv mv,t⟩::hx) w):xM w X wv cv vv rv mv H:=
 ⟨qN (t:=t) (hh _ (bI8 ..)),h,fun i hi=>hm i hi w fun e he=>hh e (bI5 _ he),hL⟩
def zi(H:HyD)(u:Value)(hn:Hp):Prop:=bif H.iq then ∃ a1 a2 a3 k1 k2 k3:_,∃ n1 n2 n3:Nat,u=.tuple #[.agg #[.slice a1 n1 k1,.slice a2 n2 k2,.slice a3 n3 k3],.int .i64 0]∧∀ w,Here hn w→dO w (.slice a1 n1 k1) (.slice a2 n2 k2) (.slice a3 n3 k3) H.aG
 else u=.tuple #[.agg #[.slice none 0 0,.slice none 0 0,.slice none 0 0],.int .i64 1]
theorem EJ{vv rv:Value}(h:vw w wv cv vv rv H):Fn Tryz.prog 32 [.agg #[wv,cv,vv,rv]].toArray w [] (zi H):=by
 have h':=h;obtain⟨cs,vs,_,_,_,hH⟩:=h.ex;obtain⟨q,cap,rfl,hne,_⟩:=hH.ws.opened;obtain⟨q2,cap2,rfl,hne2,_⟩:=hH.cs.rows.opened;obtain⟨q3,cap3,rfl,jG,_⟩:=hH.vs.rows.opened;obtain⟨q4,cap4,rfl,oV,_⟩:=hH.rs.opened;refine enter Tryz.func32 ?_;refine run ?_;intro B R;refine run ?_;refine bH (fun wc hG=>Rl (h'.good hG)) ?_;intro u hn hu;unfold MB at hu
 cases hL:H.iq with
 | false=>
  rw[hL,cond_false] at hu;subst hu;refine aS [⟨R,#[.slice none 0 0,.slice none 0 0,.slice none 0 0],48⟩] ak ?_;refine run ?_;refine ah _ rfl (fun hd=>?_) (fun hd=>absurd hd bB4);refine run ?_;refine fZ (cs:=#[.slice none 0 0,.slice none 0 0,.slice none 0 0]) ?_;unfold zi
  rw[hL];rfl
 | true=>
  rw[hL,cond_true] at hu;obtain⟨X,mv,hx,rfl,hM,hX⟩:=hu;refine aS (⟨X,Jo (.slice q H.ws.length cap) (.slice q2 cs.length cap2) (.slice q3 vs.length cap3) (.slice q4 H.rs.length cap4) mv,142⟩::(hx++[⟨R,#[.slice none 0 0,.slice none 0 0,.slice none 0 0],48⟩])) (cnt1 hX) ?_;refine run ?_;refine ah _ rfl (fun hd=>absurd hd bB4) (fun hd=>?_);refine run ?_;refine bH (fun wc hG=>Ri (He (X:=X) (t:=142) (h'.good hG) hM hL (hG.lie fun e he=>by simp at he ⊢;rcases he with he | he<;>simp[he]))) ?_;rintro _ hn2 ⟨a1,a2,a3,k1,k2,k3,m1,m2,m3,rfl,hP⟩;refine aS (⟨R,#[.slice none 0 0,.slice none 0 0,.slice none 0 0],48⟩::hn2) ak ?_;refine run ?_;refine fZ ?_;unfold zi;rw[hL];exact⟨a1,a2,a3,k1,k2,k3,m1,m2,m3,rfl,fun w hw=>hP w (hw.sub fun e he=>by simp[he])⟩
theorem X5(c:Az)(w:World):Fn Tryz.prog 125 ([]++[Value.agg (wR c).toArray]++[]).toArray w [] (fun u _=>u=.bool (!HyD.Vj c)):=by
 refine enter Tryz.func125 ?_;refine run ?_;intro B;refine aC ?_;refine fin1 ?_;have:=OT c.r jA;simp only[kN,jA] at this;unfold HyD.Vj;rw[Bool.not_or,←OT];rfl
theorem X6(v:eG)(n:Int)(C:Nat)(w:World)(hC:w.cell? ⟨C,2,none⟩=some (.int .i64 n)):Fn Tryz.prog 127 ([]++[Value.agg (mW v).toArray]++[Value.pointer (some ⟨C,0,none⟩)]).toArray w [] (fun u _=>u=.bool (v.live&&decide (v.aN=n))):=by
 refine enter Tryz.func127 ?_;refine run ?_;intro B;refine aC ?_;exact fin1 rfl
theorem fE{p:Nat→Bool}(h:∀ i,i<n→p i=true):allB n p=true:=aJ.2 h
theorem fU{p:Nat→Bool}(hi:i<n)(h:p i=false):allB n p=false:=by
 cases hh:allB n p with
 | false=>rfl
 | true=>have:=aJ.1 hh i hi;rw[h] at this;cases this
theorem X7{vv rv:Value}(h:xM w X wv cv vv rv mv H):Fn Tryz.prog 62 [.pointer (some ⟨X,0,none⟩)].toArray w [] (fun u _=>u=.bool H.quiet):=by
 have hL:=jq h.ok;obtain⟨cs,vs,e1,e2,_,hH⟩:=h.h.ex;have hvl:vs.length=4:=by rw[←hL.v,←e2,bH7]
 have hcl:cs.length=H.cs.length:=by rw[←e1,bH7]
 have hop:=hH.vs.rows.opened;rw[hvl] at hop;obtain⟨q2,cap2,rfl,hne2,_⟩:=hop;obtain⟨b2,o2,rfl⟩:=hne2 bC7;have h2:w.rangeAt X 2 [.slice (some ⟨b2,o2,none⟩) 4 cap2]:=aV (k:=2) (n:=1) h.x rfl;have h2':=aj h2;have Me:=hH.cs.rows.opened;rw[hcl] at Me;obtain⟨q3,cap3,rfl,jG,_⟩:=Me;obtain⟨b3,o3,rfl⟩:=jG (by intro e;rw[e] at hcl;have:=hL.c1;simp at hcl;omega);have h3:w.rangeAt X 1 [.slice (some ⟨b3,o3,none⟩) H.cs.length cap3]:=aV (k:=1) (n:=1) h.x rfl;have h3':=aj h3;have aM':=hH.rs.opened;rw[hL.r] at aM';obtain⟨q4,cap4,rfl,oV,_⟩:=aM';obtain⟨b4,o4,rfl⟩:=oV (by intro e;have:=hL.r;have:=hL.c1;rw[e] at *;simp at *;omega);have h4:w.rangeAt X 3 [.slice (some ⟨b4,o4,none⟩) H.cs.length cap4]:=aV (k:=3) (n:=1) h.x rfl;have h4':=aj h4;unfold HyD.quiet;refine enter Tryz.func62 ?_;refine run ?_;refine aK (σ:=Nat) (fun k=>[(13,.int .i64 (k:Int))]) (fun _=>[]) (fun k=>k≤H.cs.length∧∀ j,j<k→H.cpQ j=true) (fun k=>H.cs.length-k) 0 ⟨bI1 _,fun j hj=>absurd hj (bL0 _)⟩ ?_
 ·rintro k m hm ⟨hk,hK⟩;refine run ?_;refine ah _ rfl (fun hc=>?_) (fun hc=>?_)
  ·have hlt:k<H.cs.length:=by simp at hc;omega
   have hr3:=hH.cs.rows.row (k:=k) bB3;have hr4:=hH.rs.row (k:=k) (by rw[hL.r];exact hlt);have Uf:=FM e1 k;have hq:H.cpQ k=(!decide ((cs.getD k default).vm=0)||decide (H.rs.getD k default=jA)):=by unfold HyD.cpQ HyD.cu;rw[←Uf];rfl
   generalize cs.getD k default=c at hr3 hq;generalize H.rs.getD k default=r at hr4 hq;refine run ?_;intro U;refine aC ?_;have hg:(decide (c.vm=0)&&!aW (kN r) (kN jA))=!H.cpQ k:=by rw[OT,hq];cases decide (c.vm=0)<;>simp
   refine ah _ rfl (fun hd=>?_) (fun hd=>?_)
   ·replace hd:=hg.symm.trans hd;refine run ?_;refine fin1 ?_;rw[fU hlt bG5];rfl
   replace hd:=hg.symm.trans hd;refine run ?_;refine aF (k+1) ⟨hlt,fun j hj=>?_⟩;by_cases e:j=k
   ·subst e;simpa using hd
   ·exact hK j bB3
  have hke:k=H.cs.length:=by simp at hc;omega
  subst hke;rw[fE hK,bI6];refine run ?_;refine aK (σ:=Nat) (fun k=>[(40,.int .i64 (k:Int))]) (fun _=>[]) (fun k=>k≤4∧∀ j,j<k→H.Vk j=true) (fun k=>4-k) 0 ⟨bI1 _,fun j hj=>absurd hj (bL0 _)⟩ ?_;rintro k2 m2 hm2 ⟨hk2,hK2⟩;refine run ?_;refine ah _ rfl (fun hc2=>?_) (fun hc2=>?_)
  rotate_left
  ·have hk4:k2=4:=by simp at hc2;omega
   subst hk4;refine run ?_;refine fin1 ?_;rw[fE hK2]
  have hlt2:k2<4:=by simp at hc2;omega
  have hr2:=hH.vs.rows.row (k:=k2) bB3;have lC:=hH.vs.vs _ (getD_mem (l:=vs) (k:=k2) bB3);have hvu:=rM e2 k2;have hf:=h.h.fit.v (H.vs.getD k2 default) (getD_mem (by rw[hL.v];exact hlt2));rw[←hvu] at hf;simp only[eG.u] at hf
  have hq:H.Vk k2=bif (vs.getD k2 default).live then (vs.getD k2 default).vs.all HyD.Vj&&PtD.dD (vs.getD k2 default).aN 1 15&&!(H.vs.take k2).any fun o=>o.live&&decide (o.aN=(vs.getD k2 default).aN)
    else decide ((vs.getD k2 default).vs=[])&&decide ((vs.getD k2 default).fs=[])&&decide ((vs.getD k2 default).fr=[])&&decide ((vs.getD k2 default).aN=0):=by
   unfold HyD.Vk HyD.vu;rw[←hvu];rfl
  have hqt:((H.vs.take k2).any fun o=>o.live&&decide (o.aN=(vs.getD k2 default).aN))=((vs.take k2).any fun o=>o.live&&decide (o.aN=(vs.getD k2 default).aN)):=by
   rw[←e2,←List.map_take,List.any_map];rfl
  rw[hqt] at hq;generalize vs.getD k2 default=v at hr2 lC hq hf;refine run ?_;intro W;refine aC ?_
  have hB:(decide (v.vs=[])&&decide (v.fs=[])&&decide (v.fr=[])&&decide (v.aN=0))=!(decide (0<(v.vs.length:Int)+v.fs.length+v.fr.length)||!decide (v.aN=0)):=by
   rw[bI2];simp only[bH6,bJ6,bK9,decide_eq_true_eq,decide_eq_false_iff_not,bK6,←bU5];have:=bW9 v.vs.length;generalize v.aN=z;omega
  rw[hB] at hq;refine ah _ rfl (fun hd=>?_) (fun hd=>?_)
  ·have:H.Vk k2=false:=by
    rw[hq]
    cases hlv:v.live with
    | true=>rw[hlv] at hd;cases hd
    | false=>
     rw[hlv] at hd;simp only[bL1,bI6] at hd;rw[cond_false,hd];rfl
   refine run ?_;refine fin1 ?_;rw[fU hlt2 this]
  have hd1:=hd;clear hd;refine run ?_;refine az (fun wc hG=>FQ (us:=[]) (fun c=>!HyD.Vj c) v.vs _ (lC.good hG) (fun c _ w' _=>X5 c w')) ?_;have hany:(v.vs.any fun c=>!HyD.Vj c)=!(v.vs.all HyD.Vj):=by rw[bQ1]
  rw[hany];have hnil:v.vs=[]→v.vs.all HyD.Vj=true:=fun e=>by rw[e];rfl
  generalize v.vs.all HyD.Vj=a at hq hnil;refine run ?_;refine ah _ rfl (fun hd=>?_) (fun hd=>?_)
  ·have ha:a=false:=by simpa using hd
   have:H.Vk k2=false:=by
    rw[hq,ha]
    cases hlv:v.live with
    | true=>simp
    | false=>
     rw[hlv] at hd1;exfalso;rw[ha] at hnil;refine absurd (hnil ?_) bB5;rw[←bU5];rw[bK9] at hd1;have:=hd1.1;simp only[bL1,bI6,decide_eq_false_iff_not] at this;omega
   refine run ?_;refine fin1 ?_;rw[fU hlt2 this]
  have ha:a=true:=by simpa using hd
  subst ha;clear hd;refine aC ?_
  have hcap2:4≤cap2:=by
   obtain⟨_,c,e,hle⟩:=h.h.cap;rw[hL.v] at e hle;injection e with _ _ e
   omega
  refine av5 (v:=.slice (some ⟨b2,o2,none⟩) k2 cap2) (hy:=fun hg1 hg2=>by simp only[hg1,hg2,bI,bQ9];exact pX aB rfl rfl bB8 bB3 bB3 (m':=k2) bB5 (.inr ⟨_,_,rfl⟩)) (h:=?_);refine aC ?_;have hvt:aA w (.slice (some ⟨b2,o2,none⟩) k2 cap2) 6 ((vs.take k2).map mW):=hH.vs.rows.takeN bB3;refine IC (fun hg1 hg2 wc hG=>xg (us:=[.pointer (some ⟨W,0,none⟩)]) (fun o=>o.live&&decide (o.aN=v.aN)) (vs.take k2) _ (hvt.good hG) (fun o _ w' ha=>X6 o v.aN W w' ?_)) ?_
  ·obtain⟨hp,hg⟩:=ha;exact hg.cell (by rw[cell_of_block (hG.here ⟨W,#[.bool v.live,.bool v.dying,.int .i64 v.aN,v.fv,v.rv,v.vv],62⟩ mh)];rfl) bB5
  refine aC ?_;generalize (vs.take k2).any (fun o=>o.live&&decide (o.aN=v.aN))=c at hq
  have hg:(v.live&&(decide (v.aN<1)||decide (15<v.aN)||c))=!H.Vk k2:=by
   rw[hq]
   cases hlv:v.live with
   | true=>
    rw[cond_true,bI6,bI6,bI2]
    cases c with
    | true=>simp
    | false=>
     simp only[PtD.dD,bU3,bL1,bM',bJ7,bJ6,bN7,decide_eq_true_eq,decide_eq_false_iff_not]
     omega
   | false=>
    rw[hlv] at hd1;simp only[bL1,bI6] at hd1;rw[cond_false,hd1];rfl
  refine ah _ rfl (fun hd=>?_) (fun hd=>?_)
  ·replace hd:=hg.symm.trans hd;refine run ?_;refine fin1 ?_;rw[fU hlt2 bG5]
  replace hd:=hg.symm.trans hd;refine run ?_;refine aF (k2+1) ⟨hlt2,fun j hj=>?_⟩;by_cases e:j=k2
  ·subst e;simpa using hd
  ·exact hK2 j bB3
end
section
section
variable {P : Program} {n : Nat} {w0 : World} {mu : List Nat} {l : Fm} {h0 hp hc : Hp} {Q : Exit → Fm → Hp → Prop} {all : Array Oper} {ds : List (Nat × Nat)} {t0 : Nat} {i d : Nat} {iv fr : Fm} {rest : List Oper} {op : Op} {ty : TypeId} {pos : String} {af : Array Edge} {j : Nat} {want : Bool} {dj : Nat} {b : Bool}
end
section
variable {n : Nat} {w0 : World} {mu : List Nat} {l : Fm} {hp : Hp} {dd : Option Tmp} {ty : TypeId} {pos : String} {af : Array Edge} {gg : Option (Nat × Bool)}
theorem Jp{t:TypeId}{x:Operand}{off:Nat}(hs:mem Tb.sc t=true)(hx:ev l x=some (.pointer (some ⟨b,off,none⟩)))(hc:∀ w,Good w0 mu hp w→w.cell? ⟨b,off,none⟩=some v):Hy Tryz.prog n w0 mu l hp ⟨dd,.load t x,ty,pos,af,gg⟩ v:=
 bQ fun a w hk hG=>by
  simp only[execOp,hk.ev hx];simp[uB (aB.gsc hs) (hc w hG)]
end
section
variable {n : Nat} {w0 : World} {mu : List Nat} {l : Fm} {h0 hp hc : Hp} {all : Array Oper} {iv aX bz : Fm} {i d : Nat} {ds : List (Nat × Nat)} {r : List Nat} {Y : Fm → Hp → Prop} {ty : TypeId} {pos : String} {af : Array Edge}
theorem aZ0{t:TypeId}{x:Operand}{cs:List Value}(h:∀ b,gX Tryz.prog n w0 mu all ds l h0 aX Y r ((i,.pointer (some ⟨b,0,none⟩))::bz) (⟨b,cs.toArray,t⟩::hc))(ho:all[i]?=some ⟨some d,.box t x,ty,pos,af,none⟩:=by rfl)(hx:ev (aT ds (bz++aX) af.toList++l) x=some v:=by rfl)(hcs:v.cells=cs.toArray:=by (first | ((simp only[Value.cells])<;>rfl) | rfl)):gX Tryz.prog n w0 mu all ds l h0 aX Y (i::r) bz hc:=
 aa' ho (au2 hx hcs) (by rintro _ _ ⟨b,rfl,rfl⟩;exact h b)
end
attribute [local irreducible] Hy St Ops DH dH jg iP gQ DS gX lJ
theorem aA.aN0{α:Type}{f:α→List Value}{xs:List α}{o cap sz c':Nat}(h:aA w (.slice (some ⟨b,o,none⟩) n cap) sz (xs.map f))(hk:i+k≤xs.length):aA w (.slice (some ⟨b,o+i*sz,none⟩) k c') sz (((xs.drop i).take k).map f):=by
 obtain⟨⟨q,c,e,hne⟩,hle⟩:=h;injection e with e1 e2 e3
 subst e1 e3;rw[bH7] at hle;have hl:(((xs.drop i).take k).map f).length=k:=by rw[bH7,bK',bN9];omega
 refine⟨⟨_,_,by rw[hl],fun hx=>?_⟩,by rw[hl];omega⟩;obtain⟨b',off,e,hr⟩:=hne (by intro e;rw[bR9] at e;rw[e] at hx;simp at hx);injection e with e
 injection e with e1 e2 _
 subst e1 e2;refine⟨b,o+i*sz,rfl,fun j cc hj=>?_⟩;rw[List.map_take,List.map_drop,bM7] at hj;split at hj
 ·rw[bP2] at hj;have:=hr (i+j) cc hj;rwa [bR0,←bV2] at this
 ·cases hj
end
theorem MF{ws:List Nat}{p:Nat}(hl:level<4)(h:ws.getD p 0=0):gJ ws p level=dG:=by
 unfold gJ;rw[h];exact wH hl
theorem cov3:au 3=1:=rfl
theorem gG{l:List Int}:(l.any fun t=>decide (t=f))=true↔f∈l:=by
 simp
theorem nK{ws:List Nat}{may:Nat→DsD→Bool}{go:List Int→Int→Nat→Option (List Int)}:∀ {n:Nat} {seen s:List Int},dJ ws may go f level page n seen=some s→∀ k,k<n→∃ a b,dJ ws may go f level page k seen=some a∧mX ws may go f level page k a=some b∧dJ ws may go f level page (k+1) seen=some b:=by
 intro n
 induction n with
 | zero=>intro seen s _ k hk;omega
 | succ n ih=>
  intro seen s h k hk
  cases hs:dJ ws may go f level page n seen with
  | none=>rw[dJ,hs] at h;cases h
  | some a=>
   by_cases e:k=n
   ·subst e;rw[dJ,hs] at h;exact⟨a,s,hs,h,by rw[dJ,hs];exact h⟩
   ·exact ih hs k bB3
theorem rQ{ws:List Nat}{may:Nat→DsD→Bool}{seen s:List Int}(h:dM ws may (k+1) seen f level page=some s):bK ws.length f=true∧f∉seen∧dJ ws may (fun s f' p=>dM ws may k s f' (level+1) p) f level page 8 (seen++[f])=some s:=by
 rw[dM] at h
 cases hc:(!bK ws.length f||seen.any (fun t=>decide (t=f))) with
 | true=>rw[hc] at h;cases h
 | false=>
  rw[hc,cond_false] at h;rw[bK9,bK6] at hc;refine⟨hc.1,fun hm=>?_,h⟩;rw[gG.2 hm] at hc;cases hc.2
theorem nM{ws:List Nat}{may:Nat→DsD→Bool}{go:List Int→Int→Nat→Option (List Int)}{a b:List Int}(hl:level<4)(h:mX ws may go f level page k a=some b):
  ((gJ ws (f.toNat*8+k) level).kind=1∧page+k*au level≤15∧go a (gJ ws (f.toNat*8+k) level).frame (page+k*au level)=some b) ∨
  ((gJ ws (f.toNat*8+k) level).kind≠1∧a=b∧(ws.getD (f.toNat*8+k) 0≠0→(gJ ws (f.toNat*8+k) level).kind=2∧level=3∧may (page+k) (gJ ws (f.toNat*8+k) level)=true)):=by
 unfold mX at h;by_cases h1:(gJ ws (f.toNat*8+k) level).kind=1
 ·simp only[h1,decide_true,cond_true] at h
  cases hc:decide (15<page+k*au level) with
  | true=>rw[hc] at h;cases h
  | false=>
   rw[hc,cond_false] at h;have:=of_decide_eq_false hc;exact .inl ⟨h1,by omega,h⟩
 ·simp only[decide_eq_false h1,cond_false] at h;refine .inr ⟨h1,?_⟩
  cases hc:(!decide (ws.getD (f.toNat*8+k) 0=0)&&(!decide ((gJ ws (f.toNat*8+k) level).kind=2)||!decide (level=3)||!may (page+k) (gJ ws (f.toNat*8+k) level))) with
  | true=>rw[hc] at h;cases h
  | false=>
   rw[hc,cond_false,bK0] at h;refine⟨h,fun hne=>?_⟩;rw[decide_eq_false hne,bL1,bI6] at hc;simpa [and_assoc] using hc
structure Fz(n:Nat)(seen s:List Int):Prop where
 pre:∃ t,s=seen++t
 nd:seen.Nodup→s.Nodup
 has:(∀ f∈seen,bK n f=true)→∀ f∈s,bK n f=true
theorem Fz.refl(n:Nat)(s:List Int):Fz n s s:=⟨⟨[],by simp⟩,id,id⟩
theorem Fz.trans{a b c:List Int}(h1:Fz n a b)(h2:Fz n b c):Fz n a c:=by
 obtain⟨t,e⟩:=h1.pre;obtain⟨u,e2⟩:=h2.pre;exact⟨⟨t++u,by rw[e2,e,bK7]⟩,fun h=>h2.nd (h1.nd h),fun h=>h2.has (h1.has h)⟩
theorem Fz.snoc{a:List Int}(hf:bK n f=true)(hm:f∉a):Fz n a (a++[f]):=
 ⟨⟨[f],rfl⟩,fun h=>bM3.2 ⟨h,by simp,fun x hx y hy e=>by simp at hy;subst hy;subst e;exact hm hx⟩,fun h g hg=>by
  rcases bK4.1 hg with h1 | h1
  ·exact h g h1
  ·simp at h1;rw[h1];exact hf⟩
theorem Fz.sub{a b:List Int}(h:Fz n a b)(hf:f∈a):f∈b:=by
 obtain⟨t,e⟩:=h.pre;rw[e];exact bJ2 _ hf
theorem tX{ws:List Nat}{may:Nat→DsD→Bool}:∀ (k level:Nat) (seen:List Int) (f:Int) (page:Nat) (s:List Int),level+k=4→dM ws may k seen f level page=some s→Fz ws.length seen s∧f∈s:=by
 intro k
 induction k with
 | zero=>intro level seen f page s _ h;cases h
 | succ k ih=>
  intro level seen f page s hlk h;obtain⟨h1,h2,h3⟩:=rQ h
  have key:∀ n b,dJ ws may (fun s f' p=>dM ws may k s f' (level+1) p) f level page n (seen++[f])=some b→Fz ws.length (seen++[f]) b:=by
   intro n
   induction n with
   | zero=>intro b hb;cases hb;exact Fz.refl _ _
   | succ n ihn=>
    intro b hb;obtain⟨a,b',ha,hs,hb'⟩:=nK hb n bB3;rw[hb] at hb';cases hb';refine (ihn a ha).trans ?_;rcases nM bB3 hs with⟨hk1,_,hgo⟩ | ⟨_,rfl,_⟩
    ·exact (ih (level+1) a _ _ b bB3 hgo).1
    ·exact Fz.refl _ _
  have h4:=key 8 s h3;exact⟨(Fz.snoc h1 h2).trans h4,h4.sub bB5⟩
theorem PG{ws:List Nat}{may:Nat→DsD→Bool}{seen s:List Int}(hlk:level+(k+1)=4)(h:dM ws may (k+1) seen f level page=some s)(hi:i<8):
  ((gJ ws (f.toNat*8+i) level).kind=1∧page+i*au level≤15∧∃ a b,dM ws may k a (gJ ws (f.toNat*8+i) level).frame (level+1) (page+i*au level)=some b) ∨
  ((gJ ws (f.toNat*8+i) level).kind≠1∧(ws.getD (f.toNat*8+i) 0≠0→(gJ ws (f.toNat*8+i) level).kind=2∧level=3∧may (page+i) (gJ ws (f.toNat*8+i) level)=true)):=by
 obtain⟨a,b,_,hs,_⟩:=nK (rQ h).2.2 i hi;rcases nM bB3 hs with⟨h1,h2,h3⟩ | ⟨h1,_,h2⟩
 ·exact .inl ⟨h1,h2,a,b,h3⟩
 ·exact .inr ⟨h1,h2⟩
theorem Hf{ws:List Nat}{may:Nat→DsD→Bool}{root:Int}:∀ (k level:Nat) (seen:List Int) (f:Int) (page:Nat) (s:List Int),level+k=4→dM ws may k seen f level page=some s→page%(8*au level)=0→BF ws root f level page →
  ∀ j,j<8*au level→(aO ws root (page+j) 3).ok=true∧((aO ws root (page+j) 3).d.kind=2→(aO ws root (page+j) 3).lv=3∧may (page+j) (aO ws root (page+j) 3).d=true):=by
 intro k
 induction k with
 | zero=>intro level seen f page s _ h;cases h
 | succ k ih=>
  intro level seen f page s hlk h hp hon j hj;have hl:level<4:=by omega
  have hf:=(rQ h).1;have hc:=fH hl;have hc0:0<au level:=by omega
  obtain⟨fs,d0,hfs,FX⟩:=hon;have hi:j/au level<8:=(Nat.div_lt_iff_lt_mul hc0).2 hj;have hr:j%au level<au level:=bV8 _ hc0
  have ej:page+j=page+(j/au level)*au level+j%au level:=by
   rw[bV2,bQ4,Nat.div_add_mod]
  generalize hii:j/au level=i at *;generalize hrr:j%au level=r at *;have hsw:=yZ hl hp hi hf FX hr;rcases PG hlk h hi with⟨h1,h2,a,b,h3⟩ | ⟨h1,h2⟩
  ·have hl3:level<3:=sZ h1;have aZ1:=xJ hl3 hp hi hf ⟨fs,d0,hfs,FX⟩ h1
   have hp2:(page+i*au level)%(8*au (level+1))=0:=by
    rw[←kG hl3];have h8:page%au level=0:=bT4 (bX8 ⟨8,bQ4 _ _⟩ (bR8 hp));rw[Nat.add_mod,h8,Nat.mul_mod_left];rfl
   have:=ih (level+1) a _ _ b bB3 h3 hp2 aZ1 r (by rw[←kG hl3];exact hr);rw[ej];exact this
  ·rw[ej,hsw];have h1':(!decide ((gJ ws (f.toNat*8+i) level).kind=1)||decide (level=3))=true:=by rw[decide_eq_false h1];rfl
   rw[h1',cond_true];refine⟨rfl,fun hk=>?_⟩
   have hne:ws.getD (f.toNat*8+i) 0≠0:=fun e=>by
    have:=MF hl e;dsimp only at hk;rw[this] at hk;cases hk
   obtain⟨_,e3,hm⟩:=h2 hne;subst e3;have hr0:r=0:=by rw[cov3] at hr;omega
   subst hr0;refine⟨by simp[qQ.lv,hfs],?_⟩;rw[cov3,bK3,bL4];exact hm
section
attribute [local irreducible] Hy St Ops DH dH jg iP gQ DS gX lJ
section
variable {n : Nat} {w0 : World} {mu : List Nat} {l : Fm} {hp : Hp} {Q : Exit → Fm → Hp → Prop} {all : Array Oper} {rest : List Oper} {ty : TypeId} {pos : String} {af : Array Edge}
theorem X8{f d j dj:Nat}{want c0 b:Bool}{x:Operand}{xs:List Operand}{vs fs us:List Value}{tys:Array TypeId}(hc:c0=true→jd b want=true→∀ w,Good w0 mu hp w→Fn Tryz.prog f (fs++vs++us).toArray w [] (fun u _=>u=v))(h:Ops Tryz.prog n w0 mu all rest ((d,gv (c0&&jd b want) v)::l) hp Q)(bM:mem iV f=true)
  (hj:(all[j]?).bind (·.dst)=some dj:=by rfl) (hb:look l dj=some (gv c0 (.bool b)):=by rfl) (hdj:Nat.blt dj n=true:=by rfl) (hd:Nat.blt d n=true:=by rfl) (hx:c0=true→jd b want=true→ev l x=some (.func (.func f) fs.toArray us.toArray):=by (intro hg0 hg1;(try simp only[bH6] at hg0);(try simp only[hg0,hg1,bI,bI6,bM',bQ9]);rfl)) (hv:c0=true→jd b want=true→evs l xs=some vs:=by (intro hg0 hg1;(try simp only[bH6] at hg0);(try simp only[hg0,hg1,bI,bI6,bM',bQ9]);rfl)):Ops Tryz.prog n w0 mu all (⟨some d,.call { callee:=.value x,args:=xs.toArray,argTypes:=tys },ty,pos,af,some (j,want)⟩::rest) l hp Q:=
 Dy hd hj hb hdj (fun hg0 hg=>yu (fA f bM) (hx hg0 hg) (hv hg0 hg) (hc hg0 hg)) h
end
theorem X9{wb wc:World}{ha hp:Hp}(h:Good wb [] ha w)(hG:Good w (ha.map (·.b)) hp wc):rO wb wc:=⟨hp++[],Good.lH (hi:=ha) (hp:=[]) (by rw[bI'];exact h) hG⟩
theorem Rn:∀ (n:Nat) (a:List Int),a.Nodup→(∀ i∈a,0≤i∧i<(n:Int))→a.length≤n
 | 0,a,_,h=>by
  cases a with
  | nil=>exact bI9 _
  | cons x r=>have:=h x (bI8 ..);omega
 | n+1,a,hn,h=>by
  have h1:=Rn n (a.erase (n:Int)) (hn.erase _) fun i hi=>by
   have h2:=(List.Nodup.mem_erase_iff hn).1 hi;have:=h i h2.2;omega
  have h3:=List.length_erase (a:=(n:Int)) (l:=a);split at h3<;>omega
theorem rU{s:List Int}(hn:s.Nodup)(h:∀ f∈s,bK n f=true):s.length≤n/8:=
 Rn (n/8) s hn fun f hf=>by
  have:=h f hf;simp only[bK,bH6,decide_eq_true_eq] at this;exact this
def Ya(r:Option (List Int))(u:Value)(hn:Hp):Prop:=match r with
 | none=>u=.tuple #[.slice none 0 0,.bool false]
 | some s=>∃ v h,u=.tuple #[v,.bool true]∧Acc 3 1 v h (s.map bY)∧aI h hn
theorem qE {ws : List Nat} {may : Nat → DsD → Bool} {go : List Int → Int → Nat → Option (List Int)}   {seen : List Int}  (h : dJ ws may go f level page i seen = none) : ∀ {n : Nat}, i ≤ n → dJ ws may go f level page n seen = none := by
  intro n
  induction n with
  | zero => intro hi; obtain rfl : i = 0 := by omega
            exact h
  | succ n ih =>
    intro hi;by_cases e : i = n + 1
    · subst e; exact h
    · rw [dJ, ih bB3]
theorem ag0{wb:World}(X b o cap:Nat)(ws:List Nat)(hw:lW ws)(hm:fJ ws.length=true){F:Nat}{us:List Value}(may:Nat→DsD→Bool)(bM:mem iV F=true)
  (hX:wb.cell? ⟨X,0,none⟩=some (.slice (some ⟨b,o,none⟩) ws.length cap)) (hs:aA wb (.slice (some ⟨b,o,none⟩) ws.length cap) 1 (ws.map uV))
  (hF:∀ (page:Nat) (d:DsD),page≤4095→0≤d.frame→∀ wc,rO wb wc→Fn Tryz.prog F ([]++[Value.int .i64 (page:Int),uj d]++us).toArray wc [] (fun u _=>u=.bool (may page d))):
  ∀ (k level:Nat),level+k=3→∀ (w:World) (seen:List Int) (v:Value) (ha:Hp) (f:Int) (page:Nat),Acc 3 1 v ha (seen.map bY)→Good wb [] ha w→seen.Nodup→(∀ f∈seen,bK ws.length f=true)→page%(8*au level)=0→page+8*au level≤4096 →
  Fn Tryz.prog 128 [.pointer (some ⟨X,0,none⟩),v,.int .i64 f,.int .i64 (level:Int),.int .i64 (page:Int),.func (.func F) [].toArray us.toArray].toArray w (ha.map (·.b)) (Ya (dM ws may (k+1) seen f level page)):=by
 intro k
 induction k using Nat.strongRecOn with
 | ind k ih=>
 intro level hlk w seen v ha f page hA hG0 hnd hhas hp hpl;have rY:=bP hm;have hl:level<4:=by omega
 have hc9:=fH hl;have hsl:=rU hnd hhas;obtain⟨q,c,ev⟩:=hA.own.opened;rw[bH7] at ev;subst ev;have haft:∀ wc hp,Good w (ha.map (·.b)) hp wc→rO wb wc:=fun wc hp hG=>X9 hG0 hG
 have hcell:∀ wc hp,Good w (ha.map (·.b)) hp wc→wc.cell? ⟨X,0,none⟩=some (.slice (some ⟨b,o,none⟩) ws.length cap):=fun wc hp hG=>by
  obtain⟨_,hg⟩:=haft wc hp hG;exact hg.cell hX bB5
 have aZ2:∀ wc hp,Good w (ha.map (·.b)) hp wc→aA wc (.slice (some ⟨b,o,none⟩) ws.length cap) 1 (ws.map uV):=fun wc hp hG=>by
  obtain⟨_,hg⟩:=haft wc hp hG;exact hs.good hg
 refine dS ha ⟨hG0.here,hG0.nodup⟩ Tryz.func128 ?_;refine aC ?_;refine Vh (v:=.slice (some ⟨b,o,none⟩) ws.length cap) (hy:=fun hg=>by simp only[hg,bI];exact Jp rfl rfl (fun w1 hG=>hcell w1 _ hG)) (h:=?_);refine aC ?_;refine Vh (v:=.int .i64 ((ws.length/8:Nat):Int)) (hy:=fun hg=>by simp only[hg,bI];exact uM rfl rfl ws.length 8 rfl rfl bB4 bB3) (h:=?_);refine aC ?_;have hcs:∀ wc hp,Good w (ha.map (·.b)) hp wc→(∀ e∈ha,e∈hp)→aA wc (.slice q seen.length c) 1 (seen.map bY):=fun wc hp hG hsb=>hA.own.lie (hG.lie hsb) bB6;refine bG (fun hg wc hG=>jP f seen _ (hcs wc _ hG (fun e he=>by simp[he]))) ?_;refine aC ?_
 have hgc:(decide (f<0)||decide (((ws.length/8:Nat):Int)≤f)||seen.any fun t=>decide (t=f))=(!bK ws.length f||seen.any fun t=>decide (t=f)):=by
  congr 1
  rw[bI2];simp only[bK,bJ7,bJ6,bN7,decide_eq_true_eq,decide_eq_false_iff_not];omega
 refine ah _ rfl (fun hc=>?_) (fun hc=>?_)
 ·replace hc:=hgc.symm.trans hc;refine run ?_;refine fin2 ?_;rw[dM,hc];rfl
 replace hc:=hgc.symm.trans hc;have hgr:dM ws may (k+1) seen f level page=dJ ws may (fun s f' p=>dM ws may k s f' (level+1) p) f level page 8 (seen++[f]):=by rw[dM,hc];rfl
 rw[bK9,bK6] at hc;have hh:=hc.1;have hnm:f∉seen:=fun hm=>by rw[gG.2 hm] at hc;cases hc.2
 have hfi:=iJ hh;have hG2:=Fz.snoc (a:=seen) hh hnm;rw[hgr];clear hgc hgr;refine run ?_;intro T;refine dK (c:=bY f) hA (fun v2 h2 hA2=>?_) bB6 (aY (m:=1) mh rfl);rw[←bN5 (f:=bY),←bJ4] at hA2;obtain⟨q2,c2,ev2⟩:=hA2.own.opened;rw[bH7] at ev2;subst ev2;refine aS h2 ak ?_;refine run ?_;refine az (fun wc hG=>Gx level hl wc) ?_;refine run ?_;refine aK (σ:=Nat×List Int×Value×Hp) (fun s=>[(49,.int .i64 (s.1:Int)),(1,s.2.2.1)]) (fun s=>s.2.2.2) (fun s=>s.1≤8∧dJ ws may (fun s f' p=>dM ws may k s f' (level+1) p) f level page s.1 (seen++[f])=some s.2.1∧Fz ws.length (seen++[f]) s.2.1∧Acc 3 1 s.2.2.1 s.2.2.2 (s.2.1.map bY)) (fun s=>8-s.1) (0,seen++[f],.slice q2 (seen++[f]).length c2,h2) ⟨bI1 _,rfl,Fz.refl _ _,hA2⟩ ?_;rintro⟨i,s1,ov,h1⟩ m hm2 ⟨hi,hsl1,hG3,hA1⟩;dsimp only at hm2 hi hsl1 hG3 hA1 ⊢;have hs1:s1.length≤ws.length/8:=rU (hG3.nd (hG2.nd hnd)) (hG3.has (hG2.has hhas));obtain⟨q1,c1,e1⟩:=hA1.own.opened;rw[bH7] at e1;subst e1;refine run ?_;refine ah _ rfl (fun hc2=>?_) (fun hc2=>?_)
 rotate_left
 ·have NL:i=8:=by have:=of_decide_eq_false hc2;omega
  subst NL;rw[hsl1];refine run ?_;exact fin2 ⟨_,h1,rfl,hA1,aI.refl _⟩
 have NL:i<8:=by have:=of_decide_eq_true hc2;omega
 have hic:i*au level≤7*au level:=bK8 _ bB3;refine run ?_;refine jI bB8 (Jp rfl rfl (fun w1 hG=>hcell w1 _ hG)) ?_;refine run ?_;rw[show f*8+(i:Int)=((f.toNat*8+i:Nat):Int) by omega];have Yb:f.toNat*8+i<ws.length:=by omega
 have hword:∀ wc hp,Good w (ha.map (·.b)) hp wc→wc.cell? ⟨b,o+(f.toNat*8+i),none⟩=some (.int .u64 ((ws.getD (f.toNat*8+i) 0:Nat):Int)):=fun wc hp hG=>by
  have:=aj ((aZ2 wc hp hG).row Yb);simp only[bK3] at this;exact this
 refine run ?_;refine jI bB8 (Jp rfl rfl (fun w1 hG=>hword w1 _ hG)) ?_;have hw64:=hw.at (f.toNat*8+i)
 have hdt:zK 2 level (ws.getD (f.toNat*8+i) 0)=gJ ws (f.toNat*8+i) level:=rfl;have hdm:=mD ws (f.toNat*8+i) level;have hstep:=fun (b:Option (List Int)) (hb:mX ws may (fun s f' p=>dM ws may k s f' (level+1) p) f level page i s1=b)=>(show dJ ws may (fun s f' p=>dM ws may k s f' (level+1) p) f level page (i+1) (seen++[f])=b by rw[dJ,hsl1];exact hb)
 refine run ?_;refine az (fun wc hG=>an8 2 (.inr rfl) level hl _ hw64 wc) ?_;rw[hdt];unfold mX at hstep;dsimp only at hstep;generalize gJ ws (f.toNat*8+i) level=d at *;generalize ws.getD (f.toNat*8+i) 0=wd at *;obtain⟨hk3,hk0,hk1,hk2⟩:=gy hdm
 have hfr0:0≤d.frame:=by
  rcases hk3 with e | e | e
  ·have:=(hk0 e).1;omega
  ·exact (hk1 e).2.1
  ·exact (hk2 e).2.1
 refine run ?_;intro D;refine run ?_;refine ah _ rfl (fun hk=>?_) (fun hk=>?_)
 ·have hk':=of_decide_eq_true hk;simp only[hk',decide_true,cond_true] at hstep;have hl3:level<3:=(hk1 hk').1;have hcn:=kG hl3;have hmul:(i:Int)*(au level:Int)=((i*au level:Nat):Int):=(Int.natCast_mul _ _).symm;refine run ?_;rw[show (page:Int)+(i:Int)*(au level:Int)=((page+i*au level:Nat):Int) by rw[hmul];omega];refine ah _ rfl (fun hd=>?_) (fun hd=>?_)
  ·have h15:decide (15<page+i*au level)=true:=decide_eq_true (by have:=of_decide_eq_true hd;omega);have hno:=hstep none (by rw[h15];rfl);refine run ?_;refine fin2 ?_;rw[qE hno bB3];rfl
  have h15:decide (15<page+i*au level)=false:=decide_eq_false (by have:=of_decide_eq_false hd;omega);rw[h15] at hstep;simp only[cond_false] at hstep;refine run ?_;rw[show (page:Int)+(i:Int)*(au level:Int)=((page+i*au level:Nat):Int) by rw[hmul];omega]
  have hcm:(page+i*au level)%(8*au (level+1))=0:=by
   rw[←hcn];have h8:au level ∣ page:=bX8 ⟨8,bQ4 _ _⟩ (bR8 hp);exact bT4 (Nat.dvd_add h8 ⟨i,bQ4 _ _⟩)
  obtain⟨k',rfl⟩:∃ k',k=k'+1:=⟨k-1,by omega⟩
  refine iR (R:=fun u hn=>Ya (dM ws may (k'+1) s1 d.frame (level+1) (page+i*au level)) u hn) h1 [⟨D,#[.int .i64 d.kind,.int .i64 d.frame,.bool d.r,.bool d.w,.bool d.x,.bool d.af,.bool d.ng,.int .i64 d.soft,.int .i64 d.note],95⟩] (fun wc hG=>?_) ?_ aU
  ·refine ih k' bB3 (level+1) bB3 wc s1 _ h1 d.frame _ hA1 ?_ (hG3.nd (hG2.nd hnd)) (hG3.has (hG2.has hhas)) hcm (by rw[←hcn];omega);have h5:=Good.lH (hi:=ha) (hp:=[]) (by rw[bI'];exact hG0) hG;rw[bI'] at h5;exact h5.sub (bY1 _ _)
  intro u hn hu
  cases hz:dM ws may (k'+1) s1 d.frame (level+1) (page+i*au level) with
  | none=>
   rw[hz] at hu;obtain rfl:u=_:=hu;have hno:=hstep none hz;refine aP ?_;refine fin2 ?_
   rw[qE hno bB3];rfl
  | some s2=>
   rw[hz] at hu;obtain⟨v5,h5,rfl,Vm,PI⟩:=hu;refine ig PI ?_;obtain⟨q5,c5,e5⟩:=Vm.own.opened;rw[bH7] at e5;subst e5;have hG5:=(tX (k'+1) (level+1) s1 d.frame (page+i*au level) s2 bB3 hz).1;refine aP ?_;exact aF (i+1,s2,.slice q5 s2.length c5,h5) ⟨NL,hstep _ hz,hG3.trans hG5,Vm⟩ (hm:=by dsimp only;omega) (h2:=by (exact ak))
 have hk':=of_decide_eq_false hk;rw[decide_eq_false hk'] at hstep;simp only[cond_false] at hstep;refine aC ?_;refine X8 (fs:=[]) (vs:=[.int .i64 ((page+i:Nat):Int),uj d]) (us:=us) (fun hg0 hg1 wc hG=>hF (page+i) d bB3 hfr0 wc (haft wc _ hG)) ?_ bM;refine aC ?_
 have hcc:(!decide ((wd:Int)=0)&&(!decide (d.kind=2)||!decide ((level:Int)=3)||!may (page+i) d))=(!decide (wd=0)&&(!decide (d.kind=2)||!decide (level=3)||!may (page+i) d)):=by
  have e1:decide ((wd:Int)=0)=decide (wd=0):=by rw[bI2,decide_eq_true_eq,decide_eq_true_eq];omega
  have e2:decide ((level:Int)=3)=decide (level=3):=by rw[bI2,decide_eq_true_eq,decide_eq_true_eq];omega
  rw[e1,e2]
 refine ah _ rfl (fun hd=>?_) (fun hd=>?_)
 ·replace hd:=hcc.symm.trans hd;have hno:=hstep none (by rw[hd];rfl);refine run ?_;refine fin2 ?_;rw[qE hno bB3];rfl
 replace hd:=hcc.symm.trans hd;refine run ?_;refine aF (i+1,s1,.slice q1 s1.length c1,h1) ⟨NL,hstep _ (by rw[hd];rfl),hG3,hA1⟩ (hm:=by dsimp only;omega) (h2:=by (exact ak))
end
section
attribute [local irreducible] Hy St Ops DH dH jg iP gQ DS gX lJ
theorem ap3(a b:DsD):aW (dsR a) (dsR b)=decide (a=b):=by
 obtain⟨a1,a2,a3,a4,a5,a6,a7,a8,a9⟩:=a;obtain⟨b1,b2,b3,b4,b5,b6,b7,b8,b9⟩:=b;rw[bI2,decide_eq_true_eq];simp[aW,iF]
theorem Yc(X:Nat){pv gv ov:Value}{P:PtD}(hP:dO w pv gv ov P)(hn:P.Len)(h4:P.ay.length=4)(i:Nat)(hi:i<4)(mid:Nat)(d:DsD)(h0:0≤d.frame):Fn Tryz.prog 130 [.pointer (some ⟨X,0,none⟩),.int .i64 ((i:Int)+1),.int .i64 (mid:Int),uj d,.agg #[pv,gv,ov]].toArray w [] (fun u _=>u=.bool (vg P ((i:Int)+1) mid d)):=by
 have hl:=hn;obtain⟨L,rfl,rfl,rfl,hV⟩:=hP.open hn;have hg:=hV.gs i bB3;have hmp:=hV.mp i bB3;refine enter Tryz.func130 ?_;refine run ?_;intro B1 B2;refine ah _ rfl (fun hc=>?_) (fun hc=>?_)
 ·have hge:¬ d.frame<(P.pages.length:Int):=by have:=of_decide_eq_true hc;omega
  refine run ?_;refine fin1 ?_;unfold vg;rw[decide_eq_false hge];rfl
 have hlt:d.frame<(P.pages.length:Int):=by have:=of_decide_eq_false hc;omega
 have hfl:d.frame.toNat<P.pages.length:=by omega
 have hpr:=hV.pg d.frame.toNat hfl;refine Mc ?_;intro S;have hn1:((i:Int)+1-1).toNat=i:=by omega
 refine sF (σ:=Int) (fun z=>[(11,.int .i64 z)]) (fun _=>[⟨B2,#[L.pv P.pages.length,L.gv P.ay.length,L.ov P.on.length],48⟩,⟨B1,#[.int .i64 d.kind,.int .i64 d.frame,.bool d.r,.bool d.w,.bool d.x,.bool d.af,.bool d.ng,.int .i64 d.soft,.int .i64 d.note],95⟩]) (fun z=>z=BG P ((i:Int)+1) d.frame.toNat) ?_ ?_
 ·unfold BG;refine run ?_;refine ah _ rfl (fun hc2=>?_) (fun hc2=>?_)
  ·refine run ?_;exact kZ 2 (by rw[hc2];rfl)
  refine run ?_;refine ah _ rfl (fun hc3=>?_) (fun hc3=>?_)
  ·refine run ?_;exact kZ 1 (by rw[hc2,hc3];rfl)
  ·refine run ?_;exact kZ 0 (by rw[hc2,hc3];rfl)
 rintro z hz;unfold vg;rw[decide_eq_true hlt,bI6,←hz,hn1];refine aC ?_;have hmc:w.cell? ⟨L.gb,L.go+((i:Int)+1-1).toNat*5+4,none⟩=some (L.mv i):=by rw[hn1];exact hg 4 _ rfl
 refine gU 20 ?_;refine bg ?_;refine fB (fun wc hG=>yU d.frame z wc) ?_;refine bg ?_;refine eX (fun hg wc hG=>Jm ⟨(mid:Int),d.frame⟩ (P.gs i).maps _ (hmp.good hG)) ?_;refine bg ?_;refine aC ?_;refine fin1 ?_;rw[←ap3]
theorem PL(X Y1 Y2 Y3:Nat){pv gv ov:Value}{P:PtD}(hP:dO w pv gv ov P)(hn:P.Len)(i:Nat)(hi:i<4)(page:Nat)(d:DsD)(h0:0≤d.frame)(h1:w.cell? ⟨Y1,0,none⟩=some (.pointer (some ⟨X,0,none⟩)))(h2:w.cell? ⟨Y2,0,none⟩=some (.int .i64 (i:Int)))(h3:w.rangeAt Y3 0 [pv,gv,ov]):Fn Tryz.prog 129 ([]++[Value.int .i64 (page:Int),uj d]++[Value.pointer (some ⟨Y1,0,none⟩),.pointer (some ⟨Y2,0,none⟩),.pointer (some ⟨Y3,0,none⟩)]).toArray w [] (fun u _=>u=.bool (decide (page≤15)&&vg P ((i:Int)+1) page d)):=by
 refine enter Tryz.func129 ?_;refine aC ?_;intro B;refine aC ?_;refine bG (fun hg wc hG=>Yc X (hP.good hG) hn (by have:=hn.g4;omega) i hi page d h0) ?_;refine aC ?_;refine fin1 ?_
 congr 2
 rw[bI2,decide_eq_true_eq,decide_eq_true_eq];omega
theorem PM(c:Nat)(w:World):Fn Tryz.prog 133 ([]++[Value.int .u64 (c:Int)]++[]).toArray w [] (fun u _=>u=.bool (!decide (c=0))):=by
 refine enter Tryz.func133 ?_;refine run ?_;refine fin1 ?_
 congr 2
 rw[bI2,decide_eq_true_eq,decide_eq_true_eq];omega
theorem PN(f:Int)(l:List Int)(Y:Nat){lv:Value}(h1:w.cell? ⟨Y,3,none⟩=some lv)(hl:aA w lv 1 (l.map bY)):Fn Tryz.prog 135 ([]++[Value.int .i64 f]++[Value.pointer (some ⟨Y,0,none⟩)]).toArray w [] (fun u _=>u=.bool (!l.any fun t=>decide (t=f))):=by
 refine enter Tryz.func135 ?_;refine run ?_;refine az (fun wc hG=>jP f l _ (hl.good hG)) ?_;refine run ?_;exact fin1 rfl
theorem PO{vv rv:Value}(h:xM w X wv cv vv rv mv H){pv gv ov:Value}(hP:dO w pv gv ov H.aG)(hn:H.aG.Len)(hmay:H.aG.may=true)(i:Nat)(hi:i<4):Fn Tryz.prog 63 [.pointer (some ⟨X,0,none⟩),.int .i64 (i:Int),.agg #[pv,gv,ov]].toArray w [] (fun u _=>u=.bool (H.nY i)):=by
 have h':=h;have hP':=hP;have hL:=jq h.ok;have rY:=bP hL.m;have hfit:=h.h.fit.v (H.vu i) (getD_mem bG');obtain⟨L,rfl,rfl,rfl,hV⟩:=hP.open hn;obtain⟨cs,vs,e1,e2,_,hH⟩:=h.h.ex;have hvl:vs.length=4:=by rw[←hL.v,←e2,bH7]
 have hg4:=hn.g4;have hrg:=hV.gs i bB3;have hws:=hH.ws;obtain⟨qw,EG,rfl,hnew,_⟩:=hws.opened;obtain⟨bw,ow,rfl⟩:=hnew (by intro e;have:=hL.f;rw[e] at this;simp at this);have h0:w.rangeAt X 0 [.slice (some ⟨bw,ow,none⟩) H.ws.length EG]:=aV (k:=0) (n:=1) h.x rfl;have h0':=aj h0;have hop:=hH.vs.rows.opened;rw[hvl] at hop;obtain⟨q2,cap2,rfl,hne2,_⟩:=hop;obtain⟨b2,o2,rfl⟩:=hne2 bC7;have h2:w.rangeAt X 2 [.slice (some ⟨b2,o2,none⟩) 4 cap2]:=aV (k:=2) (n:=1) h.x rfl;have h2':=aj h2;obtain⟨qv,lv,ev,_⟩:=(hV.vc i bB3).opened;obtain⟨qm,lm,em,_⟩:=(hV.mp i bB3).opened;rw[ev,em] at hrg;generalize (H.aG.gs i).aQ.length=nv at hrg;generalize (H.aG.gs i).maps.length=nm at hrg;have hr:=hH.vs.rows.row (k:=i) bB3;have hfs:=hH.vs.fs _ (getD_mem (l:=vs) (k:=i) bB3);have hfr:=hH.vs.fr _ (getD_mem (l:=vs) (k:=i) bB3);have hu:=rM e2 i;rw[show H.vs.getD i default=H.vu i from rfl] at hu;have hgs:=(qC H).2.1 i hi;refine enter Tryz.func63 ?_;refine run ?_;intro Y1 Y2 Y3
 have tY:H.nY i=bif !(vs.getD i default).live then true else
   decide ((vs.getD i default).fs.length=5)&&allB 5 (fun k=>decide ((vs.getD i default).fs.getD k 0=(vs.getD i default).fs.getD 0 0+(k:Int))) &&
   match dM H.ws (H.EE i) 4 [] ((vs.getD i default).fs.getD 0 0) 0 0 with
   | none=>false
   | some seen=>decide (seen.length+(vs.getD i default).fr.length=5)&&allB (vs.getD i default).fr.length (xK H.ws (vs.getD i default).fs seen (vs.getD i default).fr)&&seen.all fun f=>(vs.getD i default).fs.any fun t=>decide (t=f):=by
  unfold HyD.nY kJ.root;rw[←hu];rfl
 have hgf:(H.bU i).first=bif (vs.getD i default).live then (bif decide (0<(vs.getD i default).fs.length) then (vs.getD i default).fs.getD 0 0 else 0) else 0:=by
  unfold HyD.bU kJ.root;rw[←hu];simp only[eG.u];cases (vs.getD i default).live<;>rfl
 have hgb:(vs.getD i default).live=true→16≤(H.bU i).first∧(H.bU i).first+5≤(H.ws.length/8:Nat):=fun hl=>by
  have hlg:(H.aG.gs i).live=true:=by
   rw[hgs];unfold HyD.bU;rw[←hu];simp only[eG.u,hl];rfl
  have:=(PtD.sQ.1 hmay).WE i hi hlg;have hpl:H.aG.pages.length=H.ws.length/8:=by simp[HyD.aG]
  rw[hgs,hpl] at this;omega
 rw[←hu] at hfit;simp only[eG.u] at hfit;rw[hgs] at hrg;generalize H.bU i=g at hrg hgf hgb;generalize vs.getD i default=v at *;refine Ee 17 15 [0,1,2,3,4,5,6,7,8,9,10,11,12] [13,14] [15,16] [⟨Y3,#[L.pv H.aG.pages.length,L.gv H.aG.ay.length,L.ov H.aG.on.length],48⟩,⟨Y2,#[.int .i64 (i:Int)],3⟩,⟨Y1,#[.pointer (some ⟨X,0,none⟩)],134⟩] ?_;refine kU ?_;refine sO ?_;refine sO ?_;refine kL ?_;rintro _ _ ⟨G,rfl,rfl⟩;rintro _ _ ⟨V,rfl,rfl⟩;simp only[DN,bI0,bI3,bI'];obtain⟨qf,lf,ef,rP,_⟩:=hfs.opened;obtain⟨qr,lr,er,az9,_⟩:=hfr.opened;refine je (b:=V) (tb:=62) (cs:=#[.bool false,.bool false,.int .i64 0,.slice none 0 0,.slice none 0 0,.slice none 0 0]) (cs':=(mW v).toArray) (hp':=⟨G,#[.bool false,.bool false,.int .i64 0,.slice none 0 0,.slice none 0 0],100⟩::[⟨Y3,#[L.pv H.aG.pages.length,L.gv H.aG.ay.length,L.ov H.aG.on.length],48⟩,⟨Y2,#[.int .i64 (i:Int)],3⟩,⟨Y1,#[.pointer (some ⟨X,0,none⟩)],134⟩]) ?_ aU;refine je (b:=G) (tb:=100) (cs:=#[.bool false,.bool false,.int .i64 0,.slice none 0 0,.slice none 0 0]) (cs':=#[.bool g.live,.bool g.dying,.int .i64 g.first,.slice qv nv lv,.slice qm nm lm]) (hp':=⟨V,(mW v).toArray,62⟩::[⟨Y3,#[L.pv H.aG.pages.length,L.gv H.aG.ay.length,L.ov H.aG.on.length],48⟩,⟨Y2,#[.int .i64 (i:Int)],3⟩,⟨Y1,#[.pointer (some ⟨X,0,none⟩)],134⟩]) ?_ aU;refine di ?_;refine kV ?_;refine run ?_;refine ah _ rfl (fun hc=>?_) (fun hc=>?_)
 ·have hlv:v.live=false:=by simpa using hc
  rw[hlv] at tY;refine run ?_;refine fin1 ?_;rw[tY];rfl
 have hlv:v.live=true:=by simpa using hc
 rw[hlv] at tY;simp only[bK1,cond_false] at tY;rw[hlv,cond_true] at hgf;clear hc;refine run ?_;refine ah _ rfl (fun hc=>?_) (fun hc=>?_)
 ·have h5:¬ v.fs.length=5:=by have:=hc;simp at this;omega
  refine run ?_;refine fin1 ?_;rw[tY,decide_eq_false h5];rfl
 have h5:v.fs.length=5:=by have:=hc;simp at this;omega
 rw[decide_eq_true h5,bI6] at tY;rw[decide_eq_true (by omega:0<v.fs.length),cond_true] at hgf;clear hc;rw[h5] at ef;obtain⟨bf,BJ,rfl⟩:∃ b o,qf=some ⟨b,o,none⟩:=rP bF5;rw[ef] at hfs;have hf0:=hfit.2.2.2.1
 have hrow:∀ k,k<5→w.cell? ⟨bf,BJ+k,none⟩=some (.int .i64 (v.fs.getD k 0)):=fun k hk=>by
  have:=aj (hfs.row (show k<v.fs.length by omega));simp only[bK3] at this;exact this
 have bo4:=hgb hlv;refine run ?_;rw[ef];refine aK (σ:=Nat) (fun k=>[(38,.int .i64 (k:Int))]) (fun _=>[⟨G,#[.bool g.live,.bool g.dying,.int .i64 g.first,.slice qv nv lv,.slice qm nm lm],100⟩,⟨V,(mW v).toArray,62⟩,⟨Y3,#[L.pv H.aG.pages.length,L.gv H.aG.ay.length,L.ov H.aG.on.length],48⟩,⟨Y2,#[.int .i64 (i:Int)],3⟩,⟨Y1,#[.pointer (some ⟨X,0,none⟩)],134⟩]) (fun k=>k≤5∧∀ j,j<k→v.fs.getD j 0=v.fs.getD 0 0+(j:Int)) (fun k=>5-k) 0 ⟨bI1 _,fun j hj=>absurd hj (bL0 _)⟩ ?_;rintro k m hm ⟨hk,hK⟩;refine run ?_;rw[h5];refine ah _ rfl (fun hc=>?_) (fun hc=>?_)
 ·have hk5:k<5:=by have:=of_decide_eq_true hc;omega
  have hrk:=hrow k hk5;refine run ?_;have hfe:decide (v.fs.getD k 0=g.first+(k:Int))=decide (v.fs.getD k 0=v.fs.getD 0 0+(k:Int)):=by rw[hgf]
  refine ah _ rfl (fun hd=>?_) (fun hd=>?_)
  ·have hne:¬ v.fs.getD k 0=g.first+(k:Int):=by simpa using hd
   refine run ?_;refine fin1 ?_;rw[tY,fU hk5 (decide_eq_false (by rw[←hgf];exact hne))];rfl
  have heq:v.fs.getD k 0=g.first+(k:Int):=by simpa using hd
  refine run ?_;refine aF (k+1) ⟨hk5,fun j hj=>?_⟩;by_cases e:j=k
  ·subst e;rw[heq,hgf]
  ·exact hK j bB3
 have hk5:k=5:=by have:=of_decide_eq_false hc;omega
 subst hk5;rw[fE (fun j hj=>decide_eq_true (hK j hj)),bI6] at tY;refine run ?_;refine bH (fun wc hG=>ag0 (wb:=wc) X bw ow EG H.ws hH.Df hL.m (us:=[.pointer (some ⟨Y1,0,none⟩),.pointer (some ⟨Y2,0,none⟩),.pointer (some ⟨Y3,0,none⟩)]) (H.EE i) rfl (hG.cell h0' bB5) (hws.good hG) (fun page d hp9 hd0 w' ha=>?_) 3 0 rfl wc [] _ [] g.first 0 (Acc.nil _ _) (Good.nil wc []) bW0 bB5 bB4 bB4) ?_
 ·obtain⟨hp,hg⟩:=ha;refine PL X Y1 Y2 Y3 (hP'.good (hG.trans hg)) hn i hi page d hd0 ?_ ?_ ?_
  ·exact hg.cell (by rw[cell_of_block (hG.here ⟨Y1,#[.pointer (some ⟨X,0,none⟩)],134⟩ bB5)];rfl) bB5
  ·exact hg.cell (by rw[cell_of_block (hG.here ⟨Y2,#[.int .i64 (i:Int)],3⟩ bB5)];rfl) bB5
  ·exact hg.range (qN (t:=48) (hG.here ⟨Y3,#[L.pv H.aG.pages.length,L.gv H.aG.ay.length,L.ov H.aG.on.length],48⟩ bB5)) bB5
 intro u hn2 hu;rw[←hgf] at tY
 cases hz:dM H.ws (H.EE i) 4 [] g.first 0 0 with
 | none=>
  rw[hz] at hu tY;obtain rfl:u=_:=hu;refine aS [⟨G,#[.bool g.live,.bool g.dying,.int .i64 g.first,.slice qv nv lv,.slice qm nm lm],100⟩,⟨V,(mW v).toArray,62⟩,⟨Y3,#[L.pv H.aG.pages.length,L.gv H.aG.ay.length,L.ov H.aG.on.length],48⟩,⟨Y2,#[.int .i64 (i:Int)],3⟩,⟨Y1,#[.pointer (some ⟨X,0,none⟩)],134⟩] ak ?_;refine aC ?_;refine ah _ rfl (fun hd=>?_) (fun hd=>by simp at hd);refine run ?_;refine fin1 ?_
  rw[tY]
 | some seen=>
  rw[hz] at hu tY;dsimp only at tY;obtain⟨v5,h6,rfl,Vm,PI⟩:=hu;have hGs:=tX 4 0 [] g.first 0 seen rfl hz
  have hsl:=rU (hGs.1.nd bW0) (hGs.1.has bB5);obtain⟨q5,c5,e5⟩:=Vm.own.opened;rw[bH7] at e5;subst e5;refine aS (⟨G,#[.bool g.live,.bool g.dying,.int .i64 g.first,.slice qv nv lv,.slice qm nm lm],100⟩::⟨V,(mW v).toArray,62⟩::⟨Y3,#[L.pv H.aG.pages.length,L.gv H.aG.ay.length,L.ov H.aG.on.length],48⟩::⟨Y2,#[.int .i64 (i:Int)],3⟩::⟨Y1,#[.pointer (some ⟨X,0,none⟩)],134⟩::h6) (cnt1 PI) ?_;refine aC ?_;have hcl:(decide ((seen.length:Int)+v.fr.length=5))=decide (seen.length+v.fr.length=5):=by rw[bI2,decide_eq_true_eq,decide_eq_true_eq];omega
  refine ah _ rfl (fun hd=>?_) (fun hd=>?_)
  ·have hne:decide (seen.length+v.fr.length=5)=false:=by
    rw[←hcl];simpa using hd
   refine run ?_;refine fin1 ?_;rw[tY,hne];rfl
  have heq:decide (seen.length+v.fr.length=5)=true:=by
   rw[←hcl];simpa using hd
  have heq':=of_decide_eq_true heq;rw[heq,bI6] at tY;clear hd;have hfr2:=hfr;rw[er] at hfr2;have hnr:v.fr.length≠0→∃ b o,qr=some ⟨b,o,none⟩:=fun h=>az9 (by intro e;rw[e] at h;exact h rfl);refine run ?_;rw[er];refine aK (σ:=Nat) (fun k=>[(72,.int .i64 (k:Int))]) (fun _=>⟨G,#[.bool g.live,.bool g.dying,.int .i64 g.first,.slice qv nv lv,.slice qm nm lm],100⟩::⟨V,(mW v).toArray,62⟩::⟨Y3,#[L.pv H.aG.pages.length,L.gv H.aG.ay.length,L.ov H.aG.on.length],48⟩::⟨Y2,#[.int .i64 (i:Int)],3⟩::⟨Y1,#[.pointer (some ⟨X,0,none⟩)],134⟩::h6) (fun k=>k≤v.fr.length∧∀ j,j<k→xK H.ws v.fs seen v.fr j=true) (fun k=>v.fr.length-k) 0 ⟨bI1 _,fun j hj=>absurd hj (bL0 _)⟩ ?_ (hh:=by (exact ak));rintro k m2 hm2 ⟨hk2,hK2⟩;refine run ?_;refine ah _ rfl (fun hc2=>?_) (fun hc2=>?_)
  rotate_left
  ·have hke:k=v.fr.length:=by have:=of_decide_eq_false hc2;omega
   subst hke;rw[fE hK2,bI6] at tY;refine run ?_;have az':∀ wc hp,Good w [] hp wc→(∀ e∈h6,e∈hp)→aA wc (.slice q5 seen.length c5) 1 (seen.map bY):=fun wc hp hG hs=>Vm.own.lie (hG.lie hs) bB6;refine az (fun wc hG=>qA (us:=[.pointer (some ⟨V,0,none⟩)]) (fun f=>!v.fs.any fun t=>decide (t=f)) seen _ (az' wc _ hG (fun e he=>by simp[he])) (fun f _ w' ha=>PN f v.fs V (w:=w') (lv:=v.fv) ?_ ?_)) ?_
   ·obtain⟨hp,hg⟩:=ha;exact hg.cell (by rw[cell_of_block (hG.here ⟨V,(mW v).toArray,62⟩ bB5)];rfl) bB5
   ·obtain⟨hp,hg⟩:=ha;rw[ef];exact (hfs.good hG).good hg
   refine run ?_;refine fin1 ?_;rw[tY,←bQ1,bQ']
  have hkl:k<v.fr.length:=by have:=of_decide_eq_true hc2;omega
  obtain⟨br,or_,rfl⟩:=hnr bB3;have hrr:=aj (hfr2.row hkl);simp only[bK3] at hrr
  have hrp:0<k→w.cell? ⟨br,or_+(k-1),none⟩=some (.int .i64 (v.fr.getD (k-1) default)):=fun h0=>by
   have:=aj (hfr2.row (k:=k-1) bB3);simp only[bK3] at this;exact this
  refine run ?_;refine az (fun wc hG=>jP _ v.fs _ (by rw[←ef] at hfs;exact hfs.good hG)) ?_;refine aC ?_;have BI:∀ wc hp,Good w [] hp wc→(∀ e∈h6,e∈hp)→aA wc (.slice q5 seen.length c5) 1 (seen.map bY):=fun wc hp hG hs=>Vm.own.lie (hG.lie hs) bB6;refine bG (fun hg wc hG=>jP _ seen _ (BI wc _ hG (fun e he=>by simp[he]))) ?_;refine aC ?_;rw[er]
  have hk0:jd (decide ((0:Int)<(k:Int))) true=true→0<k:=fun h=>by
   unfold jd at h;have:=h;simp at this;omega
  refine av5 (v:=.pointer (some ⟨br,or_+((k:Int)-1).toNat*1,none⟩)) (hy:=fun hg0 hg1=>by have:=hk0 hg1;simp only[hg0,hg1,bI,bQ9];exact Ig aB rfl rfl rfl bB3 bB3 rfl) (h:=?_);refine av5 (v:=.int .i64 (v.fr.getD (k-1) default)) (hy:=fun hg0 hg1=>by have h0:=hk0 hg1;simp only[hg0,hg1,bI,bQ9];exact Ih aB rfl rfl (by rw[bK3,show ((k:Int)-1).toNat=k-1 by omega];exact hrp h0) bB5) (h:=?_);refine aC ?_;have hfk:xK H.ws v.fs seen v.fr k=((v.fs.any fun t=>decide (t=v.fr.getD k default))&&!(seen.any fun t=>decide (t=v.fr.getD k default))&&(decide (k=0)||decide (v.fr.getD (k-1) default<v.fr.getD k default))&&GY H.ws (v.fr.getD k default)):=rfl
  have hin:(v.fs.any fun t=>decide (t=v.fr.getD k default))=true→bK H.ws.length (v.fr.getD k default)=true:=fun h=>by
   obtain⟨j,hj,e⟩:=bT0 (gG.1 h);have:=hK j bB3;rw[bH8,bH9 hj,bP1,e,←hgf] at this;rw[this];simp only[bK,bH6,decide_eq_true_eq];omega
  have hC1:((!(v.fs.any fun t=>decide (t=v.fr.getD k default))||seen.any fun t=>decide (t=v.fr.getD k default))||decide ((0:Int)<(k:Int))&&decide (v.fr.getD k default≤v.fr.getD (k-1) default))=!((v.fs.any fun t=>decide (t=v.fr.getD k default))&&!(seen.any fun t=>decide (t=v.fr.getD k default))&&(decide (k=0)||decide (v.fr.getD (k-1) default<v.fr.getD k default))):=by
   have e1:(decide ((0:Int)<(k:Int))&&decide (v.fr.getD k default≤v.fr.getD (k-1) default))=!(decide (k=0)||decide (v.fr.getD (k-1) default<v.fr.getD k default)):=by
    rw[bI2];simp only[bH6,bJ6,bK9,decide_eq_true_eq,decide_eq_false_iff_not];omega
   rw[e1];cases (v.fs.any fun t=>decide (t=v.fr.getD k default))<;>cases (seen.any fun t=>decide (t=v.fr.getD k default))<;>simp
  generalize v.fr.getD k default=f at *;refine ah _ rfl (fun hd=>?_) (fun hd=>?_)
  ·replace hd:=hC1.symm.trans hd;have:xK H.ws v.fs seen v.fr k=false:=by rw[hfk,show ((v.fs.any fun t=>decide (t=f))&&!(seen.any fun t=>decide (t=f))&&(decide (k=0)||decide (v.fr.getD (k-1) default<f)))=false by rw[bJ6] at hd;exact hd];rfl
   refine run ?_;refine fin1 ?_;rw[tY,fU hkl this];rfl
  replace hd:=hC1.symm.trans hd;have hd':((v.fs.any fun t=>decide (t=f))&&!(seen.any fun t=>decide (t=f))&&(decide (k=0)||decide (v.fr.getD (k-1) default<f)))=true:=by rw[bK6] at hd;exact hd
  rw[hd',bI6] at hfk;rw[bH6,bH6] at hd';have hhf:=hin hd'.1.1;have hfi:=iJ hhf
  have bh4:H.ws.length≤EG:=by
   obtain⟨_,c,e,hle⟩:=h'.h.EG;injection e with _ _ e
   omega
  refine run ?_;refine jI bB8 (wu aB rfl rfl rfl bB8 bB3 bB3 bB3 bB3 (o':=ow+f.toNat*8) bB3 (m':=8) bB3 (c':=EG-f.toNat*8) bB3) ?_;have hcut:aA w (.slice (some ⟨bw,ow+f.toNat*8*1,none⟩) 8 (EG-f.toNat*8)) 1 (((H.ws.drop (f.toNat*8)).take 8).map uV):=hws.aN0 (i:=f.toNat*8) (k:=8) bB3;rw[bK3] at hcut;refine run ?_;refine az (fun wc hG=>FT (us:=[]) (fun c=>!decide (c=0)) ((H.ws.drop (f.toNat*8)).take 8) _ (hcut.good hG) (fun c _ w' _=>PM c w')) ?_
  have hzb:(((H.ws.drop (f.toNat*8)).take 8).any fun c=>!decide (c=0))=!GY H.ws f:=by
   rw[←bQ1]
   congr 1
   unfold GY;rw[bI2,bH',aJ];constructor
   ·intro h j hj;have hl:j<((H.ws.drop (f.toNat*8)).take 8).length:=by rw[bK',bN9];omega
    have:=h _ (bX7 hl);rw[bU2,List.getElem_drop] at this;rw[bH8,bH9 bB3];exact this
   ·intro h c hc;obtain⟨j,hj,e⟩:=bT0 hc;rw[bU2,List.getElem_drop] at e;rw[bK',bN9] at hj;have:=h j bB3;rw[bH8,bH9 bB3] at this;rw[←e];exact this
  rw[hzb,←hfk];refine run ?_;refine ah _ rfl (fun hd2=>?_) (fun hd2=>?_)
  ·refine run ?_;refine fin1 ?_;rw[tY,fU hkl (by simpa using hd2)];rfl
  refine run ?_;refine aF (k+1) ⟨hkl,fun j hj=>?_⟩ (h2:=by (exact ak));by_cases e:j=k
  ·subst e;simpa using hd2
  ·exact hK2 j bB3
end
end Go.Proofs.YtellmabgmnbhcaaGreat
