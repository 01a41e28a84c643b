/- Texts of one's own, merged: the engine, what the functions do, plain laws. -/
import Derived.Test.YtiaelhhmlbfkmaaGreatPh3
namespace Go.Proofs.YtiaelhhmlbfkmaaGreat
open Go.RowKit
set_option linter.unusedVariables false
set_option linter.unusedSimpArgs false
set_option maxRecDepth 20000
section
section
variable {P : Program} {n : Nat} {w0 : World} {mu : List Nat} {l : Fm} {hp : Hp} {dd : Option Tmp} {ty : TypeId} {pos : String} {af : Array Edge} {gg : Option (Nat × Bool)} {t u : TypeId} {x y : Operand}
theorem Fq {p q:Int} (hx:ev l x=some (.int .i64 p)) (hy:ev l y=some (.int .i64 q)):Hy P n w0 mu l hp ⟨dd,.binOp .andNot t x y u,ty,pos,af,gg⟩ (.int .i64 (bits .andNot .i64 p q)):=
 bF fun ac w hk _=>by
  simp only [execOp,hk.ev hx,hk.ev hy]
  simp [eqGuard_andNot,binOp_andNot,intBits_andNot]
end
theorem JL:∀ l:Nat,l<3→∀ p:Nat,p<4096→bits .andNot .i64 (p:Int) ((aB l:Nat) - 1:Int)=((MH l p:Nat):Int):=by decide +kernel
end
section
attribute [local irreducible] Hy St Ops DH dG
theorem Q5 (m x:Int) (B:Nat) (w:World) (hB:w.cell? ⟨B,0,none⟩=some (.int .i64 m)):Fn Tryz.prog 321 ([]++[Value.int .i64 x]++[Value.pointer (some ⟨B,0,none⟩)]).toArray w [] (fun u _=>u=.bool (!PtD.di x 0 m)):=by
 refine enter Tryz.func321 ?_
 refine aI ?_
 refine fin1 ?_
 unfold PtD.di
 rw [Bool.not_and]
 congr 1
 rw [← decide_not,← decide_not]
 congr 1<;>(rw [Bool.eq_iff_iff,decide_eq_true_eq,decide_eq_true_eq];omega)
theorem vw (m:Int) (xs:List Int) {w:World} {v:Value} (h:aF w v 1 (xs.map dA)):Fn Tryz.prog 255 [.int .i64 m,v].toArray w [] (fun u _=>u=.bool (xs.all fun x=>PtD.di x 0 m)):=by
 refine enter Tryz.func255 ?_
 refine run ?_
 intro B
 refine run ?_
 refine ak (fun wc hG=>oV (us:=[.pointer (some ⟨B,0,none⟩)]) (fun x=>!PtD.di x 0 m) xs _ (h.good hG) (fun x _ w' ha=>Q5 m x B w' ?_)) ?_
 ·obtain ⟨hp,hg⟩:=ha
  exact hg.cell bi8 be7
 refine run ?_
 refine fin1 ?_
 rw [← List.not_all_eq_any_not,Bool.not_not]
theorem YT (level:Nat) (h0:1≤level) (h:level<4) (page:Nat) (hp:page≤4095) (w:World):Fn Tryz.prog 256 [.int .i64 (page:Int),.int .i64 (level:Int)].toArray w [] (fun u _=>u=.int .i64 (MH (level - 1) page:Int)):=by
 refine enter Tryz.func256 ?_
 refine run ?_
 have h9:=jc (show level - 1<4 by omega)
 have hc:=JL (level - 1) be5 page be5
 have e3:∀ l:Nat,l<4→1≤l→(1 <<< (3 * (4 - l)):Nat)=aB (l - 1):=by decide
 refine ja be8 (CJ rfl rfl 1 (3 * (4 - level)) be8 be5 be5 (by rw [e3 level h h0];exact Nat.lt_of_le_of_lt h9.2.1 be6)) ?_
 rw [e3 level h h0]
 refine run ?_
 refine ja be8 (Fq rfl rfl) ?_
 rw [hc]
 refine run ?_
 exact fin1 rfl
theorem YU (e:iU) (w:World):Fn Tryz.prog 174 [.agg (kE e).toArray].toArray w [] (fun u _=>u=.bool e.may):=by
 have e1:iH false false=true:=rfl
 refine enter Tryz.func174 ?_
 refine run ?_
 intro B Z
 refine ak (fun wc hG=>vw 15 [e.aO,e.sN] (gV (xs:=[dA e.aO,dA e.sN]) (hG.here ⟨Z,#[.int .i64 e.aO,.int .i64 e.sN],3⟩ mh) (by simp [dA]) be7)) ?_
 refine aI ?_
 cases hq:([e.aO,e.sN].all fun x=>PtD.di x 0 15) with
 | false=>
  simp only [List.all_cons,List.all_nil,Bool.and_true] at hq
  refine Xy (v:=.slice none 0 0) (hy:=fun hg=>by cases hg) (h:=?_)
  refine aI ?_
  refine ah _ rfl (fun hc=>?_) (fun hc=>by cases hc)
  refine run ?_
  refine fin1 ?_
  unfold iU.may iU.nums
  rw [hq];simp
 | true=>
  simp only [List.all_cons,List.all_nil,Bool.and_true] at hq
  simp only [Bool.not_true,e1,bG]
  refine Ve ?_ rfl
  refine aI ?_
  intro Z2
  refine dO (fun hg wc hG=>vw 4095 [e.page,e.frame,e.mid] (gV (xs:=[dA e.page,dA e.frame,dA e.mid]) (hG.here ⟨Z2,#[.int .i64 e.page,.int .i64 e.frame,.int .i64 e.mid],3⟩ mh) (by simp [dA]) be7)) ?_
  refine aI ?_
  have hnn:(false || !([e.page,e.frame,e.mid].all fun x=>PtD.di x 0 4095) || !decide (e.soft=0))=!e.nums:=by
   unfold iU.nums
   rw [hq]
   simp [Bool.and_assoc,Bool.or_assoc]
  rw [hnn]
  refine ah _ rfl (fun hn=>?_) (fun hn=>?_)
  ·refine run ?_
   refine fin1 ?_
   have hn':e.nums=false:=by simpa using hn
   simp [iU.may,hn']
  have hn':e.nums=true:=by simpa using hn
  clear hnn
  have hb:=hn'
  simp only [iU.nums,Bool.and_eq_true,decide_eq_true_eq] at hb
  have hpz:=oN hb.1.1.1.2
  refine run ?_
  refine ah _ rfl (fun hk=>?_) (fun hk=>?_)
  ·refine run ?_
   refine fin1 ?_
   simp [iU.may,hn',hk]
  refine run ?_
  refine ah _ rfl (fun hk2=>?_) (fun hk2=>?_)
  ·refine aI ?_
   refine fin1 ?_
   simp [iU.may,hn',hk,hk2]
  refine run ?_
  refine ah _ rfl (fun hk3=>?_) (fun hk3=>?_)
  ·refine aI ?_
   refine dL 36 ?_
   refine bP ?_
   refine ig (b:=decide (1≤e.level) && decide (e.level<4)) (want:=true) (v:=.int .i64 (MH (e.level.toNat - 1) e.page.toNat:Int)) (fun hg wc hG=>by
    simp [iH] at hg
    have h5:=YT e.level.toNat be5 be5 e.page.toNat hpz.2 wc
    rw [hpz.1,show ((e.level.toNat:Nat):Int)=e.level by omega] at h5
    exact h5) ?_
   refine bP ?_
   refine run ?_
   refine fin1 ?_
   have hz:decide (e.page=((MH (e.level.toNat - 1) e.page.toNat:Nat):Int))=decide (MH (e.level.toNat - 1) e.page.toNat=e.page.toNat):=by
    rw [Bool.eq_iff_iff,decide_eq_true_eq,decide_eq_true_eq]
    have:=hpz.1
    omega
   have hl4:decide (e.level<4)=decide (e.level≤3):=by rw [Bool.eq_iff_iff,decide_eq_true_eq,decide_eq_true_eq];omega
   rw [hz,hl4]
   simp only [iU.may,hn',hk3,show decide (e.kind=1)=false by simpa using hk,show decide (e.kind=2)=false by simpa using hk2,cond_false,cond_true,Bool.true_and,PtD.di,iU.bare,aW,kF]
   cases e.r<;>cases e.w<;>cases e.x<;>cases e.af<;>cases e.ng<;>simp
  ·refine run ?_
   refine fin1 ?_
   simp [iU.may,hn',hk,hk2,hk3]
theorem av6 (i:jZ) (w:World):Fn Tryz.prog 178 [.agg (rD i).toArray].toArray w [] (fun u _=>u=.bool i.may):=by
 have e1:iH true true=true:=rfl
 refine enter Tryz.func178 ?_
 refine run ?_
 intro B
 refine aI ?_
 cases hq:(decide (1≤i.kind) && decide (i.kind≤6)) with
 | false=>
  refine Xy (v:=.slice none 0 0) (hy:=fun hg=>by cases hg) (h:=?_)
  refine aI ?_
  refine fin1 ?_
  simp only [jZ.may,PtD.di,hq,Bool.false_and]
 | true=>
  simp only [e1,bG]
  refine Ve ?_ rfl
  refine aI ?_
  intro Z
  refine dO (fun hg wc hG=>vw 15 [i.aO,i.sN] (gV (xs:=[dA i.aO,dA i.sN]) (hG.here ⟨Z,#[.int .i64 i.aO,.int .i64 i.sN],3⟩ mh) (by simp [dA]) be7)) ?_
  refine aI ?_
  simp only [Bool.true_and]
  refine aI ?_
  cases hq2:([i.aO,i.sN].all fun x=>PtD.di x 0 15) with
  | false=>
   refine Xy (v:=.slice none 0 0) (hy:=fun hg=>by cases hg) (h:=?_)
   refine aI ?_
   refine fin1 ?_
   simp only [List.all_cons,List.all_nil,Bool.and_true] at hq2
   unfold jZ.may
   rw [Bool.and_assoc (PtD.di i.kind 1 6),hq2]
   simp
  | true=>
   simp only [e1,bG]
   refine Ve ?_ rfl
   refine aI ?_
   intro Z2
   refine dO (fun hg wc hG=>vw 4095 [i.page] (gV (xs:=[dA i.page]) (hG.here ⟨Z2,#[.int .i64 i.page],3⟩ mh) (by simp [dA]) be7)) ?_
   refine aI ?_
   refine fin1 ?_
   simp only [List.all_cons,List.all_nil,Bool.and_true] at hq2
   unfold jZ.may
   rw [Bool.and_assoc (PtD.di i.kind 1 6),show PtD.di i.kind 1 6=true from hq,hq2]
   simp
theorem VE (i:jZ) (w:World):Fn Tryz.prog 177 ([]++[Value.agg (rD i).toArray]++[]).toArray w [] (fun u _=>u=.bool (!i.may)):=by
 refine enter Tryz.func177 ?_
 refine run ?_
 intro B
 refine ak (fun wc hG=>av6 i wc) ?_
 refine run ?_
 exact fin1 rfl
theorem yt {w:World} (es:List iU) (ds:List jZ) (v u:Value) (h:aF w v 14 (es.map kE)) (hd:aF w u 4 (ds.map rD)) (hcap:∃ q c,v=.slice q es.length c∧es.length≤c):
  Fn Tryz.prog 90 [.agg #[v,u]].toArray w [] (fun r _=>r=.int .i64 (bif gq es ds then 0 else 1)):=by
 obtain ⟨q,cap,rfl,hne,hle⟩:=h.opened
 obtain ⟨q2,cap2,rfl,hne2,hle2⟩:=hd.opened
 replace hcap:es.length≤cap:=by
  obtain ⟨_,_,e,hc⟩:=hcap
  injection e with _ _ e
  rw [e];exact hc
 refine enter Tryz.func90 ?_
 refine run ?_
 intro B
 refine aI ?_
 refine ah _ rfl (fun hc=>?_) (fun hc=>?_)
 ·refine run ?_
  refine fin1 ?_
  have:gq es ds=false:=by
   unfold gq
   simp only [Bool.or_eq_true,decide_eq_true_eq] at hc
   have h2:(decide (es.length≤8) && decide (ds.length≤8))=false:=by
    rcases hc with hc | hc
    ·rw [decide_eq_false (p:=es.length≤8) be5,Bool.false_and]
    ·rw [decide_eq_false (p:=ds.length≤8) be5,Bool.and_false]
   rw [Bool.and_assoc,h2,Bool.and_false]
  rw [this];rfl
 have h8:es.length≤8∧ds.length≤8:=by
  simp at hc;omega
 refine run ?_
 refine aX (σ:=Nat) (fun k=>[(18,.int .i64 (k:Int))]) (fun _=>[⟨B,#[.slice q es.length cap,.slice q2 ds.length cap2],82⟩]) (fun k=>k≤es.length∧∀ j,j<k→JA es j=true) (fun k=>es.length - k) 0 ⟨Nat.zero_le _,fun j hj=>absurd hj be5⟩ ?_
 rintro k m rfl ⟨hk,hno⟩
 refine run ?_
 refine ah _ rfl (fun hc=>?_) (fun hc=>?_)
 ·have hlt:k<es.length:=by simpa using hc
  obtain ⟨b,o,rfl⟩:=hne be'
  have hr:=h.row hlt
  refine run ?_
  intro X
  refine run ?_
  refine kC ?_
  refine bZ ?_
  refine dM (fun wc hG=>YU (es.getD k default) wc) ?_
  refine bP ?_
  refine Qr (v:=.slice (some ⟨b,o,none⟩) k cap) (hy:=fun hg=>mW ay bf4 bf4 be8 be5 be5 (m':=k) be7 (.inr ⟨_,_,rfl⟩)) (h:=?_)
  refine bP ?_
  refine ig (fun hg wc hG=>Ho (es.getD k default) (es.take k) _ ((h.good hG).takeN be5)) ?_
  refine bP ?_
  refine run ?_
  have he:(!(es.getD k default).may || (es.take k).any fun t=>decide (t=es.getD k default))=!JA es k:=by
   unfold JA
   rw [Bool.not_and,Bool.not_not]
  rw [he]
  refine ah _ rfl (fun hp=>?_) (fun hp=>?_)
  ·refine run ?_
   refine fin1 ?_
   rw [YR hlt (by simpa using hp)];rfl
  ·refine run ?_
   refine aK (k + 1) ⟨hlt,fun j hj=>?_⟩
   rcases Nat.lt_succ_iff_lt_or_eq.1 hj with hj | rfl
   ·exact hno j hj
   ·simpa using hp
 ·have hge:k=es.length:=by simp at hc;omega
  subst hge
  refine run ?_
  refine ak (fun wc hG=>pV (us:=[]) (fun x=>!x.may) ds _ (hd.good hG) (fun x _ w' ha=>VE x w')) ?_
  refine run ?_
  have he:(ds.any fun x=>!x.may)=!ds.all jZ.may:=by rw [List.not_all_eq_any_not]
  rw [he]
  refine ah _ rfl (fun hp=>?_) (fun hp=>?_)
  ·refine run ?_
   refine fin1 ?_
   have:gq es ds=false:=by
    unfold gq
    rw [show ds.all jZ.may=false by simpa using hp];simp
   rw [this];rfl
  ·refine run ?_
   refine fin1 ?_
   have:gq es ds=true:=by
    unfold gq
    rw [Vo hno,show ds.all jZ.may=true by simpa using hp,decide_eq_true h8.1,decide_eq_true h8.2];rfl
   rw [this];rfl
end
def iU.stage (e:iU):Bool:=decide (e.kind=1) || decide (e.kind=3)
def jZ.at_ (i:jZ) (e:iU):Bool:=decide (e.page=bif decide (e.kind=3) then ((MH (e.level.toNat - 1) i.page.toNat:Nat):Int) else i.page)
def jZ.takes (i:jZ) (e:iU):Bool:=
 bif decide (i.kind=1) then true else bif !decide (i.aO=e.aO) then false
 else bif decide (i.kind=2) then true
 else bif decide (i.kind=3) then e.stage
 else bif decide (i.kind=4) then e.stage && !e.all && decide (e.sN=i.sN)
 else bif decide (i.kind=5) then e.stage && i.at_ e && (e.all || decide (e.sN=i.sN))
 else decide (e.kind=2) && i.at_ e
theorem Q7 (i:jZ):gq [] [i]=i.may:=by simp [gq]
theorem rF {xs:List iU}:∀ c∈xs.map kE,c.length=14∧c.all (·.oneCell')=true:=by
 intro c hc
 obtain ⟨x,_,rfl⟩:=List.mem_map.1 hc
 exact ⟨rfl,rfl⟩
theorem zo {xs:List jZ}:∀ c∈xs.map rD,c.length=4∧c.all (·.oneCell')=true:=by
 intro c hc
 obtain ⟨x,_,rfl⟩:=List.mem_map.1 hc
 exact ⟨rfl,rfl⟩
section
attribute [local irreducible] Hy St Ops DH dG je iI gJ DS gY
theorem aj6 (i:jZ) (w:World):Fn Tryz.prog 332 ([]++[Value.agg (rD i).toArray]++[]).toArray w [] (fun u _=>u=.bool (!i.may)):=by
 refine enter Tryz.func332 ?_
 refine run ?_
 intro B Z
 refine run ?_
 refine ak (fun wc hG=>yt [] [i] (.slice none 0 0) (.slice (some ⟨Z,0,none⟩) 1 1) ((Own.nil 51 14).lie (fun b hb=>by cases hb) be6) (gV (xs:=[rD i]) (hG.here ⟨Z,(rD i).toArray,194⟩ mh) be7 be7) ⟨_,_,rfl,Nat.le_refl _⟩) ?_
 refine run ?_
 refine fin1 ?_
 rw [Q7]
 cases i.may<;>rfl
theorem aj7 (ds:List jZ) {w:World} {v:Value} (h:aF w v 4 (ds.map rD)):Fn Tryz.prog 290 [v].toArray w [] (fun u _=>u=.bool (ds.all jZ.may)):=by
 refine enter Tryz.func290 ?_
 refine run ?_
 refine ak (fun wc hG=>pV (us:=[]) (fun x=>!x.may) ds _ (h.good hG) (fun x _ w' ha=>aj6 x w')) ?_
 refine run ?_
 refine fin1 ?_
 rw [← List.not_all_eq_any_not,Bool.not_not]
theorem Hq (e:iU) (w:World):Fn Tryz.prog 333 [.agg (kE e).toArray].toArray w [] (fun u _=>u=.bool e.stage):=by
 refine enter Tryz.func333 ?_
 refine run ?_
 intro B
 refine aI ?_
 refine fin1 ?_
 rfl
theorem O4 (i:jZ) (e:iU) (hi:i.may=true) (he:e.may=true) (w:World):Fn Tryz.prog 334 [.agg (rD i).toArray,.agg (kE e).toArray].toArray w [] (fun u _=>u=.bool (i.at_ e)):=by
 refine enter Tryz.func334 ?_
 refine run ?_
 intro B C
 refine run ?_
 refine ah _ rfl (fun hk=>?_) (fun hk=>?_)
 ·have hk3:e.kind=3:=by simpa using hk
  have hl:1≤e.level∧e.level≤3:=by
   simp [iU.may,hk3,PtD.di] at he
   exact he.2.1.1.1
  have hp:0≤i.page∧i.page≤4095:=by
   simp only [jZ.may,PtD.di,Bool.and_eq_true,decide_eq_true_eq] at hi
   exact hi.2
  obtain ⟨lv,hlv⟩:∃ lv:Nat,e.level=(lv:Int):=⟨e.level.toNat,by omega⟩
  obtain ⟨pg,zN⟩:∃ pg:Nat,i.page=(pg:Int):=⟨i.page.toNat,by omega⟩
  have h9:=jc (show lv - 1<4 by omega)
  have hc:=JL (lv - 1) be5 pg be5
  have e3:∀ l:Nat,l<4→1≤l→(1 <<< (3 * (4 - l)):Nat)=aB (l - 1):=by decide
  refine run ?_
  rw [hlv,zN]
  refine ja be8 (CJ rfl rfl 1 (3 * (4 - lv)) be8 be5 be5 (by rw [e3 lv be5 be5];exact Nat.lt_of_le_of_lt h9.2.1 be6)) ?_
  rw [e3 lv be5 be5]
  refine run ?_
  refine ja be8 (Fq rfl rfl) ?_
  rw [hc]
  refine run ?_
  refine fin1 ?_
  simp [jZ.at_,hk3,hlv,zN]
 ·refine run ?_
  refine fin1 ?_
  have hk3:decide (e.kind=3)=false:=by simpa using hk
  simp [jZ.at_,hk3]
theorem YV (i:jZ) (e:iU) (hi:i.may=true) (he:e.may=true) (w:World):Fn Tryz.prog 294 [.agg (rD i).toArray,.agg (kE e).toArray].toArray w [] (fun u _=>u=.bool (i.takes e)):=by
 refine enter Tryz.func294 ?_
 refine run ?_
 intro B C
 refine run ?_
 refine ah _ rfl (fun h1=>?_) (fun h1=>?_)
 ·refine run ?_
  refine fin1 ?_
  simp [jZ.takes,h1]
 refine run ?_
 refine ah _ rfl (fun hv=>?_) (fun hv=>?_)
 ·refine run ?_
  refine fin1 ?_
  simp [jZ.takes,h1,hv]
 have hv':decide (i.aO=e.aO)=true:=by simpa using hv
 have h1':decide (i.kind=1)=false:=by simpa using h1
 refine run ?_
 refine ah _ rfl (fun h2=>?_) (fun h2=>?_)
 ·refine run ?_
  refine fin1 ?_
  simp [jZ.takes,h1',hv',h2]
 have h2':decide (i.kind=2)=false:=by simpa using h2
 refine run ?_
 refine ah _ rfl (fun h3=>?_) (fun h3=>?_)
 ·refine run ?_
  refine ak (fun wc hG=>Hq e wc) ?_
  refine run ?_
  refine fin1 ?_
  simp [jZ.takes,h1',hv',h2',h3]
 have h3':decide (i.kind=3)=false:=by simpa using h3
 refine run ?_
 refine ah _ rfl (fun h4=>?_) (fun h4=>?_)
 ·refine run ?_
  refine ak (fun wc hG=>Hq e wc) ?_
  refine aI ?_
  refine fin1 ?_
  simp [jZ.takes,h1',hv',h2',h3',h4]
 have h4':decide (i.kind=4)=false:=by simpa using h4
 refine run ?_
 refine ah _ rfl (fun h5=>?_) (fun h5=>?_)
 ·refine run ?_
  refine ak (fun wc hG=>Hq e wc) ?_
  refine aI ?_
  refine dO (fun _ wc hG=>O4 i e hi he wc) ?_
  refine aI ?_
  refine fin1 ?_
  simp [jZ.takes,h1',hv',h2',h3',h4',h5]
 have h5':decide (i.kind=5)=false:=by simpa using h5
 refine aI ?_
 refine dO (fun _ wc hG=>O4 i e hi he wc) ?_
 refine aI ?_
 refine fin1 ?_
 simp [jZ.takes,h1',hv',h2',h3',h4',h5']
theorem Fv {w:World} (es:List iU) (ds:List jZ) (v u:Value) (h:aF w v 14 (es.map kE)) (hd:aF w u 4 (ds.map rD)) (hl:es.length<1000000) (hl2:ds.length<1000000):
  Fn Tryz.prog 118 [.agg #[v,u]].toArray w [] (fun r hn=>∃ v1 h1 v2 h2,r=.agg #[v1,v2]∧Own 51 14 v1 h1 (es.map kE)∧Own 194 4 v2 h2 (ds.map rD)∧aC (h1++h2) hn):=by
 refine enter Tryz.func118 ?_
 refine run ?_
 intro B
 refine run ?_
 intro C
 refine run ?_
 refine GI 8 7 [0,1,3,4] [2,5] [6,7] [⟨B,#[v,u],82⟩] ?_
 refine jT ?_
 refine jB (fun wc hG=>uF v (es.map kE) (h.good hG) rF (by simpa using hl)) (uF v (es.map kE) h rF (by simpa using hl)).some ?_
 refine jB (fun wc hG=>vM u (ds.map rD) (hd.good hG) zo (by simpa using hl2)) (vM u (ds.map rD) hd zo (by simpa using hl2)).some ?_
 refine jS ?_
 intro v2 hn2 hO2 v1 hn1 O5
 simp only [DN,List.cons_append,List.nil_append,List.append_nil]
 obtain ⟨p1,c1,rfl⟩:=O5.opened
 obtain ⟨p2,c2,rfl⟩:=hO2.opened
 rw [List.length_map] at O5 hO2 ⊢
 rw [List.length_map]
 refine GK ?_
 refine Qx (b:=C) (cs:=#[.slice none 0 0,.slice none 0 0]) (tb:=82) (hp':=hn2++hn1++[⟨B,#[v,u],82⟩]) (hperm:=(List.perm_middle (l₁:=hn2++hn1)).symm) ?_
 refine dw ?_
 refine lg ?_
 refine run ?_
 refine eF (cs:=#[.slice p1 es.length c1,.slice p2 ds.length c2]) ?_
 exact ⟨_,hn1,_,hn2,rfl,O5,hO2,by (exact aj)⟩
end
section
section
variable {P : Program} {T : Tab} {n : Nat} {w0 : World} {mu : List Nat} {l : Fm} {hp : Hp} {dd : Option Tmp} {ty : TypeId} {pos : String} {af : Array Edge} {gg : Option (Nat × Bool)} {Q : Exit → Fm → Hp → Prop} {all : Array Oper} {rest : List Oper}
theorem VF (ok:aZ P T) {t e sz b o m c:Nat} {cs:Array Value} {tb:TypeId} {x:Operand} {z:Value} {hp':Hp} (hx:ev l x=some (.slice (some ⟨b,o,none⟩) m c)) (ht:lk T.sl t=some (e,sz)) (hz:lk T.zs e=some z) (hzs:z.cells.size=sz) (hz1:z.cells.toList.all (·.oneCell')=true) (h0:0<sz) (hm:0<m)
  (hperm:(⟨b,cs,tb⟩::hp').Perm hp) (hfit:o + m * sz≤cs.size)
  (h:∀ zs:List Value,zs.length=m * sz→Ops P n w0 mu all rest l (⟨b,putAt cs o zs,tb⟩::hp') Q):Ops P n w0 mu all (⟨none,.call { callee:=.builtin .clear,args:=#[x],argTypes:=#[t] },ty,pos,af,none⟩::rest) l hp Q:=by
 intro ac w hk hG
 obtain ⟨hu,hsz⟩:=ok.wW ht
 have hG':=hG.perm hperm
 have hb:=hG'.here _ (List.mem_cons_self ..)
 obtain ⟨zs,hrep⟩:∃ zs,zs=(Builtin.zeroCells z.cells m).toList:=⟨_,rfl⟩
 have hlen:zs.length=m * sz:=by rw [hrep,Array.length_toList,size_zeroCells,hzs,Nat.mul_comm]
 have hall:∀ u∈zs,u.oneCell'=true:=fun u hu=>by
  rw [hrep] at hu
  simp only [Builtin.zeroCells,Array.mem_toList_iff,Array.mem_map,Array.mem_range] at hu
  obtain ⟨i,hi,rfl⟩:=hu
  have hlt:i % z.cells.size<z.cells.size:=Nat.mod_lt _ be5
  have h2:=(List.all_eq_true.1 hz1) (z.cells[i % z.cells.size]) be7
  simpa [hlt] using h2
 have hst:=run_storeCells_cells (P:=P) b o zs 0 w
  (fun j hj=>by rw [hlen] at hj;rw [cell_of_block hb];simp [show o + j<cs.size by omega])
  (fun j _=>eP hb) hall
 simp only [Nat.add_zero] at hst
 refine wpList_plain rfl fun K hK=>?_
 unfold Oper.wp execOp
 have hr:(Builtin.clear_ #[t] ty #[.slice (some ⟨b,o,none⟩) m c]).run P w=.ok (.tuple #[]) (w.setCells b o zs):=by
  obtain ⟨m',rfl⟩:∃ m',m=m' + 1:=⟨m - 1,by omega⟩
  simp [Builtin.clear_,run_underlying hu,mM (ok.IE hz) w,← hrep,hst]
 simp only [resolve,invoke,builtin,Sem.run_bind,Sem.run_pure,Result.andThen_ok,List.map_toArray,List.map_cons,List.map_nil,hk.ev hx,hr]
 exact hK _ _ (h zs hlen _ _ hk (Good.sets (w:=w) _ cs o w hG'))
end
theorem Row.YW {g cap n i sz:Nat} {cur:Array Value} {xs:List (List Value)} (h:Row g cap cur sz n xs.flatten) (hall:∀ c∈xs,c.length=sz) (hi:i≤n) (hn:xs.length=n) {zs:List Value} (hz:i * sz + zs.length≤cur.size):Row g cap (putAt cur (i * sz) zs) sz i (xs.take i).flatten:=by
 have hle:i * sz≤n * sz:=Nat.mul_le_mul_right _ hi
 refine ⟨by rw [dB (xs.take i) (fun c hc=>hall c (List.mem_of_mem_take hc)),List.length_take,Nat.min_eq_left be5],Nat.le_trans hi h.le,h.max,by rw [dP];exact h.size,?_⟩
 have hl:(cur.toList.take (i * sz)).length=i * sz:=by
  rw [List.length_take,Nat.min_eq_left];simp;omega
 rw [kG _ _ _ hz,List.append_assoc,List.take_left' hl]
 have h1:=congrArg (List.take (i * sz)) h.take
 rw [List.take_take,Nat.min_eq_left hle] at h1
 rw [h1]
 conv=>lhs;rw [← List.take_append_drop i xs]
 rw [List.flatten_append,List.take_left']
 rw [dB (xs.take i) (fun c hc=>hall c (List.mem_of_mem_take hc)),List.length_take,Nat.min_eq_left be5]
attribute [local irreducible] Hy St Ops DH dG je iI gJ DS gY
theorem Ep {w:World} {b:Nat} {cs:List Value} {t:TypeId} (h:w.heap[b]?=some (.cells cs.toArray t (0,0))):w.rangeAt b 0 cs:=by
 intro j u hu
 rw [cell_of_block h]
 simpa using hu
theorem Q8 (i:jZ) (e:iU) (hi:i.may=true) (he:e.may=true) (E:Nat) (w:World) (hE:w.rangeAt E 0 (kE e)):Fn Tryz.prog 293 ([]++[Value.agg (rD i).toArray]++[Value.pointer (some ⟨E,0,none⟩)]).toArray w [] (fun u _=>u=.bool (i.takes e)):=by
 refine enter Tryz.func293 ?_
 refine run ?_
 intro B
 refine ak (fun wc hG=>YV i e hi he wc) ?_
 refine run ?_
 exact fin1 rfl
theorem VG (ds:List jZ) (hds:∀ i∈ds,i.may=true) (e:iU) (he:e.may=true) (L:Nat) {w:World} {lv:Value} (hL:w.cell? ⟨L,0,none⟩=some lv) (hl:aF w lv 4 (ds.map rD)):Fn Tryz.prog 292 ([]++[Value.agg (kE e).toArray]++[Value.pointer (some ⟨L,0,none⟩)]).toArray w [] (fun u _=>u=.bool (ds.any fun i=>i.takes e)):=by
 obtain ⟨q,cap,rfl,_,_⟩:=hl.opened
 refine enter Tryz.func292 ?_
 refine run ?_
 intro E
 refine ak (fun wc hG=>pV (us:=[.pointer (some ⟨E,0,none⟩)]) (fun i=>i.takes e) ds _ (hl.good hG) (fun x hx w' ha=>Q8 x e (hds x hx) he E w' ?_)) ?_
 ·obtain ⟨hp,hg⟩:=ha
  intro j u hu
  refine hg.cell (Ep (cs:=kE e) (hG.here _ mh) j u hu) be7
 refine run ?_
 exact fin1 rfl
def zQ (p:iU→Bool) (es:List iU):List iU:=es.filter fun x=>!p x
theorem keep_next (p:iU→Bool) (es:List iU) {j:Nat} (hj:j<es.length):zQ p (es.take (j + 1))=zQ p (es.take j)++bif p (es.getD j default) then [] else [es.getD j default]:=by
 rw [iM hj]
 unfold zQ
 rw [List.filter_append]
 cases h:p (es.getD j default)<;>simp only [List.filter_cons,List.filter_nil,h,Bool.not_false,Bool.not_true,if_true,cond_true,cond_false,Bool.false_eq_true,if_false]
theorem YX {g cap n i:Nat} {cur:Array Value} {ys:List iU} (h:Row g cap cur 14 n (ys.map kE).flatten) (hi:i<ys.length) (e:iU):Row g cap (putAt cur (i * 14) (kE e)) 14 n ((ys.set i e).map kE).flatten:=by
 have hput:=h.put (fun c hc=>(rF c hc).1) (i:=i) (k:=0) (c:=kE (ys.getD i default)) (vs:=kE e) (by rw [List.getElem?_map,List.getElem?_eq_getElem hi,List.getD_eq_getElem?_getD,List.getElem?_eq_getElem hi];rfl) (Nat.le_refl 14)
 rw [show (kE (ys.getD i default)).take 0++kE e++(kE (ys.getD i default)).drop (0 + (kE e).length)=kE e from rfl,← List.map_set,Nat.add_zero] at hput
 exact hput
theorem Q9 (p:iU→Bool) (es:List iU) {k:Nat} (hk:k≤es.length) (h:∀ j,j<k→p (es.getD j default)=false):zQ p (es.take k)=es.take k:=by
 refine List.filter_eq_self.2 fun x hx=>?_
 obtain ⟨j,hj,rfl⟩:=List.mem_take_iff_getElem.1 hx
 have:=h j be5
 rw [List.getD_eq_getElem?_getD,List.getElem?_eq_getElem be5,Option.getD_some] at this
 simp [this]
structure DlS where
 i:Nat
 j:Nat
 cur:Array Value
 ys:List iU
theorem Na {w:World} {F:Nat} {us:List Value} (p:iU→Bool) (es:List iU) {v:Value} {ha:Hp} (hA:Own 51 14 v ha (es.map kE)) (hN:dD ha w) (hl:es.length<100000) (hF:∀ x,x∈es→∀ w',(∃ hp,Good w (ha.map (·.b)) hp w')→Fn Tryz.prog F ([]++[Value.agg (kE x).toArray]++us).toArray w' [] (fun u _=>u=.bool (p x))) (bH:mem iF F=true:=by rfl):
  Fn Tryz.prog 291 [v,.func (.func F) [].toArray us.toArray].toArray w (ha.map (·.b)) (fun u hn=>Own 51 14 u hn ((zQ p es).map kE)):=by
 have hA0:=hA
 obtain ⟨q,cap,ev⟩:=hA.opened
 rw [List.length_map] at ev
 subst ev
 refine bU _ hN Tryz.func291 ?_
 refine run ?_
 refine ak (fun wc hG=>Dz p es _ (hA.lie (fun b hb=>hG.here b (by simpa using hb)) be9) (fun x hx w' ha=>hF x hx w' ?_) bH) ?_
 ·obtain ⟨hp,hg⟩:=ha
  exact ⟨_,hG.trans hg⟩
 refine run ?_
 by_cases hex:∃ j,j<es.length∧p (es.getD j default)=true
 ·obtain ⟨j1,hj1,hp1⟩:=hex
  obtain ⟨k0,hk0,hp0,av7⟩:=E8 p es j1 hp1
  have hlt0:k0<es.length:=by omega
  rw [fB hlt0 hp0 av7]
  refine ah _ rfl (fun hc=>absurd hc be7) (fun hc=>?_)
  obtain ⟨g,cap',cur,ev,rfl,hrow⟩:=hA0.row (n:=es.length) be7 be5
  cases ev
  refine run ?_
  refine aX (σ:=DlS) (fun s=>[(5,.int .i64 (s.i:Int)),(6,.int .i64 (s.j:Int))]) (fun s=>[⟨g,s.cur,51⟩]) (fun s=>s.i<s.j∧s.j≤es.length∧s.ys.length=es.length∧s.ys.take s.i=zQ p (es.take s.j)∧(∀ t,s.j≤t→t<es.length→s.ys.getD t default=es.getD t default)∧Row g cap s.cur 14 es.length (s.ys.map kE).flatten) (fun s=>es.length - s.j) ⟨k0,k0 + 1,cur,es⟩ ⟨by dsimp only;omega,hlt0,rfl,?_,fun _ _ _=>rfl,hrow⟩ ?_
  ·dsimp only
   rw [keep_next p es hlt0,hp0,Q9 p es be5 av7];simp
  rintro ⟨i,j,cur,ys⟩ m hm ⟨hij,hj,hyl,hyt,hyd,hrow⟩
  dsimp only at hm hij hj hyl hyt hyd hrow ⊢
  have hO:Own 51 14 (.slice (some ⟨g,0,none⟩) es.length cap) [⟨g,cur,51⟩] (ys.map kE):=⟨rF,.inr ⟨g,cap,cur,by rw [List.length_map,hyl],rfl,by rw [List.length_map,hyl];exact hrow⟩⟩
  refine run ?_
  refine ah _ rfl (fun hc=>?_) (fun hc=>?_)
  ·have hlt:j<es.length:=by simp at hc;omega
   have hyj:=hyd j (Nat.le_refl _) hlt
   have hcut:(cur.toList.drop (j * 14)).take 14=kE (es.getD j default):=by
    rw [← hyj]
    exact hrow.cut (fun c hc=>(rF c hc).1) (by rw [List.getElem?_map,List.getElem?_eq_getElem be5,List.getD_eq_getElem?_getD,List.getElem?_eq_getElem be5];rfl)
   refine run ?_
   intro V
   refine jM (fun wc hG=>hF (es.getD j default) (getD_mem hlt) wc ⟨_,hG⟩) (bH:=bH) ?_
   refine run ?_
   refine ah _ rfl (fun hp=>?_) (fun hp=>?_)
   ·have hsz:=hrow.size
    have hle:=hrow.le
    refine run ?_
    have hpf:p (es.getD j default)=false:=by simpa using hp
    have hput:=YX hrow (i:=i) be5 (es.getD j default)
    generalize Ja:putAt cur (i * 14) (kE (es.getD j default))=cur' at hput
    simp only [putAt] at Ja
    refine aK ⟨i + 1,j + 1,cur',ys.set i (es.getD j default)⟩ ⟨by dsimp only;omega,hlt,by dsimp only;rw [List.length_set];exact hyl,?_,fun t h1 h2=>?_,hput⟩ (hm:=by dsimp only;omega) (h2:=by dsimp only;rw [Ja];(exact aj))
    ·dsimp only
     rw [keep_next p es hlt,hpf,← hyt]
     have hset:(ys.set i (es.getD j default)).take (i + 1)=ys.take i++[es.getD j default]:=by
      rw [List.set_eq_take_append_cons_drop,if_pos be5,List.take_append,List.length_take,Nat.min_eq_left be5,List.take_of_length_le bi6,show i + 1 - i=1 by omega]
      rfl
     rw [hset];rfl
    ·dsimp only at h1 h2 ⊢
     rw [List.getD_eq_getElem?_getD,List.getElem?_set_ne be5,← List.getD_eq_getElem?_getD]
     exact hyd t be5 h2
   ·refine run ?_
    have hpf:p (es.getD j default)=true:=by simpa using hp
    refine aK ⟨i,j + 1,cur,ys⟩ ⟨by dsimp only;omega,hlt,hyl,?_,fun t h1 h2=>hyd t (by dsimp only at h1;omega) h2,hrow⟩ (hm:=by dsimp only;omega) (h2:=by (exact aj))
    dsimp only
    rw [keep_next p es hlt,hpf,← hyt];simp
  ·have hge:j=es.length:=by simp at hc;omega
   subst hge
   refine run ?_
   have hle:=hrow.le
   have hsz:=hrow.size
   refine ja be8 (jX ay rfl rfl be8 be5 be5 be5 (o':=i * 14) (m':=es.length - i) (c':=cap - i) be5 be5 be5) ?_
   refine VF ay (hp':=[]) rfl be8 be8 be8 be8 be6 be5 (.refl _) (by rw [hsz,Nat.sub_mul];omega) (fun zs hzs=>?_)
   refine run ?_
   refine ja be8 (mW ay rfl rfl be8 be5 be5 (m':=i) be7 (.inr ⟨_,_,rfl⟩)) ?_
   refine run ?_
   refine fin1 ?_
   rw [List.take_length] at hyt
   rw [← hyt]
   refine ⟨rF,.inr ⟨g,cap,putAt cur (i * 14) zs,by rw [List.length_map,List.length_take,Nat.min_eq_left be5],rfl,?_⟩⟩
   rw [List.length_map,List.length_take,Nat.min_eq_left be5,List.map_take]
   exact hrow.YW (fun c hc=>(rF c hc).1) be5 (by rw [List.length_map];exact hyl) (by rw [hzs,hsz,Nat.sub_mul];omega)
 ·have hno:∀ j,j<es.length→p (es.getD j default)=false:=fun j hj=>by
   cases hp:p (es.getD j default) with
   | false=>rfl
   | true=>exact absurd ⟨j,hj,hp⟩ hex
  rw [dF hno]
  refine ah _ rfl (fun hc=>?_) (fun hc=>absurd hc be7)
  refine run ?_
  refine fin1 ?_
  have:zQ p es=es:=List.filter_eq_self.2 fun x hx=>by
   obtain ⟨j,hj,rfl⟩:=List.getElem_of_mem hx
   have:=hno j hj
   rw [List.getD_eq_getElem?_getD,List.getElem?_eq_getElem hj,Option.getD_some] at this
   simp [this]
  rw [this]
  exact hA0
end
def lF (es:List iU) (due:List jZ):List iU:=zQ (fun e=>due.any fun i=>i.takes e) es
def ApR (r:Option (List iU × List jZ)) (u:Value) (hn:Hp):Prop:=match r with
 | none=>u=.tuple #[.agg #[.slice none 0 0,.slice none 0 0],.int .i64 1]
 | some x=>∃ v1 h1 v2 h2,u=.tuple #[.agg #[v1,v2],.int .i64 0]∧Own 51 14 v1 h1 (x.1.map kE)∧Own 194 4 v2 h2 (x.2.map rD)∧aC (h1++h2) hn
def rG (es:List iU) (ds due:List jZ):Option (List iU × List jZ):=bif gq es ds && due.all jZ.may then some (lF es due,ds) else none
theorem oP {es:List iU} {ds:List jZ} (h:gq es ds=true):(∀ e∈es,e.may=true)∧es.length≤8∧ds.length≤8:=by
 simp only [gq,Bool.and_eq_true,decide_eq_true_eq] at h
 refine ⟨fun e he=>?_,h.1.2,h.2⟩
 obtain ⟨j,hj,rfl⟩:=List.getElem_of_mem he
 have:=List.all_eq_true.1 h.1.1.1 j (List.mem_range.2 hj)
 simp only [JA,Bool.and_eq_true] at this
 rw [List.getD_eq_getElem?_getD,List.getElem?_eq_getElem hj] at this
 exact this.1
theorem aF.keep {w0 wc w':World} {hp hp2 h1:Hp} {v:Value} {sz:Nat} {xs:List (List Value)} (h:aF w0 v sz xs) (hG:Good w0 [] (h1++hp) wc) (hg:Good wc (h1.map (·.b)) hp2 w'):aF w' v sz xs:=by
 obtain ⟨⟨p,c,rfl,hp⟩,hl⟩:=h
 refine ⟨⟨p,c,rfl,fun hne=>?_⟩,hl⟩
 obtain ⟨b,off,rfl,hr⟩:=hp hne
 refine ⟨b,off,rfl,fun i c hc=>?_⟩
 intro j u hj
 have h3:=hr i c hc j u hj
 refine hg.cell (hG.cell h3 be7) fun hm=>?_
 obtain ⟨e,he,hb⟩:=List.mem_map.1 hm
 have h4:b<w0.heap.size:=block_lt_of_cell h3
 rcases hG.own e (List.mem_append_left _ he) with h5 | h5
 ·simp at h5
 ·rw [hb] at h5;omega
theorem Nc {w0 w:World} {mu:List Nat} {h1 hp:Hp} {e:o8} (hG:Good w0 mu (h1++hp) w) (he:e∈hp):e.b ∉ h1.map (·.b):=by
 have hn:=hG.nodup
 rw [List.map_append,List.nodup_append] at hn
 exact fun hm=>hn.2.2 _ hm _ (List.mem_map.2 ⟨e,he,rfl⟩) rfl
section
attribute [local irreducible] Hy St Ops DH dG je iI gJ DS gY
theorem VH {w:World} (es:List iU) (ds due:List jZ) (v u lv:Value) (h:aF w v 14 (es.map kE)) (hd:aF w u 4 (ds.map rD)) (hcap:∃ q c,v=.slice q es.length c∧es.length≤c) (hl:aF w lv 4 (due.map rD)):
  Fn Tryz.prog 223 [.agg #[v,u],lv].toArray w [] (fun r hn=>ApR (rG es ds due) r hn):=by
 have h':=h
 have hd':=hd
 have hl':=hl
 obtain ⟨q,cap,rfl,_,_⟩:=h.opened
 obtain ⟨q2,cap2,rfl,_,_⟩:=hd.opened
 obtain ⟨q3,cap3,rfl,DC,_⟩:=hl.opened
 refine enter Tryz.func223 ?_
 refine run ?_
 intro B C R
 refine ak (fun wc hG=>yt es ds _ _ (h'.good hG) (hd'.good hG) hcap) ?_
 cases ht:gq es ds with
 | false=>
  refine az ?_
  have hg:rG es ds due=none:=by simp [rG,ht]
  rw [hg]
  refine jl (cs:=#[.slice none 0 0,.slice none 0 0]) ?_
  rfl
 | true=>
 obtain ⟨hmay,h8,h8d⟩:=oP ht
 refine az ?_
 refine dO (fun _ wc hG=>aj7 due (hl'.good hG)) ?_
 refine az ?_
 cases hm:due.all jZ.may with
 | false=>
  refine az ?_
  have hg:rG es ds due=none:=by simp [rG,ht,hm]
  rw [hg]
  refine jl (cs:=#[.slice none 0 0,.slice none 0 0]) ?_
  rfl
 | true=>
 have hg:rG es ds due=some (lF es due,ds):=by simp only [rG,ht,hm];rfl
 rw [hg]
 refine az ?_
 refine dJ (fun wc hG=>Fv es ds _ _ (h'.good hG) (hd'.good hG) be5 be5) ?_
 rintro _ hn ⟨v1,h1,v2,h2,rfl,O5,hO2,hle⟩
 obtain ⟨p1,c1,e1⟩:=O5.opened
 obtain ⟨p2,c2,e2⟩:=hO2.opened
 rw [List.length_map] at e1 e2
 subst e1 e2
 refine iw hle ?_
 refine fJ (_++(h1++h2)) List.perm_append_comm ?_
 simp only [List.cons_append,List.nil_append]
 refine az ?_
 intro X
 refine az ?_
 have aE9:∀ i∈due,i.may=true:=fun i hi=>List.all_eq_true.1 hm i hi
 refine gB (R:=fun u hn=>Own 51 14 u hn ((lF es due).map kE)) h1 (⟨X,#[.slice p1 es.length c1,.slice p2 ds.length c2],82⟩::⟨R,#[.slice none 0 0,.slice none 0 0],82⟩::⟨C,#[.slice q3 due.length cap3],80⟩::⟨B,#[.slice q es.length cap,.slice q2 ds.length cap2],82⟩::h2) (fun wc hG=>?_) (fun v4 h4 hO4=>?_) aJ
 ·refine Na (us:=[.pointer (some ⟨C,0,none⟩)]) (fun e=>due.any fun i=>i.takes e) es O5 hG.fV be5 (fun x hx w' ha=>?_)
  obtain ⟨hp,hg⟩:=ha
  have hC:(⟨C,#[.slice q3 due.length cap3],80⟩:o8)∈(⟨X,#[.slice p1 es.length c1,.slice p2 ds.length c2],82⟩::⟨R,#[.slice none 0 0,.slice none 0 0],82⟩::⟨C,#[.slice q3 due.length cap3],80⟩::⟨B,#[.slice q es.length cap,.slice q2 ds.length cap2],82⟩::h2:Hp):=by simp
  exact VG due aE9 x (hmay x hx) C (hg.cell (by rw [cell_of_block (hG.here _ (List.mem_append_right _ hC))];rfl) (Nc hG hC)) (hl'.keep hG hg)
 generalize lF es due=al at hO4
 obtain ⟨p4,c4,e4⟩:=hO4.opened
 rw [List.length_map] at e4
 subst e4
 refine fJ (_++h4) List.perm_append_comm ?_
 simp only [List.cons_append,List.nil_append]
 refine az ?_
 refine xk ay (b:=R) (off:=0) (cs:=#[.slice none 0 0,.slice none 0 0]) (cs':=#[.slice p4 al.length c4,.slice p2 ds.length c2]) (tb:=82) (vs:=[.slice p4 al.length c4,.slice p2 ds.length c2]) (sz:=2) rfl rfl rfl rfl rfl (List.Perm.swap ..) rfl (Nat.le_refl 2) rfl ?_
 refine az ?_
 refine jl (cs:=#[.slice p4 al.length c4,.slice p2 ds.length c2]) ?_
 exact ⟨_,h4,_,h2,rfl,hO4,hO2,by (exact aj)⟩
end
def rH (aO mid:Int):List jZ:=[⟨6,aO,0,mid⟩,⟨3,aO,0,0⟩]
structure FgS where
 k:Nat
 v:Value
 ha:Hp
 hs:Hp
 ts:List oU
section
attribute [local irreducible] Hy St Ops DH dG je iI gJ DS gY mP
def TlI (hs:Hp) (t:oU):Prop:=(∀ wc,Here hs wc→aF wc t.ev 14 (t.es.map kE)∧aF wc t.dv 4 (t.ds.map rD))∧t.es.length≤t.ec
def aE' (hs:Hp) (ts:List oU):Prop:=∀ t∈ts,TlI hs t
abbrev oU.p (t:oU):List iU × List jZ:=(t.es,t.ds)
theorem Own.lY {α:Type} [Inhabited α] {f:α→List Value} {e sz:Nat} {v:Value} {h:Hp} {xs:List α} (hA:Own e sz v h (xs.map f)) {k:Nat} (hk:k<xs.length):∃ g cap cur,v=.slice (some ⟨g,0,none⟩) xs.length cap∧h=[⟨g,cur,e⟩]∧k * sz + sz≤cur.size ∧
  (∀ (j:Nat) (c:Value),(f (xs.getD k default))[j]?=some c→nth cur.toList (k * sz + j)=some c) ∧
  ∀ (j:Nat) (vs:List Value) (y:α),j + vs.length≤sz→(f (xs.getD k default)).take j++vs++(f (xs.getD k default)).drop (j + vs.length)=f y→(f y).length=sz∧(f y).all (·.oneCell')=true→Own e sz (.slice (some ⟨g,0,none⟩) xs.length cap) [⟨g,putAt cur (k * sz + j) vs,e⟩] ((xs.set k y).map f):=by
 obtain ⟨g,cap,cur,rfl,rfl,hr⟩:=hA.row (n:=xs.length) be7 be5
 have hall:∀ c∈xs.map f,c.length=sz:=fun c hc=>(hA.1 c hc).1
 have hi:(xs.map f)[k]?=some (f (xs.getD k default)):=by
  rw [List.getElem?_map,List.getD_eq_getElem?_getD,List.getElem?_eq_getElem hk];rfl
 have hsz:=hr.size
 have hle:=hr.le
 refine ⟨g,cap,cur,rfl,rfl,?_,fun j c hj=>hr.nth hall hi hj,fun j vs y hj he hy=>⟨fun c hc=>?_,.inr ⟨g,cap,_,by simp,rfl,?_⟩⟩⟩
 ·have h1:k * sz + sz≤xs.length * sz:=by rw [← Nat.succ_mul];exact Nat.mul_le_mul_right _ hk
  have h2:xs.length * sz≤cap * sz:=Nat.mul_le_mul_right _ hle
  omega
 ·obtain ⟨x,hx,rfl⟩:=List.mem_map.1 hc
  rcases List.mem_or_eq_of_mem_set hx with hx | rfl
  ·exact hA.1 _ (List.mem_map.2 ⟨x,hx,rfl⟩)
  ·exact hy
 ·have h2:=hr.put hall hi (k:=j) (vs:=vs) hj
  rw [he] at h2
  have e2:((xs.set k y).map f).length=xs.length:=by simp
  rw [e2,List.map_set]
  exact h2
def Nh (t:oU) (he hd:Hp):Prop:=Own 51 14 t.ev he (t.es.map kE)∧Own 194 4 t.dv hd (t.ds.map rD)∧t.es.length≤8∧t.ds.length≤8
def sO:List oU→Hp→Prop
 | [],_=>True
 | t::ts,h=>∃ he hd hr,Nh t he hd∧sO ts hr∧aC (he++hd++hr) h
theorem yu {a b c:Hp} (h1:aC a b) (h2:aC b c):aC a c:=bu fun x=>Nat.le_trans (h1.cnt x) (h2.cnt x)
theorem sO.le:∀ {ts:List oU} {a b:Hp},sO ts a→aC a b→sO ts b
 | [],_,_,_,_=>trivial
 | t::ts,_,_,⟨he,hd,hr,h1,h2,h3⟩,h=>⟨he,hd,hr,h1,h2,yu h3 h⟩
theorem Nh.i {t:oU} {he hd h:Hp} (h1:Nh t he hd) (hh:∀ wc,Here h wc→Here he wc∧Here hd wc):TlI h t:=by
 obtain ⟨g1,g2,g3,g4⟩:=h1
 refine ⟨fun wc hw=>⟨g1.lie (hh wc hw).1 be9,g2.lie (hh wc hw).2 be9⟩,?_⟩
 obtain ⟨p,c,e,hle⟩:=g1.oq
 rw [List.length_map] at e hle
 cases e
 exact hle
theorem mF {a b:Hp} (h:aC a b) {wc:World} (hh:Here b wc):Here a wc:=fun e he=>hh e (h.mem he)
theorem sO.i:∀ {ts:List oU} {h:Hp},sO ts h→aE' h ts
 | [],_,_=>fun t ht=>absurd ht be7
 | t::ts,h,⟨he,hd,hr,h1,h2,h3⟩=>fun x hx=>by
  rcases List.mem_cons.1 hx with rfl | hx
  ·exact h1.i fun wc hw=>⟨fun e m=>mF h3 hw e (by simp [m]),fun e m=>mF h3 hw e (by simp [m])⟩
  ·have:=h2.i x hx
   exact ⟨fun wc hw=>this.1 wc (fun e m=>mF h3 hw e (by simp [m])),this.2⟩
theorem sO.set {y:oU} {he hd:Hp} (hy:Nh y he hd):∀ {ts:List oU} {h:Hp} (k:Nat),sO ts h→sO (ts.set k y) (he++hd++h)
 | [],_,_,_=>trivial
 | t::ts,h,0,⟨a,b,c,h1,h2,h3⟩=>⟨he,hd,c,hy,h2,bu fun x=>by have:=h3.cnt x;simp only [bV] at this ⊢;omega⟩
 | t::ts,h,k + 1,⟨a,b,c,h1,h2,h3⟩=>⟨a,b,he++hd++c,h1,sO.set hy k h2,bu fun x=>by have:=h3.cnt x;simp only [bV] at this ⊢;omega⟩
theorem sO.snoc {y:oU} {he hd:Hp} (hy:Nh y he hd):∀ {ts:List oU} {h:Hp},sO ts h→sO (ts++[y]) (he++hd++h)
 | [],h,_=>⟨he,hd,h,hy,trivial,aC.refl _⟩
 | t::ts,h,⟨a,b,c,h1,h2,h3⟩=>⟨a,b,he++hd++c,h1,sO.snoc hy h2,bu fun x=>by have:=h3.cnt x;simp only [bV] at this ⊢;omega⟩
theorem sO.upd {y:oU}:∀ {ts:List oU} {h:Hp} (k:Nat),sO ts h→(∀ he hd,Nh (ts.getD k default) he hd→∃ hd',Nh y he hd'∧aC hd' hd)→sO (ts.set k y) h
 | [],_,_,_,_=>trivial
 | t::ts,h,0,⟨a,b,c,h1,h2,h3⟩,hu=>by
  obtain ⟨b',h4,h5⟩:=hu a b h1
  exact ⟨a,b',c,h4,h2,bu fun x=>by have:=h3.cnt x;have:=h5.cnt x;simp only [bV] at this ⊢;simp only [bV] at *;omega⟩
 | t::ts,h,k + 1,⟨a,b,c,h1,h2,h3⟩,hu=>⟨a,b,c,h1,sO.upd k h2 hu,h3⟩
theorem O6 {α:Type} {a b:α}:∀ {l:List α} {k:Nat},nth l (k + 0)=some a→nth l (k + 1)=some b→List.take 2 (List.drop k l)=[a,b]
 | [],k,h,_=>by cases k<;>cases h
 | x::l,k + 1,h0,h1=>by
  rw [List.drop_succ_cons]
  exact O6 (l:=l) (k:=k) (by rwa [Nat.succ_add] at h0) (by rwa [Nat.succ_add] at h1)
 | [x],0,h0,h1=>by cases h1
 | x::y::l,0,h0,h1=>by cases h0;cases h1;rfl
end
section
attribute [local irreducible] Hy St Ops DH dG je iI gJ DS gY mP
def iT {α:Type} (O:α→Hp→Prop):List α→Hp→Prop
 | [],_=>True
 | t::ts,h=>∃ a b,O t a∧iT O ts b∧aC (a++b) h
section
variable {α : Type} {O : α → Hp → Prop}
theorem iT.le:∀ {ts:List α} {a b:Hp},iT O ts a→aC a b→iT O ts b
 | [],_,_,_,_=>trivial
 | t::ts,_,_,⟨c,d,h1,h2,h3⟩,h=>⟨c,d,h1,h2,yu h3 h⟩
theorem iT.out [Inhabited α]:∀ {ts:List α} {h:Hp} {k:Nat},iT O ts h→k<ts.length→∃ a b,O (ts.getD k default) a∧aC (a++b) h∧∀ y a',O y a'→iT O (ts.set k y) (a'++b)
 | t::ts,h,0,⟨a,b,h1,h2,h3⟩,_=>⟨a,b,h1,h3,fun y a' hy=>⟨a',b,hy,h2,aC.refl _⟩⟩
 | t::ts,h,k + 1,⟨a,b,h1,h2,h3⟩,hk=>by
  obtain ⟨a1,b1,g1,g2,g3⟩:=iT.out h2 (Nat.lt_of_succ_lt_succ hk)
  exact ⟨a1,a++b1,g1,bu fun x=>by have:=h3.cnt x;have:=g2.cnt x;simp only [bV] at *;omega,fun y a' hy=>⟨a,a'++b1,h1,g3 y a' hy,bu fun x=>by simp only [bV];omega⟩⟩
theorem iT.snoc {y:α} {a:Hp} (hy:O y a):∀ {ts:List α} {h:Hp},iT O ts h→iT O (ts++[y]) (a++h)
 | [],h,_=>⟨a,h,hy,trivial,aC.refl _⟩
 | t::ts,h,⟨c,d,h1,h2,h3⟩=>⟨c,a++d,h1,iT.snoc hy h2,bu fun x=>by have:=h3.cnt x;simp only [bV] at this ⊢;omega⟩
theorem iT.each {Q:α→Prop} {wc:World} (hq:∀ t a,O t a→Here a wc→Q t):∀ {ts:List α} {h:Hp},iT O ts h→Here h wc→∀ t∈ts,Q t
 | [],_,_,_=>fun t ht=>absurd ht be7
 | t::ts,h,⟨a,b,h1,h2,h3⟩,hw=>fun x hx=>by
  rcases List.mem_cons.1 hx with rfl | hx
  ·exact hq _ _ h1 fun e m=>mF h3 hw e (by simp [m])
  ·exact iT.each hq h2 (fun e m=>mF h3 hw e (by simp [m])) x hx
end
def Ad (t:oU) (h:Hp):Prop:=∃ h1 h2,Own 51 14 t.ev h1 (t.es.map kE)∧Own 194 4 t.dv h2 (t.ds.map rD)∧(t.es.length<100000∧t.ds.length<100000)∧aC (h1++h2) h
theorem Ad.lie {t:oU} {h:Hp} (hb:Ad t h) {w:World} (hw:Here h w):aF w t.ev 14 (t.es.map kE)∧aF w t.dv 4 (t.ds.map rD):=by
 obtain ⟨h1,h2,o1,o2,l,hle⟩:=hb
 exact ⟨o1.lie (fun e he=>mF hle hw e bf8) be9,o2.lie (fun e he=>mF hle hw e bf8) be9⟩
theorem Ad.cap {t:oU} {h:Hp} (hb:Ad t h):t.es.length≤t.ec:=by
 obtain ⟨h1,h2,o1,o2,l,hle⟩:=hb
 obtain ⟨p,c,e,hl⟩:=o1.oq
 rw [List.length_map] at e hl
 cases e
 exact hl
theorem iT.caps:∀ {ts:List oU} {h:Hp},iT Ad ts h→∀ t∈ts,t.es.length≤t.ec
 | [],_,_=>fun t ht=>absurd ht be7
 | t::ts,h,⟨a,b,h1,h2,h3⟩=>fun x hx=>by
  rcases List.mem_cons.1 hx with rfl | hx
  ·exact h1.cap
  ·exact iT.caps h2 x hx
def av9 (m:jH) (h:Hp):Prop:=∃ h1 h2 h3,Own 3 1 m.fv h1 (m.fs.map dA)∧Own 3 1 m.rv h2 (m.fr.map dA)∧Own 131 16 m.vv h3 (m.vs.map Fg)∧(m.fs.length<100000∧m.fr.length<100000∧m.vs.length<100000)∧aC (h1++(h2++h3)) h
structure HL where
 wv:Value
 cv:Value
 vv:Value
 rv:Value
 cs:List qB
 vs:List jH
 hw:Hp
 hc:Hp
 ht:Hp
 hv:Hp
 hz:Hp
 hr:Hp
def HL.rest (L:HL):Hp:=L.hw++(L.hc++(L.ht++(L.hv++(L.hz++L.hr))))
structure yw (L:HL) (H:HyD):Prop where
 Jt:lu H.ws
 w:Own 47 1 L.wv L.hw (H.ws.map uV)
 c:Own 84 19 L.cv L.hc (L.cs.map QT)
 t:iT Ad (L.cs.map (·.t)) L.ht
 v:Own 111 6 L.vv L.hv (L.vs.map zO)
 z:iT av9 L.vs L.hz
 r:Own 78 15 L.rv L.hr (H.rs.map nT)
 ec:L.cs.map qB.u=H.cs
 ev:L.vs.map jH.u=H.vs
theorem yw.hv {L:HL} {H:HyD} (h:yw L H) (hf:H.Fit) {w:World} (hh:Here L.rest w):MX w L.wv L.cv L.vv L.rv H:=by
 have KX:L.cs.length=H.cs.length:=by rw [← h.ec,List.length_map]
 have evl:L.vs.length=H.vs.length:=by rw [← h.ev,List.length_map]
 have hl:=hf.l
 have m:∀ hx:Hp,(∀ e∈hx,e∈L.rest)→Here hx w:=fun hx hm e he=>hh e (hm e he)
 have t1:=h.t.caps
 have t2:Here L.ht w→∀ c∈L.cs,aF w c.t.ev 14 (c.t.es.map kE)∧aF w c.t.dv 4 (c.t.ds.map rD):=fun hh c hc=>h.t.each (Q:=fun t=>aF w t.ev 14 (t.es.map kE)∧aF w t.dv 4 (t.ds.map rD)) (fun t a ha hw=>ha.lie hw) hh c.t (List.mem_map.2 ⟨c,hc,rfl⟩)
 obtain ⟨qw,cw,ew,lw⟩:=h.w.oq
 obtain ⟨qv,cv,ev,lv⟩:=h.v.oq
 rw [List.length_map] at ew lw ev lv
 refine ⟨hf,⟨qv,cv,by rw [ev,evl],by omega⟩,⟨qw,cw,ew,lw⟩,L.cs,L.vs,h.ec,h.ev,?_,?_⟩
 ·intro c hc
  exact t1 c.t (List.mem_map.2 ⟨c,hc,rfl⟩)
 ·refine ⟨h.Jt,h.w.lie (m _ bg0) be9,⟨h.c.lie (m _ bg0) be9,?_,?_⟩,⟨h.v.lie (m _ bg0) be9,?_,?_,?_⟩,h.r.lie (m _ bg0) be9⟩
  ·intro c hc
   exact (t2 (m _ bg0) c hc).1
  ·intro c hc
   exact (t2 (m _ bg0) c hc).2
  ·exact h.z.each (Q:=fun m=>aF w m.fv 1 (m.fs.map dA)) (fun t a ⟨h1,h2,h3,o1,o2,o3,l,hle⟩ ha=>o1.lie (fun e he=>mF hle ha e bf8) be9) (m _ bg0)
  ·exact h.z.each (Q:=fun m=>aF w m.rv 1 (m.fr.map dA)) (fun t a ⟨h1,h2,h3,o1,o2,o3,l,hle⟩ ha=>o2.lie (fun e he=>mF hle ha e bf8) be9) (m _ bg0)
  ·exact h.z.each (Q:=fun m=>aF w m.vv 16 (m.vs.map Fg)) (fun t a ⟨h1,h2,h3,o1,o2,o3,l,hle⟩ ha=>o3.lie (fun e he=>mF hle ha e bf8) be9) (m _ bg0)
theorem Rh {w:World} (ts:List oU) (aO mid:Int) (hv:PtD.di aO 0 15=true) (hm:PtD.di mid 0 4095=true) {lv:Value} (h:Vp w lv ts) (hcap:∀ t∈ts,t.es.length≤t.ec) (hok:∀ t∈ts,gq t.es t.ds=true) (hl:ts.length<100000):
  Fn Tryz.prog 214 [lv,.int .i64 aO,.int .i64 mid].toArray w [] (fun r hn=>∃ v ha hs ts',r=.tuple #[v,.int .i64 0]∧Own 82 2 v ha (ts'.map XA)∧iT Ad ts' hs∧ts'.map (fun t=>(t.es,t.ds))=ts.map (fun t=>(lF t.es (rH aO mid),t.ds))∧aC (ha++hs) hn):=by
 obtain ⟨q,cap,rfl,hne,_⟩:=h.rows.opened
 have hd1:(rH aO mid).all jZ.may=true:=by
  simp only [rH,List.all_cons,List.all_nil,jZ.may,hv,hm];rfl
 have hd2:gq [] (rH aO mid)=true:=by
  simp only [gq,hd1];rfl
 refine enter Tryz.func214 ?_
 refine run ?_
 intro D
 refine run ?_
 refine ak (fun wc hG=>yt [] (rH aO mid) (.slice none 0 0) (.slice (some ⟨D,0,none⟩) 2 2) ((Own.nil 51 14).lie (fun b hb=>by cases hb) be6) (gV (xs:=(rH aO mid).map rD) (hG.here ⟨D,#[.int .i64 6,.int .i64 aO,.int .i64 0,.int .i64 mid,.int .i64 3,.int .i64 aO,.int .i64 0,.int .i64 0],194⟩ mh) (fun c hc=>(zo c hc).1) (by simp [rH])) ⟨_,_,rfl,Nat.le_refl _⟩) ?_
 rw [hd2]
 refine az ?_
 refine aX (σ:=FgS) (fun s=>[(26,.int .i64 (s.k:Int)),(9,s.v)]) (fun s=>⟨D,#[.int .i64 6,.int .i64 aO,.int .i64 0,.int .i64 mid,.int .i64 3,.int .i64 aO,.int .i64 0,.int .i64 0],194⟩::(s.ha++s.hs)) (fun s=>s.k≤ts.length∧Acc 82 2 s.v s.ha (s.ts.map XA)∧iT Ad s.ts s.hs∧s.ts.map (fun t=>(t.es,t.ds))=(ts.take s.k).map (fun t=>(lF t.es (rH aO mid),t.ds))) (fun s=>ts.length - s.k) ⟨0,.slice none 0 0,[],[],[]⟩ ⟨Nat.zero_le _,Acc.nil _ _,trivial,rfl⟩ ?_
 rintro ⟨k,ov,ha,hs,ts'⟩ m hm ⟨hk,hA,hO,hE⟩
 dsimp only at hm hk hA hO hE ⊢
 have hA':=hA
 refine run ?_
 refine ah _ rfl (fun hc=>?_) (fun hc=>?_)
 ·have hlt:k<ts.length:=by simpa using hc
  obtain ⟨b,o,rfl⟩:=hne be'
  have hr:=h.rows.row hlt
  have hen:=h.en _ (getD_mem hlt)
  have hiv:=h.iv _ (getD_mem hlt)
  have hcp:=hcap _ (getD_mem hlt)
  have hkt:=hok _ (getD_mem hlt)
  have htn:=iM hlt
  generalize ts.getD k default=t at hr hen hiv hcp hkt htn
  refine run ?_
  intro T
  refine run ?_
  refine dJ (fun wc hG=>VH t.es t.ds (rH aO mid) _ _ _ (hen.good hG) (hiv.good hG) ⟨_,_,rfl,hcp⟩ (gV (xs:=(rH aO mid).map rD) (hG.here ⟨D,#[.int .i64 6,.int .i64 aO,.int .i64 0,.int .i64 mid,.int .i64 3,.int .i64 aO,.int .i64 0,.int .i64 0],194⟩ (List.mem_cons_of_mem _ mh)) (fun c hc=>(zo c hc).1) (by simp [rH]))) ?_
  have hg:rG t.es t.ds (rH aO mid)=some (lF t.es (rH aO mid),t.ds):=by simp only [rG,hkt,hd1];rfl
  rw [hg]
  rintro u hn ⟨v1,h1,v2,h2,rfl,O5,hO2,hle⟩
  dsimp only at O5 hO2
  have hlen:(lF t.es (rH aO mid)).length≤t.es.length:=List.length_filter_le ..
  generalize hal:lF t.es (rH aO mid)=al at O5 hlen
  obtain ⟨p1,c1,e1⟩:=O5.opened
  obtain ⟨p2,c2,e2⟩:=hO2.opened
  rw [List.length_map] at e1 e2
  subst e1 e2
  refine iw hle ?_
  refine fJ (_++(h1++h2)) List.perm_append_comm ?_
  simp only [List.cons_append,List.nil_append]
  refine az ?_
  intro X Z
  refine kX (c:=[.slice p1 al.length c1,.slice p2 t.ds.length c2]) hA (fun v' ha' hA2=>?_) (by have:=congrArg List.length hE;simp at this;simp;omega) (bQ (m:=2) mh rfl) (hp':=⟨Z,#[.slice p1 al.length c1,.slice p2 t.ds.length c2],82⟩::⟨X,#[.slice p1 al.length c1,.slice p2 t.ds.length c2],82⟩::⟨T,#[t.ev,t.dv],82⟩::⟨D,#[.int .i64 6,.int .i64 aO,.int .i64 0,.int .i64 mid,.int .i64 3,.int .i64 aO,.int .i64 0,.int .i64 0],194⟩::(hs++(h1++h2))) (hperm:=by (exact aJ))
  refine az ?_
  refine aK ⟨k + 1,v',ha',h1++h2++hs,ts'++[⟨al,t.ds,p1,c1,p2,c2⟩]⟩ ⟨hlt,?_,?_,?_⟩ (hm:=by dsimp only;omega) (h2:=by (exact aj))
  ·dsimp only
   rw [List.map_append]
   exact hA2
  ·exact hO.snoc (y:=⟨al,t.ds,p1,c1,p2,c2⟩) (a:=h1++h2) ⟨h1,h2,O5,hO2,⟨by have:=(oP hkt).2.1;dsimp only;omega,by have:=(oP hkt).2.2;dsimp only;omega⟩,aC.refl _⟩
  ·dsimp only
   rw [htn,List.map_append,List.map_append,hE]
   simp [hal]
 ·have hge:k=ts.length:=by simp at hc;omega
  subst hge
  rw [List.take_length] at hE
  refine az ?_
  refine fin2 ?_
  exact ⟨_,ha,hs,ts',rfl,hA.own,hO,hE,by (exact aj)⟩
end
section
attribute [local irreducible] Hy St Ops DH dG je iI gJ DS gY mP
structure BcS where
 k:Nat
 v:Value
 h:Hp
def aj9 (ws:List Nat) (root:Int) (mid:Nat) (d:DsD):Nat→List Nat
 | 0=>ws
 | 1=>(eG ws root mid 3 dN).ws
 | _=>(eG (eG ws root mid 3 dN).ws root mid 3 d).ws
theorem DD {ws:List Nat} (h:lu ws) (root:Int) (page level:Nat) (d:DsD):lu (eG ws root page level d).ws:=by
 unfold eG
 dsimp only
 cases (!(bz ws root page level).ok) with
 | true=>exact fun x hx=>absurd hx (by simp [badM])
 | false=>
  rw [cond_false]
  cases (!decide ((bz ws root page level).lv=level)) with
  | true=>exact fun x hx=>absurd hx (by simp [badM])
  | false=>exact h.kH _ _ _
theorem YY {ws:List Nat} {root:Int} {page:Nat} (hg:(kJ ws root page).e=0) (hl:(kJ ws root page).level=3) (d:DsD):eG ws root page 3 d=⟨kH ws ((bz ws root page 3).place page) 3 d,[],0⟩:=by
 unfold kJ at hg hl
 unfold eG
 dsimp only at hg hl ⊢
 cases h:(bz ws root page 3).ok with
 | false=>rw [h] at hg;cases hg
 | true=>
  rw [h] at hl
  rw [show (bz ws root page 3).lv=3 from hl]
  rfl
theorem Ri {w:World} (ts:List oU) (ws:List Nat) (hw:lu ws) (hmm:fK ws.length=true) (root aO:Int) (mid:Nat) (hv:PtD.di aO 0 15=true) (hmid:mid≤4095) (d:DsD) (hd:d.may 2 3=true) (hg:(kJ ws root mid).e=0) (hg3:(kJ ws root mid).level=3) {mv lv:Value} (hmv:aF w mv 1 (ws.map uV)) (h:Vp w lv ts) (hcap:∀ t∈ts,t.es.length≤t.ec) (hok:∀ t∈ts,gq t.es t.ds=true) (hl:ts.length<100000):
  Fn Tryz.prog 283 [.agg #[mv],lv,.int .i64 root,.int .i64 aO,.int .i64 (mid:Int),sU d].toArray w [] (fun u hn=>∃ v1 h1 v ha hs ts',u=.tuple #[.agg #[v1],v,.int .i64 0]∧Own 47 1 v1 h1 ((eG (eG ws root mid 3 dN).ws root mid 3 d).ws.map uV)∧Own 82 2 v ha (ts'.map XA)∧iT Ad ts' hs∧ts'.map oU.p=ts.map (fun t=>(lF t.es (rH aO mid),t.ds))∧aC (h1++(ha++hs)) hn):=by
 have hm':PtD.di (mid:Int) 0 4095=true:=by simp only [PtD.di,Bool.and_eq_true,decide_eq_true_eq];omega
 refine enter Tryz.func283 ?_
 refine run ?_
 intro Mb Db Xb
 refine run ?_
 refine dJ (fun wc hG=>Rh ts aO mid hv hm' (h.good hG) hcap hok hl) ?_
 rintro u hn ⟨v,ha,hs,ts',rfl,hO,hT,hE,hle⟩
 obtain ⟨tp,tc,et⟩:=hO.opened
 rw [List.length_map] at et
 subst et
 refine iw hle ?_
 refine aI ?_
 refine dO (fun _ wc hG=>xX 2 (.inr rfl) 3 be6 d wc) ?_
 rw [hd]
 refine az ?_
 refine ak (fun wc hG=>G7 ws hw (hmv.good hG) hmm root mid hmid) ?_
 rw [hg,hg3]
 refine az ?_
 intro Gb
 refine run ?_
 refine dJ (fun wc hG=>oz _ _ (hmv.good hG) (fun c hc=>by obtain ⟨x,_,rfl⟩:=List.mem_map.1 hc;exact ⟨rfl,rfl⟩) (by have:=dh hmm;rw [List.length_map];omega)) ?_
 intro v1 h1 O5
 obtain ⟨wp,Tj,e1⟩:=O5.opened
 rw [List.length_map] at e1
 subst e1
 refine aP (⟨Xb,#[.slice none 0 0],24⟩::⟨Db,#[.int .i64 d.kind,.int .i64 d.frame,.bool d.r,.bool d.w,.bool d.x,.bool d.af,.bool d.ng,.int .i64 d.soft,.int .i64 d.note],124⟩::(h1++(ha++hs))) aj ?_
 refine run ?_
 intro Z
 refine run ?_
 have e0:(eG ws root mid 3 dN)=⟨kH ws ((bz ws root mid 3).place mid) 3 dN,[],0⟩:=YY hg hg3 dN
 have hm1:fK (eG ws root mid 3 dN).ws.length=true:=by rw [e0];dsimp only;rw [jG];exact hmm
 refine aX (σ:=BcS) (fun s=>[(59,.int .i64 (s.k:Int))]) (fun s=>⟨Z,#[.int .i64 0,.int .i64 0,.bool false,.bool false,.bool false,.bool false,.bool false,.int .i64 0,.int .i64 0,.int .i64 d.kind,.int .i64 d.frame,.bool d.r,.bool d.w,.bool d.x,.bool d.af,.bool d.ng,.int .i64 d.soft,.int .i64 d.note],124⟩::⟨Xb,#[s.v],24⟩::(s.h++(ha++hs))) (fun s=>s.k≤2∧Own 47 1 s.v s.h ((aj9 ws root mid d s.k).map uV)) (fun s=>2 - s.k) ⟨0,.slice wp ws.length Tj,h1⟩ ⟨Nat.zero_le _,O5⟩ ?_
 rintro ⟨k,xv,hx⟩ m hm ⟨hk,hX⟩
 dsimp only at hm hk hX ⊢
 refine run ?_
 refine ah _ rfl (fun hc=>?_) (fun hc=>?_)
 ·obtain ⟨xp,xc,ex⟩:=hX.opened
  subst ex
  obtain rfl | rfl:k=0∨k=1:=by have:=of_decide_eq_true hc;omega
  ·refine run ?_
   intro Eb
   refine run ?_
   refine dJ (fun wc hG=>OU ws hw (hX.lie (fun b hb=>hG.here b bi7) (by rw [List.length_map];have:=dh hmm;show ws.length≤_;omega)) hmm root mid hmid 3 be6 dN rfl) ?_
   rintro u2 hn2 ⟨v2,h2,rfl,hO2,hle2⟩
   obtain ⟨p2,c2,e2⟩:=hO2.opened
   subst e2
   refine aP (⟨Z,#[.int .i64 0,.int .i64 0,.bool false,.bool false,.bool false,.bool false,.bool false,.int .i64 0,.int .i64 0,.int .i64 d.kind,.int .i64 d.frame,.bool d.r,.bool d.w,.bool d.x,.bool d.af,.bool d.ng,.int .i64 d.soft,.int .i64 d.note],124⟩::⟨Xb,#[.slice xp (List.map uV (aj9 ws root mid d 0)).length xc],24⟩::(h2++(ha++hs))) (cnt1 hle2) ?_
   refine run ?_
   exact aK ⟨1,_,h2⟩ ⟨Nat.le_succ 1,hO2⟩ (hm:=by dsimp only;omega)
  ·refine run ?_
   intro Eb
   refine run ?_
   refine dJ (fun wc hG=>OU (eG ws root mid 3 dN).ws (DD hw root mid 3 dN) (hX.lie (fun b hb=>hG.here b bi7) (by rw [List.length_map];have:=dh hm1;show (eG ws root mid 3 dN).ws.length≤_;omega)) hm1 root mid hmid 3 be6 d hd) ?_
   rintro u2 hn2 ⟨v2,h2,rfl,hO2,hle2⟩
   obtain ⟨p2,c2,e2⟩:=hO2.opened
   subst e2
   refine aP (⟨Z,#[.int .i64 0,.int .i64 0,.bool false,.bool false,.bool false,.bool false,.bool false,.int .i64 0,.int .i64 0,.int .i64 d.kind,.int .i64 d.frame,.bool d.r,.bool d.w,.bool d.x,.bool d.af,.bool d.ng,.int .i64 d.soft,.int .i64 d.note],124⟩::⟨Xb,#[.slice xp (List.map uV (aj9 ws root mid d 1)).length xc],24⟩::(h2++(ha++hs))) (cnt1 hle2) ?_
   refine run ?_
   exact aK ⟨2,_,h2⟩ ⟨Nat.le_refl 2,hO2⟩ (hm:=by dsimp only;omega)
 ·have hk2:k=2:=by have:=of_decide_eq_false hc;omega
  subst hk2
  obtain ⟨xp,xc,ex⟩:=hX.opened
  subst ex
  refine run ?_
  exact qo ⟨_,hx,_,ha,hs,ts',rfl,hX,hO,hT,hE,by (exact aj)⟩
def HL.hp (L:HL) (X:Nat) (tl:List Value) (ty:TypeId):Hp:=⟨X,(L.wv::L.cv::L.vv::L.rv::tl).toArray,ty⟩::L.rest
structure TbS where
 k:Nat
 v:Value
 h:Hp
theorem YZ {w:World} {X:Nat} {wv cv vv rv:Value} (cs:List qB) (hX:w.rangeAt X 0 [wv,cv,vv,rv]) (hC:aF w cv 19 (cs.map QT)) (hl:cs.length<100000):
  Fn Tryz.prog 215 [.pointer (some ⟨X,0,none⟩)].toArray w [] (fun u hn=>∃ ha,Own 82 2 u ha ((cs.map (·.t)).map XA)∧aC ha hn):=by
 have h1:w.cell? ⟨X,1,none⟩=some cv:=au (bg (k:=1) (n:=1) hX rfl)
 have hC':=hC
 obtain ⟨q,cap,rfl,hne,_⟩:=hC.opened
 refine enter Tryz.func215 ?_
 refine run ?_
 refine aX (σ:=TbS) (fun s=>[(12,.int .i64 (s.k:Int)),(3,s.v)]) (fun s=>s.h) (fun s=>s.k≤cs.length∧Acc 82 2 s.v s.h (((cs.take s.k).map (·.t)).map XA)) (fun s=>cs.length - s.k) ⟨0,.slice none 0 0,[]⟩ ⟨Nat.zero_le _,Acc.nil _ _⟩ ?_
 rintro ⟨k,ov,ha⟩ m hm ⟨hk,hA⟩
 dsimp only at hm hk hA ⊢
 refine run ?_
 refine ah _ rfl (fun hc=>?_) (fun hc=>?_)
 ·have hlt:k<cs.length:=by simpa using hc
  obtain ⟨b,o,rfl⟩:=hne be'
  have hr:=hC.row hlt
  have htn:=iM hlt
  generalize cs.getD k default=c at hr htn
  refine run ?_
  intro Cb
  refine run ?_
  intro Z
  refine aP (⟨Z,#[c.t.ev,c.t.dv],82⟩::ha) aj ?_
  refine kX (c:=[c.t.ev,c.t.dv]) hA (fun v' ha' hA2=>?_) bf2 (bQ (m:=2) mh rfl) (hp':=[⟨Z,#[c.t.ev,c.t.dv],82⟩]) (hperm:=by (exact aJ))
  refine run ?_
  refine aK ⟨k + 1,v',ha'⟩ ⟨hlt,?_⟩ (hm:=by dsimp only;omega) (h2:=by (exact aj))
  dsimp only
  rw [htn,List.map_append,List.map_append]
  exact hA2
 ·have hge:k=cs.length:=by simp at hc;omega
  subst hge
  rw [List.take_length] at hA
  refine run ?_
  exact fin1 ⟨ha,hA.own,aC.refl _⟩
def Rj (cs:List qB) (ts:List oU):Nat→List qB
 | 0=>cs
 | k + 1=>(Rj cs ts k).set k { (Rj cs ts k).getD k default with t:=ts.getD k default }
theorem Bj (cs:List qB) (ts:List oU) (k:Nat):(Rj cs ts k).length=cs.length:=by
 induction k with
 | zero=>rfl
 | succ k ih=>rw [Rj,List.length_set,ih]
theorem JM {w:World} {X g cap:Nat} {cur:Array Value} {wv vv rv lv:Value} (cs:List qB) (ts:List oU) (hlen:ts.length=cs.length) (hl:cs.length<100000) (hX:w.rangeAt X 0 [wv,.slice (some ⟨g,0,none⟩) cs.length cap,vv,rv]) (hXg:X ≠ g) (hO:Own 84 19 (.slice (some ⟨g,0,none⟩) cs.length cap) [⟨g,cur,84⟩] (cs.map QT)) (hL:aF w lv 2 (ts.map XA)) (hlo:∀ b o n k,lv=.slice (some ⟨b,o,none⟩) n k→b ≠ g) (hN:dD [⟨g,cur,84⟩] w):
  Fn Tryz.prog 216 [.pointer (some ⟨X,0,none⟩),lv].toArray w [g] (fun u hn=>u=.tuple #[]∧∃ cur',Own 84 19 (.slice (some ⟨g,0,none⟩) cs.length cap) [⟨g,cur',84⟩] ((Rj cs ts cs.length).map QT)∧aC [⟨g,cur',84⟩] hn):=by
 have h1:w.cell? ⟨X,1,none⟩=some (.slice (some ⟨g,0,none⟩) cs.length cap):=au (bg (k:=1) (n:=1) hX rfl)
 have hXm:X ∉ [g]:=by simp [hXg]
 obtain ⟨q,lc,rfl,hne,_⟩:=hL.opened
 refine bU [⟨g,cur,84⟩] hN Tryz.func216 ?_
 refine run ?_
 refine aX (σ:=Nat × Array Value) (fun s=>[(11,.int .i64 (s.1:Int))]) (fun s=>[⟨g,s.2,84⟩]) (fun s=>s.1≤cs.length∧Own 84 19 (.slice (some ⟨g,0,none⟩) cs.length cap) [⟨g,s.2,84⟩] ((Rj cs ts s.1).map QT)) (fun s=>cs.length - s.1) (0,cur) ⟨Nat.zero_le _,hO⟩ ?_
 rintro ⟨k,cu⟩ m hm ⟨hk,hU⟩
 dsimp only at hm hk hU ⊢
 refine run ?_
 refine ah _ rfl (fun hc=>?_) (fun hc=>?_)
 ·have hlt:k<cs.length:=by simpa using hc
  obtain ⟨b,o,rfl⟩:=hne (by intro e;subst e;simp at hlen;omega)
  have hb:=hlo _ _ _ _ rfl
  have hbm:b ∉ [g]:=by simp [hb]
  have hr:=hL.row (show k<ts.length by omega)
  obtain ⟨g',cap',cur',e1,e2,hsz,sJ,hput⟩:=hU.lY (k:=k) (by rw [Bj];exact hlt)
  rw [Bj] at e1
  simp only [Bj] at hput
  cases e1
  cases e2
  refine run ?_
  refine zn 13 12 [0,1,2,3,4,5,6,7,8,9,10,11] [(12,false)] [] ?_
  refine jT ?_
  have hnew:=hput 17 [(ts.getD k default).ev,(ts.getD k default).dv] { (Rj cs ts k).getD k default with t:=ts.getD k default } be7 rfl ⟨rfl,rfl⟩
  refine xC ?_
  refine rq (v:=.agg #[(ts.getD k default).ev,(ts.getD k default).dv]) ay (b:=g) (cs:=cu) (cs':=putAt cu (k * 19 + 17) [(ts.getD k default).ev,(ts.getD k default).dv]) (tb:=84) (off:=k * 19 + 17) (vs:=[(ts.getD k default).ev,(ts.getD k default).dv]) (hp':=[]) rfl rfl rfl rfl rfl rfl aJ rfl (by show k * 19 + 17 + 2≤_;omega) rfl aj ?_
  refine dw ?_
  refine QZ ?_
  refine lg ?_
  refine run ?_
  exact aK (k + 1,putAt cu (k * 19 + 17) [(ts.getD k default).ev,(ts.getD k default).dv]) ⟨hlt,hnew⟩ (hm:=by dsimp only;omega)
 ·have hge:k=cs.length:=by simp at hc;omega
  subst hge
  refine run ?_
  exact fin0 ⟨rfl,cu,hU,aC.refl _⟩
end
section
attribute [local irreducible] Hy St Ops DH dG
def Aft (w w':World):Prop:=∃ hp,Good w [] hp w'
section
variable {w : World} {bp : Nat} {L : Iw} {P : PtD}
theorem rJ (h:qh w bp L P) (i:Nat) (hi:i<P.aA.length) (n:Int) (hn:n=(i:Int) + 1):Fn Tryz.prog 157 [.pointer (some ⟨bp,0,none⟩),.int .i64 n].toArray w [] (fun u _=>u=.pointer (some ⟨L.gb,L.go + i * 5,none⟩)):=by
 have hg:=h.cg
 have h4:=h.n.g4
 refine enter Tryz.func157 ?_
 refine aI ?_
 refine fin1 ?_
 rw [show (n - 1).toNat=i by omega]
theorem aj' (h:qh w bp L P) (f:Nat) (hf:f<P.pages.length) (who:Int):Fn Tryz.prog 315 [.pointer (some ⟨bp,0,none⟩),.int .i64 who,.int .i64 f].toArray w [] (fun u _=>u=.bool (P.uses who f)):=by
 have hp:=h.cp
 have h0:=h.v.pg0 hf
 have h1:=h.v.pg1 hf
 refine enter Tryz.func315 ?_
 refine aI ?_
 exact fin1 rfl
end
end
section
attribute [local irreducible] Hy St Ops DH dG
theorem JO {w:World} {F:Nat} {us:List Value} (p:sF→Bool) (xs:List sF) (v:Value) (h:aF w v 2 (xs.map qI)) (hF:∀ x,∀ w',Aft w w'→Fn Tryz.prog F ([]++[Value.agg #[.int .i64 x.own,.int .i64 x.wit]]++us).toArray w' [] (fun u _=>u=.bool (p x))) (bH:mem iF F=true:=by rfl):
  Fn Tryz.prog 328 [v,.func (.func F) [].toArray us.toArray].toArray w [] (fun u _=>u=.int .i64 (jb p xs)):=by
 obtain ⟨q,cap,rfl,hne,hle⟩:=h.opened
 refine enter Tryz.func328 ?_
 refine run ?_
 refine aX (σ:=Nat) (fun k=>[(8,.int .i64 (k:Int))]) (fun _=>[]) (fun k=>k≤xs.length∧∀ j,j<k→p (xs.getD j default)=false) (fun k=>xs.length - k) 0 ⟨Nat.zero_le _,fun j hj=>absurd hj be5⟩ ?_
 rintro k m rfl ⟨hk,hno⟩
 refine run ?_
 refine ah _ rfl (fun hc=>?_) (fun hc=>?_)
 ·have hlt:k<xs.length:=by simpa using hc
  obtain ⟨b,o,rfl⟩:=hne be'
  have hr:=h.row hlt
  simp only [qI] at hr
  refine run ?_
  refine jM (fun wc hG=>hF (xs.getD k default) wc ⟨_,hG⟩) (bH:=bH) ?_
  refine run ?_
  refine ah _ rfl (fun hp=>?_) (fun hp=>?_)
  ·refine run ?_
   refine fin1 ?_
   rw [fB hlt hp hno]
  ·refine run ?_
   refine aK (k + 1) ⟨hlt,fun j hj=>?_⟩
   rcases Nat.lt_succ_iff_lt_or_eq.1 hj with hj | rfl
   ·exact hno j hj
   ·exact hp
 ·have hge:k=xs.length:=by simp at hc;omega
  subst hge
  refine run ?_
  refine fin1 ?_
  rw [dF hno]
theorem oW {w:World} {F:Nat} {us:List Value} (p:sF→Bool) (xs:List sF) (v:Value) (h:aF w v 2 (xs.map qI)) (hF:∀ x,∀ w',Aft w w'→Fn Tryz.prog F ([]++[Value.agg #[.int .i64 x.own,.int .i64 x.wit]]++us).toArray w' [] (fun u _=>u=.bool (p x))) (bH:mem iF F=true:=by rfl):
  Fn Tryz.prog 276 [v,.func (.func F) [].toArray us.toArray].toArray w [] (fun u _=>u=.bool (xs.any p)):=by
 refine enter Tryz.func276 ?_
 refine run ?_
 refine ak (fun wc hG=>JO p xs v (h.good hG) (fun x w' ha=>hF x w' ?_) bH) ?_
 ·obtain ⟨hp,hg⟩:=ha
  exact ⟨_,hG.trans hg⟩
 refine run ?_
 refine fin1 ?_
 rw [← iY]
theorem JP {w:World} (a:Int) (xs:List Int) (v:Value) (h:aF w v 1 (xs.map dA)):
  Fn Tryz.prog 171 [v,.int .i64 a].toArray w [] (fun u _=>u=.int .i64 (jb (fun t=>decide (t=a)) xs)):=by
 obtain ⟨q,cap,rfl,hne,hle⟩:=h.opened
 refine enter Tryz.func171 ?_
 refine run ?_
 refine aX (σ:=Nat) (fun k=>[(8,.int .i64 (k:Int))]) (fun _=>[]) (fun k=>k≤xs.length∧∀ j,j<k→decide (xs.getD j default=a)=false) (fun k=>xs.length - k) 0 ⟨Nat.zero_le _,fun j hj=>absurd hj be5⟩ ?_
 rintro k m rfl ⟨hk,hno⟩
 refine run ?_
 refine ah _ rfl (fun hc=>?_) (fun hc=>?_)
 ·have hlt:k<xs.length:=by simpa using hc
  obtain ⟨b,o,rfl⟩:=hne be'
  have hr:=au (h.row hlt)
  have hr1:=hr
  simp only [Nat.mul_one] at hr1
  refine run ?_
  refine ah _ rfl (fun hp=>?_) (fun hp=>?_)
  ·refine run ?_
   refine fin1 ?_
   rw [fB hlt (by simpa [eq_comm] using hp) hno]
  ·refine run ?_
   refine aK (k + 1) ⟨hlt,fun j hj=>?_⟩
   rcases Nat.lt_succ_iff_lt_or_eq.1 hj with hj | rfl
   ·exact hno j hj
   ·simpa [eq_comm] using hp
 ·have hge:k=xs.length:=by simp at hc;omega
  subst hge
  refine run ?_
  refine fin1 ?_
  rw [dF hno]
theorem uG {w:World} (a:Int) (xs:List Int) (v:Value) (h:aF w v 1 (xs.map dA)):
  Fn Tryz.prog 85 [v,.int .i64 a].toArray w [] (fun u _=>u=.bool (xs.any fun t=>decide (t=a))):=by
 refine enter Tryz.func85 ?_
 refine run ?_
 refine ak (fun wc hG=>JP a xs v (h.good hG)) ?_
 refine run ?_
 refine fin1 ?_
 rw [← iY]
end
section
attribute [local irreducible] Hy St Ops DH dG
section
variable {w : World} {bp : Nat} {L : Iw} {P : PtD}
theorem Y0 (x:sF) (who:Int) (B:Nat) (w:World) (hB:w.cell? ⟨B,0,none⟩=some (.int .i64 who)):Fn Tryz.prog 314 [.agg #[.int .i64 x.own,.int .i64 x.wit],.pointer (some ⟨B,0,none⟩)].toArray w [] (fun u _=>u=.bool (decide (x.own=who))):=by
 refine enter Tryz.func314 ?_
 refine run ?_
 intro b
 exact fin1 rfl
theorem jm.VI (h:jm w L P) (hp:0<P.pages.length) (hle:P.pages.length≤281474976710656):aF w (L.pv P.pages.length) 2 (P.pages.map qI):=by
 refine ⟨⟨_,L.pc,by rw [List.length_map],fun _=>⟨L.pb,L.po,rfl,fun i c hc=>?_⟩⟩,by rw [List.length_map];exact hle⟩
 rw [List.getElem?_map] at hc
 cases hx:P.pages[i]? with
 | none=>rw [hx] at hc;cases hc
 | some x=>
  rw [hx] at hc
  simp only [Option.map_some,Option.some.injEq] at hc
  have hi:i<P.pages.length:=(List.getElem?_eq_some_iff.1 hx).1
  have:=h.pg i hi
  rw [show P.pg i=x by unfold PtD.pg;rw [List.getD_eq_getElem?_getD,hx];rfl] at this
  rw [← hc];exact this
theorem Nj (h:qh w bp L P) (who:Int):Fn Tryz.prog 244 [.pointer (some ⟨bp,0,none⟩),.int .i64 who].toArray w [] (fun u _=>u=.bool (P.owns who)):=by
 have hp:=h.cp
 have h0:=h.n.p0
 have h1:=h.n.p1
 refine enter Tryz.func244 ?_
 refine run ?_
 intro B
 refine ak (fun wc hG=>oW (us:=[.pointer (some ⟨B,0,none⟩)]) (fun x=>decide (x.own=who)) P.pages _ ((h.v.good hG).VI be5 be5) (fun x w' ha=>Y0 x who B w' ?_)) ?_
 ·obtain ⟨hp,hg⟩:=ha
  exact hg.cell bi8 be7
 refine run ?_
 exact fin1 rfl
theorem Bl (h:qh w bp L P) (n:Int):Fn Tryz.prog 247 [.pointer (some ⟨bp,0,none⟩),.int .i64 n].toArray w [] (fun u _=>u=.bool (P.lives n)):=by
 have h4:=h.n.g4
 refine enter Tryz.func247 ?_
 refine run ?_
 refine ak (fun wc hG=>fG _ _ _ wc) ?_
 cases hb:PtD.di n 1 4
 ·refine aI ?_
  refine fin1 ?_
  simp [PtD.lives,hb]
 ·have hb':=hb
  simp only [PtD.di,Bool.and_eq_true,decide_eq_true_eq] at hb'
  have hg0:=h.v.gs0 (i:=(n - 1).toNat) be5
  refine aI ?_
  refine dO (fun hg wc hG=>rJ (h.good hG) (n - 1).toNat be5 n be5) ?_
  refine aI ?_
  refine fin1 ?_
  simp [PtD.lives,hb]
theorem DF (b o:Nat) (f:Int) (hf:-9223372036854775000≤f) (hf':f≤9223372036854775000) (w:World) (hc:w.cell? ⟨b,o + 2,none⟩=some (.int .i64 f)):Fn Tryz.prog 158 [.pointer (some ⟨b,o,none⟩)].toArray w [] (fun u hp=>Acc 3 1 u hp ([f,f + 1,f + 2,f + 3,f + 4].map dA)):=by
 refine enter Tryz.func158 ?_
 refine run ?_
 refine aX (σ:=Nat × Value × Hp) (fun s=>[(3,s.2.1),(5,.int .i64 (s.1:Int))]) (fun s=>s.2.2) (fun s=>s.1≤5∧Acc 3 1 s.2.1 s.2.2 ((List.range s.1).map fun (i:Nat)=>dA (f + (i:Int)))) (fun s=>5 - s.1) (0,_,[]) ⟨by omega,Acc.nil _ _⟩ ?_
 rintro ⟨k,v,ha⟩ m hm ⟨hk,hA⟩
 dsimp only at hm hk hA ⊢
 refine run ?_
 refine ah _ rfl (fun hc=>?_) (fun hc=>?_)
 ·have hlt:k<5:=by simp at hc;omega
  refine run ?_
  intro T
  refine kX (c:=dA (f + (k:Int))) hA (fun v' ha' hA'=>?_) bf2 (bQ (m:=1) mh rfl)
  refine run ?_
  refine aK (k + 1,v',ha') ⟨by omega,?_⟩
  rw [List.range_succ,List.map_append]
  exact hA'
 ·have:k=5:=by simp at hc;omega
  subst this
  refine run ?_
  refine fin1 ?_
  simpa [List.range_succ] using hA
theorem Y4 (h:qh w bp L P) (f:Nat) (hf:f<P.pages.length) (ts:List Int) (tv:Value) (ht:aF w tv 1 (ts.map dA)):Fn Tryz.prog 159 [.pointer (some ⟨bp,0,none⟩),.int .i64 f,tv].toArray w [] (fun u _=>u=.bool (P.nS ts f)):=by
 have hp:=h.cp
 have hr:=h.v.pg f hf
 have hcast:decide (f<16)=decide ((f:Int)<16):=by rw [decide_eq_decide];omega
 refine enter Tryz.func159 ?_
 refine aI ?_
 intro b1
 refine ah _ rfl (fun hc=>?_) (fun hc=>?_)
 ·refine run ?_
  refine dL 12 ?_
  refine bP ?_
  refine dM (fun wc hG=>MF wc) ?_
  refine bP ?_
  refine OE (fun h0 h1 wc hG=>uG (f:Int) ts tv (ht.good hG)) ?_
  refine bP ?_
  refine aI ?_
  refine fin1 ?_
  simp [PtD.nS,hcast,hc,aW,kF]
 ·refine run ?_
  refine ah _ rfl (fun hc2=>?_) (fun hc2=>?_)
  ·refine aI ?_
   refine dO (fun h1 wc hG=>Bl (h.good hG) (P.pg f).wit) ?_
   refine aI ?_
   refine fin1 ?_
   simp only [decide_eq_true_eq] at hc2
   rw [PtD.nS,hcast,hc]
   simp [hc2]
  ·simp only [decide_eq_false_iff_not] at hc2
   refine aI ?_
   refine ak (fun wc hG=>fG _ _ _ wc) ?_
   refine aI ?_
   refine ah _ rfl (fun hc3=>?_) (fun hc3=>?_)
   ·refine aI ?_
    refine OD (fun h0 h1 wc hG=>Bl (h.good hG) (P.pg f).own) ?_
    refine aI ?_
    refine fin1 ?_
    simp [PtD.nS,hcast,hc,hc2,hc3]
   ·refine aI ?_
    refine fin1 ?_
    simp [PtD.nS,hcast,hc,hc2,hc3]
theorem VJ (h:qh w bp L P) (c:Nat) (hc:c<P.on.length):Fn Tryz.prog 160 [.pointer (some ⟨bp,0,none⟩),.int .i64 c].toArray w [] (fun u _=>u=.bool (P.seated c)):=by
 have hp:=h.co
 have hr:=h.v.st c hc
 refine enter Tryz.func160 ?_
 refine aI ?_
 intro b1
 refine ah _ rfl (fun hc0=>?_) (fun hc0=>?_)
 ·refine run ?_
  refine fin1 ?_
  rw [PtD.seated,hc0];rfl
 refine run ?_
 refine dL 33 ?_
 refine bP ?_
 refine dM (fun wc hG=>Bl (h.good hG) _) ?_
 cases hl:P.lives (P.st c).vm
 ·refine bP ?_
  refine aI ?_
  refine fin1 ?_
  simp [PtD.seated,hc0,hl]
 have hl':=hl
 simp only [PtD.lives,PtD.di,Bool.and_eq_true,decide_eq_true_eq] at hl'
 obtain ⟨i,hi⟩:∃ i,i=((P.st c).vm - 1).toNat:=⟨_,rfl⟩
 have hi4:i<P.aA.length:=by have:=h.n.g4;omega
 have hvm:(P.st c).vm=(i:Int) + 1:=by omega
 obtain ⟨q,cap,hvv,hne,hle⟩:=(h.v.vc i hi4).opened
 have hg3:=h.v.gs3 hi4
 rw [hvv] at hg3
 refine bP ?_
 refine ig (fun h1 wc hG=>rJ (h.good hG) i hi4 _ hvm) ?_
 refine bP ?_
 refine ig (fun h1 wc hG=>fG _ _ _ wc) ?_
 cases hb:PtD.di (P.st c).cpu 0 ((P.gs i).aN.length - 1)
 ·refine bP ?_
  refine aI ?_
  refine fin1 ?_
  simp [PtD.seated,hc0,hl,← hi,hb]
 have hb':=hb
 simp only [PtD.di,Bool.and_eq_true,decide_eq_true_eq] at hb'
 obtain ⟨b,o,rfl⟩:=hne (by intro e;rw [e] at hb';simp at hb';omega)
 have hv:=h.v.vc i hi4
 rw [hvv] at hv
 have hx:=au (hv.row (k:=(P.st c).cpu.toNat) be5)
 rw [Nat.mul_one] at hx
 refine bP ?_
 refine ig (fun h1 wc hG=>rJ (h.good hG) i hi4 _ hvm) ?_
 refine bP ?_
 refine aI ?_
 refine fin1 ?_
 simp [PtD.seated,hc0,hl,← hi,hb]
theorem VK {α:Type} (f:α→Value) (x:α) (n:Nat):madeCells #[f x] (n * 1)=((List.replicate n x).map f).toArray:=by
 apply Array.ext
 ·simp [madeCells]
 ·intro i h1 h2
  simp [madeCells,Nat.mod_one]
theorem VL {w:World} {l:List jv} {b o cap:Nat} (h:aF w (.slice (some ⟨b,o,none⟩) l.length cap) 2 (l.map dS)) {k:Nat} (hk:k<l.length) (h0:0<k):w.cell? ⟨b,o + ((k:Int) - 1).toNat * 2,none⟩=some (.int .i64 (l.getD (k - 1) default).mid):=by
 rw [show ((k:Int) - 1).toNat=k - 1 by omega]
 exact au (h.row (k:=k - 1) be5)
theorem VM (h:qh w bp L P) (i:Nat) (hi:i<P.aA.length) (n:Int) (hn:n=(i:Int) + 1):Fn Tryz.prog 245 [.pointer (some ⟨bp,0,none⟩),.int .i64 n].toArray w [] (fun u _=>u=.bool (P.mapped i)):=by
 have hp:=h.cp
 have hp1:=h.n.p1
 obtain ⟨q,cap,hmv,hne,hle⟩:=(h.v.mp i hi).opened
 have hg4:=h.v.gs4 hi
 rw [hmv] at hg4
 have hrow:=h.v.mp i hi
 rw [hmv] at hrow
 refine enter Tryz.func245 ?_
 refine run ?_
 refine ak (fun wc hG=>rJ (h.good hG) i hi n hn) ?_
 refine run ?_
 refine make (m:=P.pages.length) (fun b=>?_) be5
 rw [show madeCells (Value.cells (.bool false)) (P.pages.length * 1)=((List.replicate P.pages.length false).map Value.bool).toArray from VK _ _ _]
 refine run ?_
 refine aX (σ:=Nat × List Bool) (fun s=>[(26,.int .i64 (s.1:Int))]) (fun s=>[⟨b,(s.2.map Value.bool).toArray,4⟩]) (fun s=>s.1≤(P.gs i).maps.length∧s.2.length=P.pages.length∧(∀ j,j<s.1→PtD.uf (P.gs i).maps P.pages.length j=true)∧∀ f,f<P.pages.length→s.2.getD f false=((P.gs i).maps.take s.1).any fun x=>decide (x.gU=(f:Int))) (fun s=>(P.gs i).maps.length - s.1) (0,List.replicate P.pages.length false) ⟨by simp,by simp,fun j hj=>absurd hj be7,fun f hf=>by simp [hf]⟩ ?_
 rintro ⟨k,bs⟩ m hm ⟨hk,hbs,hall,zS⟩
 dsimp only at hm hk hbs hall zS ⊢
 refine run ?_
 refine ah _ rfl (fun hc=>?_) (fun hc=>?_)
 ·have hlt:k<(P.gs i).maps.length:=by simp at hc;omega
  obtain ⟨b2,o2,rfl⟩:=hne bj3
  have hr:=hrow.row hlt
  simp only [dS] at hr
  have hno:PtD.uf (P.gs i).maps P.pages.length k=false→P.mapped i=false:=fun h=>by
   unfold PtD.mapped
   rw [show allB (P.gs i).maps.length (PtD.uf (P.gs i).maps P.pages.length)=false by
    rw [← Bool.not_eq_true,bM];intro ha;rw [ha k hlt] at h;cases h]
   rfl
  have hmd:PtD.uf (P.gs i).maps P.pages.length k=(PtD.di ((P.gs i).maps.getD k default).mid 0 15 && (decide (k=0) || decide (((P.gs i).maps.getD (k - 1) default).mid<((P.gs i).maps.getD k default).mid)) && PtD.di ((P.gs i).maps.getD k default).gU 0 ((P.pages.length:Int) - 1) && !(((P.gs i).maps.take k).any fun x=>decide (x.gU=((P.gs i).maps.getD k default).gU))):=rfl
  generalize hxd:(P.gs i).maps.getD k default=x at hr hmd
  have hxk:x=(P.gs i).maps[k]:=by rw [← hxd,List.getD_eq_getElem?_getD,List.getElem?_eq_getElem hlt];rfl
  clear hxd
  refine run ?_
  intro X
  refine kC ?_
  refine bP ?_
  refine dM (fun wc hG=>fG _ _ _ wc) ?_
  cases hb1:PtD.di x.mid 0 15
  ·refine bP ?_
   refine aI ?_
   refine ah _ rfl (fun hc=>?_) (fun hc=>absurd hc be7)
   refine run ?_
   refine fin1 ?_
   rw [hno (by rw [hmd,hb1];rfl)]
  rw [hb1] at hmd
  have hload:PtD.di x.gU 0 ((P.pages.length:Int) - 1)=true→nth (List.map Value.bool bs).toArray.toList x.gU.toNat=some (.bool (((P.gs i).maps.take k).any fun y=>decide (y.gU=x.gU))):=fun hb=>by
   simp only [PtD.di,Bool.and_eq_true,decide_eq_true_eq] at hb
   have:=zS x.gU.toNat be5
   rw [show ((x.gU.toNat:Nat):Int)=x.gU by omega] at this
   rw [← this,lS]
   have hl:x.gU.toNat<bs.length:=by omega
   simp [List.getElem?_eq_getElem hl]
  have hjA:PtD.uf (P.gs i).maps P.pages.length k=true→∀ j,j<k + 1→PtD.uf (P.gs i).maps P.pages.length j=true:=fun h j hj=>by
   rcases Nat.lt_succ_iff_lt_or_eq.1 hj with hj | rfl
   ·exact hall j hj
   ·exact h
  have hjB:0≤x.gU→∀ f,f<P.pages.length→(bs.set x.gU.toNat true).getD f false=((P.gs i).maps.take (k + 1)).any fun y=>decide (y.gU=(f:Int)):=fun h0 f hf=>by
   rw [List.take_succ_eq_append_getElem hlt,List.any_append,← zS f hf,List.getD_eq_getElem?_getD,List.getElem?_set,← hxk]
   by_cases e:x.gU.toNat=f
   ·simp [e,show x.gU=(f:Int) by omega,hbs,hf]
   ·simp [e,show ¬ x.gU=(f:Int) by omega]
  rcases Nat.eq_zero_or_pos k with hk0 | hk0
  ·have hk0':decide (0<(k:Int))=false:=by simp;omega
   refine bP ?_
   simp only [hk0']
   refine bP ?_
   refine ig (fun h1 wc hG=>fG _ _ _ wc) ?_
   cases hb2:PtD.di x.gU 0 ((P.pages.length:Int) - 1)
   ·refine bP ?_
    refine aI ?_
    refine ah _ rfl (fun hc=>?_) (fun hc=>absurd hc be7)
    refine run ?_
    refine fin1 ?_
    rw [hno (by rw [hmd,hb2];simp)]
   have hb2':=hb2
   simp only [PtD.di,Bool.and_eq_true,decide_eq_true_eq] at hb2'
   have hs:=hload hb2
   refine bP ?_
   refine aI ?_
   refine ah _ rfl (fun hc=>?_) (fun hc=>?_)
   ·refine run ?_
    refine fin1 ?_
    rw [hno (by rw [hmd];simp at hc;simp [hc])]
   ·refine run ?_
    rw [← List.map_set]
    refine aK (k + 1,bs.set x.gU.toNat true) ⟨by omega,by simpa using hbs,hjA (by rw [hmd,hb2,show decide (k=0)=true by simpa using hk0];simp at hc;simpa using hc),hjB be5⟩
  have aO0:=VL hrow hlt hk0
  have hk0':decide (0<(k:Int))=true:=by simp;omega
  refine bP ?_
  simp only [hk0']
  cases hc2:decide (x.mid≤((P.gs i).maps.getD (k - 1) default).mid)
  ·refine ig (fun h1 wc hG=>fG _ _ _ wc) ?_
   cases hb2:PtD.di x.gU 0 ((P.pages.length:Int) - 1)
   ·refine bP ?_
    refine aI ?_
    refine ah _ rfl (fun hc=>?_) (fun hc=>absurd hc be7)
    refine run ?_
    refine fin1 ?_
    rw [hno (by rw [hmd,hb2];simp)]
   have hb2':=hb2
   simp only [PtD.di,Bool.and_eq_true,decide_eq_true_eq] at hb2'
   have hs:=hload hb2
   refine bP ?_
   refine aI ?_
   refine ah _ rfl (fun hc=>?_) (fun hc=>?_)
   ·refine run ?_
    refine fin1 ?_
    rw [hno (by rw [hmd];simp at hc;simp [hc])]
   ·refine run ?_
    rw [← List.map_set]
    refine aK (k + 1,bs.set x.gU.toNat true) ⟨by omega,by simpa using hbs,hjA (by rw [hmd,hb2,show decide (((P.gs i).maps.getD (k - 1) default).mid<x.mid)=true by simp at hc2 ⊢;omega];simp at hc;simpa using hc),hjB be5⟩
  ·refine bP ?_
   refine aI ?_
   refine ah _ rfl (fun hc=>?_) (fun hc=>absurd hc be7)
   refine run ?_
   refine fin1 ?_
   rw [hno (by rw [hmd,show decide (((P.gs i).maps.getD (k - 1) default).mid<x.mid)=false by simp at hc2 ⊢;omega,show decide (k=0)=false by simp;omega];simp)]
 ·have hge:k=(P.gs i).maps.length:=by simp at hc;omega
  subst hge
  rw [List.take_length] at zS
  have ab6:P.mapped i=allB P.pages.length fun f=>(bs.getD f false) == P.uses ((i:Int) + 1) f:=by
   unfold PtD.mapped
   rw [show allB (P.gs i).maps.length (PtD.uf (P.gs i).maps P.pages.length)=true from bM.2 hall,Bool.true_and]
   rw [Bool.eq_iff_iff,bM,bM]
   exact ⟨fun h f hf=>by rw [zS f hf];exact h f hf,fun h f hf=>by rw [← zS f hf];exact h f hf⟩
  refine run ?_
  refine aX (σ:=Nat) (fun k=>[(76,.int .i64 (k:Int))]) (fun _=>[⟨b,(bs.map Value.bool).toArray,4⟩]) (fun k=>k≤P.pages.length∧∀ j,j<k→(bs.getD j false == P.uses ((i:Int) + 1) j)=true) (fun k=>P.pages.length - k) 0 ⟨by omega,fun j hj=>absurd hj be5⟩ ?_
  rintro k m2 hm2 ⟨hk2,rZ⟩
  refine run ?_
  refine ah _ rfl (fun hc=>?_) (fun hc=>?_)
  ·have hlt:k<P.pages.length:=by simp at hc;omega
   have hs:nth (List.map Value.bool bs).toArray.toList k=some (.bool (bs.getD k false)):=by
    rw [lS]
    have hl:k<bs.length:=by omega
    simp [List.getElem?_eq_getElem hl]
   refine run ?_
   refine ak (fun wc hG=>aj' (h.good hG) k hlt n) ?_
   refine run ?_
   rw [hn]
   refine ah _ rfl (fun hc3=>?_) (fun hc3=>?_)
   ·refine run ?_
    refine fin1 ?_
    rw [ab6,show (allB P.pages.length fun f=>(bs.getD f false) == P.uses ((i:Int) + 1) f)=false by
     rw [← Bool.not_eq_true,bM];intro ha;have:=ha k hlt;rw [beq_iff_eq] at this;rw [this] at hc3;simp at hc3]
   ·refine run ?_
    refine aK (k + 1) ⟨by omega,fun j hj=>?_⟩
    rcases Nat.lt_succ_iff_lt_or_eq.1 hj with hj | rfl
    ·exact rZ j hj
    ·simpa [bne] using hc3
  ·have hge:k=P.pages.length:=by simp at hc;omega
   subst hge
   refine run ?_
   refine fin1 ?_
   rw [ab6,bM.2 rZ]
end
end
section
attribute [local irreducible] Hy St Ops DH dG
section
variable {w : World} {bp : Nat} {L : Iw} {P : PtD}
theorem Rk (h:qh w bp L P) (i:Nat) (hi:i<P.aA.length) (n:Int) (hn:n=(i:Int) + 1):Fn Tryz.prog 156 [.pointer (some ⟨bp,0,none⟩),.int .i64 n].toArray w [] (fun u _=>u=.bool (P.kD i)):=by
 have hp:=h.cp
 have ho:=h.co
 have hp0:=h.n.p0
 have hp1:=h.n.p1
 have ho1:=h.n.o1
 obtain ⟨q,cap,hmv,hne,hle⟩:=(h.v.mp i hi).opened
 obtain ⟨q2,cap2,hvv,hne2,hle2⟩:=(h.v.vc i hi).opened
 obtain ⟨⟨hf0,hf1⟩,_,_⟩:=h.v.wf.gs i hi
 have hg0:=h.v.gs0 hi
 have hg1:=h.v.gs1 hi
 have hg2:=h.v.gs2 hi
 have hg3:=h.v.gs3 hi
 have hg4:=h.v.gs4 hi
 rw [hmv] at hg4
 rw [hvv] at hg3
 have hrow:=h.v.vc i hi
 rw [hvv] at hrow
 refine enter Tryz.func156 ?_
 refine run ?_
 refine ak (fun wc hG=>rJ (h.good hG) i hi n hn) ?_
 refine run ?_
 refine ah _ rfl (fun hl=>?_) (fun hl=>?_)
 ·simp only [Bool.not_eq_true'] at hl
  refine run ?_
  refine dL 34 ?_
  refine bP ?_
  refine ig (fun h1 wc hG=>Nj (h.good hG) n) ?_
  refine bP ?_
  refine aI ?_
  refine fin1 ?_
  rw [hn]
  simp only [PtD.kD,hl,cond_false]
  by_cases hf:(P.gs i).first=0
  ·have hw:IntKind.i64.wrap ((((P.gs i).aN.length:Nat):Int) + (((P.gs i).maps.length:Nat):Int) + 0)=(((P.gs i).aN.length:Nat):Int) + (((P.gs i).maps.length:Nat):Int) + 0:=wrap_in be5 be5
   rw [hf,hw]
   have e:decide ((((P.gs i).aN.length:Nat):Int) + (((P.gs i).maps.length:Nat):Int) + 0=0)=(decide ((P.gs i).aN.length=0) && decide ((P.gs i).maps.length=0)):=by
    rw [Bool.eq_iff_iff];simp only [Bool.and_eq_true,decide_eq_true_eq];omega
   rw [e]
  ·simp [hf]
 ·simp only [Bool.not_eq_false'] at hl
  refine run ?_
  refine kC ?_
  refine bP ?_
  refine ig (fun h1 wc hG=>fG _ _ _ wc) ?_
  refine bP ?_
  refine ig (fun h1 wc hG=>VM (h.good hG) i hi n hn) ?_
  refine bP ?_
  refine aI ?_
  have hgd:P.kD i=(!(P.gs i).dying && PtD.di (P.gs i).first 16 ((P.pages.length:Int) - 5) && decide ((P.gs i).aN.length≤2) && P.mapped i && allB 5 (fun k=>decide ((P.pg ((P.gs i).first.toNat + k)).own=-1) && decide ((P.pg ((P.gs i).first.toNat + k)).wit=-2)) && allB (P.gs i).aN.length (P.ug i)):=by simp only [PtD.kD,hl,cond_true]
  refine ah _ rfl (fun hc=>?_) (fun hc=>?_)
  ·refine run ?_
   refine fin1 ?_
   rw [hgd]
   have e:decide ((P.gs i).aN.length≤2)=!decide ((2:Int)<((P.gs i).aN.length:Nat)):=by rw [Bool.eq_iff_iff];simp;omega
   rw [e]
   revert hc
   cases (P.gs i).dying<;>cases PtD.di (P.gs i).first 16 ((P.pages.length:Int) - 5)<;>cases decide ((2:Int)<((P.gs i).aN.length:Nat))<;>cases P.mapped i<;>simp
  simp only [Bool.or_eq_false_iff,Bool.not_eq_false',decide_eq_false_iff_not] at hc
  obtain ⟨⟨⟨hdy,hbt⟩,hv2⟩,hmp⟩:=hc
  have aF1:=hbt
  simp only [PtD.di,Bool.and_eq_true,decide_eq_true_eq] at aF1
  rw [hdy,hbt,hmp,show decide ((P.gs i).aN.length≤2)=true by simp;omega] at hgd
  simp only [Bool.not_false,Bool.true_and] at hgd
  refine run ?_
  refine dJ (fun wc hG=>DF _ _ (P.gs i).first be5 be5 wc (hG.cell hg2 be7)) (fun v hn hA=>?_)
  obtain ⟨T,tc,cur,rfl,rfl,Ja⟩:=hA.open be7
  simp only [List.cons_append,List.nil_append,List.length_map,List.length_cons,List.length_nil,Nat.zero_add,Nat.reduceAdd]
  refine run ?_
  refine aX (σ:=Nat) (fun k=>[(88,.int .i64 (k:Int))]) (fun _=>[⟨T,cur,3⟩]) (fun k=>k≤5∧∀ j,j<k→(decide ((P.pg ((P.gs i).first.toNat + j)).own=-1) && decide ((P.pg ((P.gs i).first.toNat + j)).wit=-2))=true) (fun k=>5 - k) 0 ⟨by omega,fun j hj=>absurd hj be5⟩ ?_
  rintro k m hm ⟨hk,hall⟩
  refine run ?_
  refine ah _ rfl (fun hc=>?_) (fun hc=>?_)
  ·have hlt:k<5:=by simp at hc;omega
   have hx:nth cur.toList k=some (.int .i64 ((P.gs i).first + (k:Int))):=by
    have h1:([(P.gs i).first,(P.gs i).first + 1,(P.gs i).first + 2,(P.gs i).first + 3,(P.gs i).first + 4].map dA)[k]?=some (dA ((P.gs i).first + (k:Int))):=by
     have:k=0∨k=1∨k=2∨k=3∨k=4:=by omega
     rcases this with rfl | rfl | rfl | rfl | rfl<;>simp
    have:=vW (k:=0) (Ja k _ h1) rfl
    simpa using this
   have hr:=h.v.pg ((P.gs i).first.toNat + k) be5
   rw [show (P.gs i).first.toNat + k=((P.gs i).first + (k:Int)).toNat by omega] at hr
   refine run ?_
   refine kC ?_
   refine bZ ?_
   refine dM (fun wc hG=>MF wc) ?_
   refine bZ ?_
   refine run ?_
   rw [show ((P.gs i).first + (k:Int)).toNat=(P.gs i).first.toNat + k by omega]
   refine ah _ rfl (fun hc=>?_) (fun hc=>?_)
   ·refine run ?_
    refine fin1 ?_
    rw [hgd]
    rw [show allB 5 (fun k=>decide ((P.pg ((P.gs i).first.toNat + k)).own=-1) && decide ((P.pg ((P.gs i).first.toNat + k)).wit=-2))=false by
     rw [← Bool.not_eq_true,bM];intro ha;have:=ha k hlt;simp [aW,kF] at hc this;simp [this] at hc]
    rfl
   ·refine run ?_
    refine aK (k + 1) ⟨by omega,fun j hj=>?_⟩
    rcases Nat.lt_succ_iff_lt_or_eq.1 hj with hj | rfl
    ·exact hall j hj
    ·simpa [aW,kF] using hc
  ·have hge:k=5:=by simp at hc;omega
   subst hge
   rw [show allB 5 (fun k=>decide ((P.pg ((P.gs i).first.toNat + k)).own=-1) && decide ((P.pg ((P.gs i).first.toNat + k)).wit=-2))=true from bM.2 hall,Bool.true_and] at hgd
   refine run ?_
   refine aX (σ:=Nat) (fun k=>[(108,.int .i64 (k:Int))]) (fun _=>[]) (fun k=>k≤(P.gs i).aN.length∧∀ j,j<k→P.ug i j=true) (fun k=>(P.gs i).aN.length - k) 0 ⟨by omega,fun j hj=>absurd hj be5⟩ ?_
   rintro k m hm ⟨hk,rZ⟩
   refine run ?_
   refine ah _ rfl (fun hc=>?_) (fun hc=>?_)
   ·have hlt:k<(P.gs i).aN.length:=by simp at hc;omega
    obtain ⟨b2,o2,rfl⟩:=hne2 bj3
    have hx:=au (hrow.row hlt)
    rw [Nat.mul_one] at hx
    have hva:P.ug i k=(decide ((P.gs i).aN.getD k 0=-1) || (PtD.di ((P.gs i).aN.getD k 0) 0 ((P.on.length:Int) - 1) && (decide ((P.st ((P.gs i).aN.getD k 0).toNat).vm=(i:Int) + 1) && decide ((P.st ((P.gs i).aN.getD k 0).toNat).cpu=(k:Int))))):=rfl
    rw [show (default:Int)=0 from rfl] at hx
    generalize (P.gs i).aN.getD k 0=x at hx hva
    have hno:P.ug i k=false→P.kD i=false:=fun h=>by
     rw [hgd,← Bool.not_eq_true,bM];intro ha;rw [ha k hlt] at h;cases h
    have hyes:P.ug i k=true→∀ j,j<k + 1→P.ug i j=true:=fun h j hj=>by
     rcases Nat.lt_succ_iff_lt_or_eq.1 hj with hj | rfl
     ·exact rZ j hj
     ·exact h
    refine run ?_
    cases hd:decide (x=-1)
    ·refine aI ?_
     refine dO (fun h1 wc hG=>fG _ _ _ wc) ?_
     cases hb:PtD.di x 0 ((P.on.length:Int) - 1)
     ·refine aI ?_
      refine ah _ rfl (fun hc=>?_) (fun hc=>absurd hc be7)
      refine run ?_
      refine fin1 ?_
      rw [hno (by rw [hva,hd,hb];rfl)]
     ·have hb':=hb
      simp only [PtD.di,Bool.and_eq_true,decide_eq_true_eq] at hb'
      have hr:=h.v.st x.toNat be5
      refine aI ?_
      refine ah _ rfl (fun hc=>?_) (fun hc=>?_)
      ·refine run ?_
       refine fin1 ?_
       rw [hno (by rw [hva,hd,hb];rw [hn] at hc;simp [aW,kF] at hc;simp;intro h1 h2;rcases hc with hc | hc<;>contradiction)]
      ·refine run ?_
       refine aK (k + 1) ⟨by omega,hyes (by rw [hva,hd,hb];rw [hn] at hc;simpa [aW,kF] using hc)⟩
    ·refine aI ?_
     refine ah _ rfl (fun hc=>absurd hc be7) (fun hc=>?_)
     refine run ?_
     refine aK (k + 1) ⟨by omega,hyes (by rw [hva,hd];rfl)⟩
   ·have hge:k=(P.gs i).aN.length:=by simp at hc;omega
    subst hge
    rw [bM.2 rZ] at hgd
    refine run ?_
    refine fin1 ?_
    rw [hgd]
end
end
section
attribute [local irreducible] Hy St Ops DH dG
theorem aC.Y5 {r:Hp}:∀ {h h':Hp},h.Perm h'→aC r h→aC r h':=by
 cases r with
 | nil=>intros;trivial
 | cons e r=>
  rintro h h' hp ⟨x,h1,h2⟩
  exact ⟨x,h1.trans hp,h2⟩
theorem VN {f:Int} {k:Nat} (hlt:k<5):([f,f + 1,f + 2,f + 3,f + 4].map dA)[k]?=some (dA (f + (k:Int))):=by
 have:k=0∨k=1∨k=2∨k=3∨k=4:=by omega
 rcases this with rfl | rfl | rfl | rfl | rfl<;>simp
theorem av' {w:World} {pv gv ov:Value} {P:PtD} {bp:Nat} (h:fD w pv gv ov P) (c0:w.cell? ⟨bp,0,none⟩=some pv) (c1:w.cell? ⟨bp,1,none⟩=some gv) (c2:w.cell? ⟨bp,2,none⟩=some ov):
  Fn Tryz.prog 74 [.pointer (some ⟨bp,0,none⟩)].toArray w [] (fun u _=>u=.bool P.may):=by
 obtain ⟨p,pc,e1,_,hle1⟩:=h.pages.opened
 obtain ⟨o,oc,e3,_,hle3⟩:=h.on.opened
 obtain ⟨g,gc,e2,hle2⟩:∃ g gc,gv=.slice g P.aA.length gc∧P.aA.length≤281474976710656:=by
  obtain ⟨vv,mv,⟨⟨g,gc,e,_⟩,hl⟩,_⟩:=h.aA
  simp only [List.length_map,List.length_range] at e hl
  exact ⟨g,gc,e,hl⟩
 have c0':=c0
 have c1':=c1
 have c2':=c2
 rw [e1] at c0'
 rw [e2] at c1'
 rw [e3] at c2'
 refine enter Tryz.func74 ?_
 refine run ?_
 refine ak (fun wc hG=>fG _ _ _ wc) ?_
 refine aI ?_
 refine dO (fun h1 wc hG=>fG _ _ _ wc) ?_
 refine aI ?_
 have hlen:(!(PtD.di (P.pages.length:Int) 24 64) || !decide ((P.aA.length:Int)=4) || !(PtD.di (P.on.length:Int) 1 3))=false→P.Len:=fun h=>by
  simp only [Bool.or_eq_false_iff,Bool.not_eq_false',PtD.di,Bool.and_eq_true,decide_eq_true_eq] at h
  exact ⟨by omega,by omega,by omega,by omega,by omega⟩
 refine ah _ rfl (fun hc=>?_) (fun hc=>?_)
 ·refine run ?_
  refine fin1 ?_
  have:P.may=false:=by
   rw [← Bool.not_eq_true]
   intro hm
   simp only [PtD.may,Bool.and_eq_true,decide_eq_true_eq] at hm
   obtain ⟨⟨⟨⟨⟨a,b⟩,c,d⟩,_⟩,_⟩,_⟩:=hm
   simp only [PtD.di,Bool.or_eq_true,Bool.not_eq_true',Bool.and_eq_false_iff,decide_eq_false_iff_not,Bool.not_not] at hc
   omega
  rw [this]
 have hn:=hlen (by simpa using hc)
 obtain ⟨L,rfl,rfl,rfl,hv⟩:=h.open hn
 have hQ:qh w bp L P:=⟨hv,hn,c0,c1,c2⟩
 cases e1
 cases e2
 cases e3
 have hmay:P.may=(allB 4 P.round && allB P.pages.length (P.nS (P.taken 4)) && allB P.on.length P.seated):=by
  obtain ⟨a,b,c,d,e⟩:=hn
  simp only [PtD.may,a,b,c,d,e,decide_true,Bool.and_self,Bool.true_and]
 have h4:=hn.g4
 refine run ?_
 refine aX (σ:=Nat × Value × Hp) (fun s=>[(3,s.2.1),(37,.int .i64 (s.1:Int))]) (fun s=>s.2.2) (fun s=>s.1≤5∧(∀ j,j<s.1 - 1→P.round j=true)∧Acc 3 1 s.2.1 s.2.2 ((P.taken (s.1 - 1)).map dA)) (fun s=>5 - s.1) (0,_,[]) ⟨by omega,fun j hj=>absurd hj be5,Acc.nil _ _⟩ ?_
 rintro ⟨k,tv,ha⟩ m hm ⟨hk,hall,hA⟩
 dsimp only at hm hk hall hA ⊢
 refine run ?_
 refine ah _ rfl (fun hc=>?_) (fun hc=>?_)
 ·have hlt:k<5:=by simp at hc;omega
  refine run ?_
  refine ah _ rfl (fun hc=>?_) (fun hc=>?_)
  ·have hk0:k=0:=by simp at hc;omega
   subst hk0
   refine run ?_
   refine aK (1,tv,ha) ⟨by omega,fun j hj=>absurd hj be7,hA⟩
  have hk0:0<k:=by simp at hc;omega
  obtain ⟨i,rfl⟩:∃ i,k=i + 1:=⟨k - 1,by omega⟩
  rw [Nat.add_sub_cancel] at hall hA
  have hno:P.round i=false→allB 4 P.round=false:=fun h=>by
   rw [← Bool.not_eq_true,bM];intro ha;rw [ha i be5] at h;cases h
  have hyes:P.round i=true→∀ j,j<i + 1→P.round j=true:=fun h j hj=>by
   rcases Nat.lt_succ_iff_lt_or_eq.1 hj with hj | rfl
   ·exact hall j hj
   ·exact h
  refine run ?_
  refine ak (fun wc hG=>Rk (hQ.good hG) i be5 ((i + 1:Nat):Int) be5) ?_
  refine run ?_
  refine ah _ rfl (fun hc=>?_) (fun hc=>?_)
  ·refine run ?_
   refine fin1 ?_
   simp only [Bool.not_eq_true'] at hc
   rw [hmay,hno (by rw [PtD.round,hc];rfl)]
   rfl
  simp only [Bool.not_eq_false'] at hc
  have hg0:=hv.gs0 (i:=i) be5
  refine run ?_
  refine ak (fun wc hG=>rJ (hQ.good hG) i be5 ((i + 1:Nat):Int) be5) ?_
  refine run ?_
  refine ah _ rfl (fun hl=>?_) (fun hl=>?_)
  ·have hf:16≤(P.gs i).first∧(P.gs i).first≤(P.pages.length:Int) - 5:=by
    have:=hc
    simp only [PtD.kD,hl,cond_true,PtD.di,Bool.and_eq_true,decide_eq_true_eq] at this
    exact this.1.1.1.1.2
   have hp1:=hn.p1
   have hrow:P.rows i=[(P.gs i).first,(P.gs i).first + 1,(P.gs i).first + 2,(P.gs i).first + 3,(P.gs i).first + 4]:=by rw [PtD.rows,hl];rfl
   have hrd:P.round i=allB 5 fun k=>!((P.taken i).any fun t=>decide (t=(P.gs i).first + (k:Int))):=by rw [PtD.round,hc,hl];rfl
   refine run ?_
   refine dJ (fun wc hG=>DF _ _ (P.gs i).first be5 be5 wc (hG.cell (hv.gs2 (i:=i) be5) be7)) (fun v hn hA2=>?_)
   obtain ⟨T,tc,cur,rfl,rfl,Ja⟩:=hA2.open be7
   simp only [List.cons_append,List.nil_append,List.length_map,List.length_cons,List.length_nil,Nat.zero_add,Nat.reduceAdd]
   refine run ?_
   refine aX (σ:=Nat × Value × Hp) (fun s=>[(3,s.2.1),(56,.int .i64 (s.1:Int))]) (fun s=>⟨T,cur,3⟩::s.2.2) (fun s=>s.1≤5∧(∀ j,j<s.1→((P.taken i).any fun t=>decide (t=(P.gs i).first + (j:Int)))=false)∧Acc 3 1 s.2.1 s.2.2 ((P.taken i++(List.range s.1).map fun (j:Nat)=>(P.gs i).first + (j:Int)).map dA)) (fun s=>5 - s.1) (0,tv,ha) ⟨by omega,fun j hj=>absurd hj be7,by simpa using hA⟩ ?_
   rintro ⟨k2,tv2,ha2⟩ m2 hm2 ⟨hk2,rZ,hA3⟩
   dsimp only at hm2 hk2 rZ hA3 ⊢
   have hlen3:((P.taken i++(List.range k2).map fun (j:Nat)=>(P.gs i).first + (j:Int)).map dA).length≤1000:=by
    have hl:∀ m,m≤4→(P.taken m).length≤m * 5:=by
     intro m
     induction m with
     | zero=>intro _;simp [PtD.taken]
     | succ m ih=>
      intro hm
      have:=ih be5
      rw [PtD.taken,List.range_succ,List.flatMap_append,List.length_append]
      have e:(List.flatMap P.rows [m]).length≤5:=by
       simp only [List.flatMap_cons,List.flatMap_nil,List.append_nil,PtD.rows]
       cases (P.gs m).live<;>simp
      unfold PtD.taken at this
      omega
    have:=hl i be5
    simp only [List.length_map,List.length_append,List.length_range]
    omega
   refine run ?_
   refine ah _ rfl (fun hc=>?_) (fun hc=>?_)
   ·have hlt2:k2<5:=by simp at hc;omega
    have hx:nth cur.toList k2=some (.int .i64 ((P.gs i).first + (k2:Int))):=by
     have:=vW (k:=0) (Ja k2 _ (VN hlt2)) rfl
     simpa using this
    refine run ?_
    refine ak (fun wc hG=>uG ((P.gs i).first + (k2:Int)) _ tv2 (hA3.ar9 hG (fun b hb=>List.mem_cons_of_mem _ hb) be5)) ?_
    refine run ?_
    have hany:((P.taken i++(List.range k2).map fun (j:Nat)=>(P.gs i).first + (j:Int)).any fun t=>decide (t=(P.gs i).first + (k2:Int)))=(P.taken i).any fun t=>decide (t=(P.gs i).first + (k2:Int)):=by
     rw [List.any_append]
     have:((List.range k2).map fun (j:Nat)=>(P.gs i).first + (j:Int)).any (fun t=>decide (t=(P.gs i).first + (k2:Int)))=false:=by
      rw [List.any_eq_false]
      intro x hx
      obtain ⟨j,hj,rfl⟩:=List.mem_map.1 hx
      have:=List.mem_range.1 hj
      simp
      omega
     rw [this,Bool.or_false]
    rw [hany]
    refine ah _ rfl (fun hc=>?_) (fun hc=>?_)
    ·refine run ?_
     refine fin1 ?_
     rw [hmay,hno (by rw [hrd,← Bool.not_eq_true,bM];intro h;have:=h k2 hlt2;rw [hc] at this;cases this)]
     rfl
    ·refine run ?_
     intro X
     refine kX (c:=dA ((P.gs i).first + (k2:Int))) hA3 (fun v' ha' hA'=>?_) be5 (bQ (m:=1) mh rfl) (hperm:=List.perm_append_comm (l₂:=[_,_]))
     refine run ?_
     refine aK (k2 + 1,v',ha') ⟨by omega,fun j hj=>?_,?_⟩ (h2:=aC.Y5 (List.perm_append_comm (l₁:=[_,_])) ⟨_,p1,aC.skip (aC.refl _)⟩)
     ·rcases Nat.lt_succ_iff_lt_or_eq.1 hj with hj | rfl
      ·exact rZ j hj
      ·exact hc
     ·simpa [List.range_succ] using hA'
   ·have hk5:k2=5:=by simp at hc;omega
    subst hk5
    refine run ?_
    refine aK (i + 2,tv2,ha2) ⟨by omega,hyes (by rw [hrd,bM];intro j hj;rw [rZ j hj];rfl),?_⟩
    have:P.taken (i + 2 - 1)=P.taken i++(List.range 5).map fun (j:Nat)=>(P.gs i).first + (j:Int):=by
     show P.taken (i + 1)=_
     rw [PtD.taken,List.range_succ,List.flatMap_append]
     simp [hrow,PtD.taken,List.range_succ]
    rw [this];exact hA3
  ·refine run ?_
   refine aK (i + 2,tv,ha) ⟨by omega,hyes (by rw [PtD.round,hc,hl];rfl),?_⟩
   have:P.taken (i + 2 - 1)=P.taken i:=by
    show P.taken (i + 1)=_
    rw [PtD.taken,List.range_succ,List.flatMap_append]
    simp [PtD.rows,hl,PtD.taken]
   rw [this];exact hA
 ·have hk5:k=5:=by simp at hc;omega
  subst hk5
  rw [show allB 4 P.round=true from bM.2 hall,Bool.true_and] at hmay
  have hlA:((P.taken (5 - 1)).map dA).length≤281474976710656:=by
   rw [List.length_map]
   have hl:∀ m,(P.taken m).length≤m * 5:=by
    intro m
    induction m with
    | zero=>simp [PtD.taken]
    | succ m ih=>
     rw [PtD.taken,List.range_succ,List.flatMap_append,List.length_append]
     have e:(List.flatMap P.rows [m]).length≤5:=by
      simp only [List.flatMap_cons,List.flatMap_nil,List.append_nil,PtD.rows]
      cases (P.gs m).live<;>simp
     unfold PtD.taken at ih
     omega
   have:=hl (5 - 1)
   omega
  refine run ?_
  refine aX (σ:=Nat) (fun k=>[(75,.int .i64 (k:Int))]) (fun _=>ha) (fun k=>k≤P.pages.length∧∀ j,j<k→P.nS (P.taken 4) j=true) (fun k=>P.pages.length - k) 0 ⟨by omega,fun j hj=>absurd hj be5⟩ ?_
  rintro k m2 hm2 ⟨hk2,rZ⟩
  refine run ?_
  refine ah _ rfl (fun hc=>?_) (fun hc=>?_)
  ·have hlt:k<P.pages.length:=by simp at hc;omega
   refine run ?_
   refine ak (fun wc hG=>Y4 (hQ.good hG) k hlt (P.taken 4) tv (hA.ar9 hG (fun b hb=>hb) hlA)) ?_
   refine run ?_
   refine ah _ rfl (fun hc3=>?_) (fun hc3=>?_)
   ·refine run ?_
    refine fin1 ?_
    rw [hmay,show allB P.pages.length (P.nS (P.taken 4))=false by
     rw [← Bool.not_eq_true,bM];intro h;rw [h k hlt] at hc3;simp at hc3]
    rfl
   ·refine run ?_
    refine aK (k + 1) ⟨by omega,fun j hj=>?_⟩
    rcases Nat.lt_succ_iff_lt_or_eq.1 hj with hj | rfl
    ·exact rZ j hj
    ·simpa using hc3
  have hge:k=P.pages.length:=by simp at hc;omega
  subst hge
  rw [show allB P.pages.length (P.nS (P.taken 4))=true from bM.2 rZ,Bool.true_and] at hmay
  refine run ?_
  refine aX (σ:=Nat) (fun k=>[(90,.int .i64 (k:Int))]) (fun _=>[]) (fun k=>k≤P.on.length∧∀ j,j<k→P.seated j=true) (fun k=>P.on.length - k) 0 ⟨by omega,fun j hj=>absurd hj be5⟩ ?_
  rintro k m3 hm3 ⟨hk3,ab7⟩
  refine run ?_
  refine ah _ rfl (fun hc=>?_) (fun hc=>?_)
  ·have hlt:k<P.on.length:=by simp at hc;omega
   refine run ?_
   refine ak (fun wc hG=>VJ (hQ.good hG) k hlt) ?_
   refine run ?_
   refine ah _ rfl (fun hc3=>?_) (fun hc3=>?_)
   ·refine run ?_
    refine fin1 ?_
    rw [hmay,show allB P.on.length P.seated=false by
     rw [← Bool.not_eq_true,bM];intro h;rw [h k hlt] at hc3;simp at hc3]
   ·refine run ?_
    refine aK (k + 1) ⟨by omega,fun j hj=>?_⟩
    rcases Nat.lt_succ_iff_lt_or_eq.1 hj with hj | rfl
    ·exact ab7 j hj
    ·simpa using hc3
  have hge:k=P.on.length:=by simp at hc;omega
  subst hge
  refine run ?_
  refine fin1 ?_
  rw [hmay,bM.2 ab7]
end
section
attribute [local irreducible] Hy St Ops DH dG
section
variable {w : World} {pv gv ov : Value} {P : PtD}
theorem fD.agg (h:fD w pv gv ov P):pv.oneCell'=true∧gv.oneCell'=true∧ov.oneCell'=true:=by
 obtain ⟨p,pc,rfl,_⟩:=h.pages.opened
 obtain ⟨o,oc,rfl,_⟩:=h.on.opened
 obtain ⟨vv,mv,⟨⟨g,gc,rfl,_⟩,hl⟩,_⟩:=h.aA
 exact ⟨rfl,rfl,rfl⟩
theorem JQ {w0 w:World} {mu:List Nat} {hp:Hp} (hG:Good w0 mu hp w) {b t:Nat} {x y z:Value} (hm:(⟨b,#[x,y,z],t⟩:o8)∈hp):w.cell? ⟨b,0,none⟩=some x∧w.cell? ⟨b,1,none⟩=some y∧w.cell? ⟨b,2,none⟩=some z:=by
 have h:=hG.here _ hm
 refine ⟨?_,?_,?_⟩<;>(rw [cell_of_block h];rfl)
theorem Bq (h:P.may=true):P.Len:=by
 simp only [PtD.may,Bool.and_eq_true,decide_eq_true_eq] at h
 exact ⟨by omega,by omega,by omega,by omega,by omega⟩
theorem VO (h:fD w pv gv ov P) {w':World} {hp:Hp} (hG:Good w [] hp w') {b t:Nat} (hm:(⟨b,#[pv,gv,ov],t⟩:o8)∈hp):Fn Tryz.prog 74 [.pointer (some ⟨b,0,none⟩)].toArray w' [] (fun u _=>u=.bool P.may):=by
 obtain ⟨a,b,c⟩:=JQ hG hm
 exact av' (h.good hG) a b c
end
end
section
attribute [local irreducible] Hy St Ops DH dG
section
variable {w : World} {L : Iw} {P : PtD}
end
end
section
attribute [local irreducible] Hy St Ops DH dG
section
variable {w : World} {L : Iw} {P : PtD}
end
end
section
attribute [local irreducible] Hy St Ops DH dG
structure PtD.Small (P:PtD) (n:Nat):Prop where
 pg:P.pages.length≤n
 gs:P.aA.length≤n
 on:P.on.length≤n
 vc:∀ i,i<P.aA.length→(P.gs i).aN.length≤n∧(P.gs i).maps.length≤n
section
variable {w : World} {pv gv ov : Value} {P : PtD}
end
end
section
attribute [local irreducible] Hy St Ops DH dG
theorem fD.slices {w:World} {pv gv ov:Value} {P:PtD} (h:fD w pv gv ov P):∃ p pc g gc o oc,pv=.slice p P.pages.length pc∧gv=.slice g P.aA.length gc∧ov=.slice o P.on.length oc∧P.pages.length≤281474976710656∧P.aA.length≤281474976710656∧P.on.length≤281474976710656:=by
 obtain ⟨p1,⟨vv,mv,⟨⟨g,gc,e2,hg⟩,hl⟩,g2⟩,o1,wf⟩:=h
 obtain ⟨p,pc,rfl,_,hl1⟩:=p1.opened
 obtain ⟨o,oc,rfl,_,hl2⟩:=o1.opened
 simp only [List.length_map,List.length_range] at e2 hl
 exact ⟨p,pc,g,gc,o,oc,rfl,e2,rfl,hl1,hl,hl2⟩
end
section
attribute [local irreducible] Hy St Ops DH dG je iI gJ DS gY mP
theorem Nk {w:World} {F:Nat} {us:List Value} (p:XB→Bool) (xs:List (XB)) (v:Value) (h:aF w v 3 (xs.map O1)) (hF:∀ x,x∈xs→∀ w',rE w w'→Fn Tryz.prog F ([]++[Value.agg (O1 x).toArray]++us).toArray w' [] (fun u _=>u=.bool (p x))) (bH:mem iF F=true:=by rfl):
  Fn Tryz.prog 313 [v,.func (.func F) [].toArray us.toArray].toArray w [] (fun u _=>u=.int .i64 (jb p xs)):=by
 obtain ⟨q,cap,rfl,hne,hle⟩:=h.opened
 refine enter Tryz.func313 ?_
 refine run ?_
 refine aX (σ:=Nat) (fun k=>[(8,.int .i64 (k:Int))]) (fun _=>[]) (fun k=>k≤xs.length∧∀ j,j<k→p (xs.getD j default)=false) (fun k=>xs.length - k) 0 ⟨Nat.zero_le _,fun j hj=>absurd hj be5⟩ ?_
 rintro k m rfl ⟨hk,hno⟩
 refine run ?_
 refine ah _ rfl (fun hc=>?_) (fun hc=>?_)
 ·have hlt:k<xs.length:=by simpa using hc
  obtain ⟨b,o,rfl⟩:=hne be'
  have hr:=h.row hlt
  refine run ?_
  refine jM (fun wc hG=>hF (xs.getD k default) (getD_mem hlt) wc ⟨_,hG⟩) (bH:=bH) ?_
  refine run ?_
  refine ah _ rfl (fun hp=>?_) (fun hp=>?_)
  ·refine run ?_
   refine fin1 ?_
   rw [fB hlt hp hno]
  ·refine run ?_
   refine aK (k + 1) ⟨hlt,fun j hj=>?_⟩
   rcases Nat.lt_succ_iff_lt_or_eq.1 hj with hj | rfl
   ·exact hno j hj
   ·exact hp
 ·have hge:k=xs.length:=by simp at hc;omega
  subst hge
  refine run ?_
  refine fin1 ?_
  rw [dF hno]
theorem Nl {w:World} {F:Nat} {us:List Value} (p:jv→Bool) (xs:List (jv)) (v:Value) (h:aF w v 2 (xs.map dS)) (hF:∀ x,x∈xs→∀ w',rE w w'→Fn Tryz.prog F ([]++[Value.agg (dS x).toArray]++us).toArray w' [] (fun u _=>u=.bool (p x))) (bH:mem iF F=true:=by rfl):
  Fn Tryz.prog 211 [v,.func (.func F) [].toArray us.toArray].toArray w [] (fun u _=>u=.int .i64 (jb p xs)):=by
 obtain ⟨q,cap,rfl,hne,hle⟩:=h.opened
 refine enter Tryz.func211 ?_
 refine run ?_
 refine aX (σ:=Nat) (fun k=>[(8,.int .i64 (k:Int))]) (fun _=>[]) (fun k=>k≤xs.length∧∀ j,j<k→p (xs.getD j default)=false) (fun k=>xs.length - k) 0 ⟨Nat.zero_le _,fun j hj=>absurd hj be5⟩ ?_
 rintro k m rfl ⟨hk,hno⟩
 refine run ?_
 refine ah _ rfl (fun hc=>?_) (fun hc=>?_)
 ·have hlt:k<xs.length:=by simpa using hc
  obtain ⟨b,o,rfl⟩:=hne be'
  have hr:=h.row hlt
  refine run ?_
  refine jM (fun wc hG=>hF (xs.getD k default) (getD_mem hlt) wc ⟨_,hG⟩) (bH:=bH) ?_
  refine run ?_
  refine ah _ rfl (fun hp=>?_) (fun hp=>?_)
  ·refine run ?_
   refine fin1 ?_
   rw [fB hlt hp hno]
  ·refine run ?_
   refine aK (k + 1) ⟨hlt,fun j hj=>?_⟩
   rcases Nat.lt_succ_iff_lt_or_eq.1 hj with hj | rfl
   ·exact hno j hj
   ·exact hp
 ·have hge:k=xs.length:=by simp at hc;omega
  subst hge
  refine run ?_
  refine fin1 ?_
  rw [dF hno]
theorem Np {w:World} {F:Nat} {us:List Value} (p:Iy→Bool) (xs:List (Iy)) (v:Value) (h:aF w v 16 (xs.map Fg)) (hF:∀ x,x∈xs→∀ w',rE w w'→Fn Tryz.prog F ([]++[Value.agg (Fg x).toArray]++us).toArray w' [] (fun u _=>u=.bool (p x))) (bH:mem iF F=true:=by rfl):
  Fn Tryz.prog 165 [v,.func (.func F) [].toArray us.toArray].toArray w [] (fun u _=>u=.int .i64 (jb p xs)):=by
 obtain ⟨q,cap,rfl,hne,hle⟩:=h.opened
 refine enter Tryz.func165 ?_
 refine run ?_
 refine aX (σ:=Nat) (fun k=>[(8,.int .i64 (k:Int))]) (fun _=>[]) (fun k=>k≤xs.length∧∀ j,j<k→p (xs.getD j default)=false) (fun k=>xs.length - k) 0 ⟨Nat.zero_le _,fun j hj=>absurd hj be5⟩ ?_
 rintro k m rfl ⟨hk,hno⟩
 refine run ?_
 refine ah _ rfl (fun hc=>?_) (fun hc=>?_)
 ·have hlt:k<xs.length:=by simpa using hc
  obtain ⟨b,o,rfl⟩:=hne be'
  have hr:=h.row hlt
  refine run ?_
  refine jM (fun wc hG=>hF (xs.getD k default) (getD_mem hlt) wc ⟨_,hG⟩) (bH:=bH) ?_
  refine run ?_
  refine ah _ rfl (fun hp=>?_) (fun hp=>?_)
  ·refine run ?_
   refine fin1 ?_
   rw [fB hlt hp hno]
  ·refine run ?_
   refine aK (k + 1) ⟨hlt,fun j hj=>?_⟩
   rcases Nat.lt_succ_iff_lt_or_eq.1 hj with hj | rfl
   ·exact hno j hj
   ·exact hp
 ·have hge:k=xs.length:=by simp at hc;omega
  subst hge
  refine run ?_
  refine fin1 ?_
  rw [dF hno]
theorem Nq {w:World} {F:Nat} {us:List Value} (p:jH→Bool) (xs:List (jH)) (v:Value) (h:aF w v 6 (xs.map zO)) (hF:∀ x,x∈xs→∀ w',rE w w'→Fn Tryz.prog F ([]++[Value.agg (zO x).toArray]++us).toArray w' [] (fun u _=>u=.bool (p x))) (bH:mem iF F=true:=by rfl):
  Fn Tryz.prog 166 [v,.func (.func F) [].toArray us.toArray].toArray w [] (fun u _=>u=.int .i64 (jb p xs)):=by
 obtain ⟨q,cap,rfl,hne,hle⟩:=h.opened
 refine enter Tryz.func166 ?_
 refine run ?_
 refine aX (σ:=Nat) (fun k=>[(8,.int .i64 (k:Int))]) (fun _=>[]) (fun k=>k≤xs.length∧∀ j,j<k→p (xs.getD j default)=false) (fun k=>xs.length - k) 0 ⟨Nat.zero_le _,fun j hj=>absurd hj be5⟩ ?_
 rintro k m rfl ⟨hk,hno⟩
 refine run ?_
 refine ah _ rfl (fun hc=>?_) (fun hc=>?_)
 ·have hlt:k<xs.length:=by simpa using hc
  obtain ⟨b,o,rfl⟩:=hne be'
  have hr:=h.row hlt
  refine run ?_
  refine jM (fun wc hG=>hF (xs.getD k default) (getD_mem hlt) wc ⟨_,hG⟩) (bH:=bH) ?_
  refine run ?_
  refine ah _ rfl (fun hp=>?_) (fun hp=>?_)
  ·refine run ?_
   refine fin1 ?_
   rw [fB hlt hp hno]
  ·refine run ?_
   refine aK (k + 1) ⟨hlt,fun j hj=>?_⟩
   rcases Nat.lt_succ_iff_lt_or_eq.1 hj with hj | rfl
   ·exact hno j hj
   ·exact hp
 ·have hge:k=xs.length:=by simp at hc;omega
  subst hge
  refine run ?_
  refine fin1 ?_
  rw [dF hno]
theorem Nr {w:World} {F:Nat} {us:List Value} (p:Nat→Bool) (xs:List (Nat)) (v:Value) (h:aF w v 1 (xs.map uV)) (hF:∀ x,x∈xs→∀ w',rE w w'→Fn Tryz.prog F ([]++[Value.int .u64 (x:Int)]++us).toArray w' [] (fun u _=>u=.bool (p x))) (bH:mem iF F=true:=by rfl):
  Fn Tryz.prog 172 [v,.func (.func F) [].toArray us.toArray].toArray w [] (fun u _=>u=.int .i64 (jb p xs)):=by
 obtain ⟨q,cap,rfl,hne,hle⟩:=h.opened
 refine enter Tryz.func172 ?_
 refine run ?_
 refine aX (σ:=Nat) (fun k=>[(8,.int .i64 (k:Int))]) (fun _=>[]) (fun k=>k≤xs.length∧∀ j,j<k→p (xs.getD j default)=false) (fun k=>xs.length - k) 0 ⟨Nat.zero_le _,fun j hj=>absurd hj be5⟩ ?_
 rintro k m rfl ⟨hk,hno⟩
 refine run ?_
 refine ah _ rfl (fun hc=>?_) (fun hc=>?_)
 ·have hlt:k<xs.length:=by simpa using hc
  obtain ⟨b,o,rfl⟩:=hne be'
  have hr:=au (h.row hlt)
  simp only [Nat.mul_one] at hr
  refine run ?_
  refine jM (fun wc hG=>hF (xs.getD k default) (getD_mem hlt) wc ⟨_,hG⟩) (bH:=bH) ?_
  refine run ?_
  refine ah _ rfl (fun hp=>?_) (fun hp=>?_)
  ·refine run ?_
   refine fin1 ?_
   rw [fB hlt hp hno]
  ·refine run ?_
   refine aK (k + 1) ⟨hlt,fun j hj=>?_⟩
   rcases Nat.lt_succ_iff_lt_or_eq.1 hj with hj | rfl
   ·exact hno j hj
   ·exact hp
 ·have hge:k=xs.length:=by simp at hc;omega
  subst hge
  refine run ?_
  refine fin1 ?_
  rw [dF hno]
theorem Es {w:World} {F:Nat} {us:List Value} (p:XB→Bool) (xs:List (XB)) (v:Value) (h:aF w v 3 (xs.map O1)) (hF:∀ x,x∈xs→∀ w',rE w w'→Fn Tryz.prog F ([]++[Value.agg (O1 x).toArray]++us).toArray w' [] (fun u _=>u=.bool (p x))) (bH:mem iF F=true:=by rfl):
  Fn Tryz.prog 242 [v,.func (.func F) [].toArray us.toArray].toArray w [] (fun u _=>u=.bool (xs.any p)):=by
 refine enter Tryz.func242 ?_
 refine run ?_
 refine ak (fun wc hG=>Nk p xs v (h.good hG) (fun x hx w' ha=>hF x hx w' ?_) bH) ?_
 ·obtain ⟨hp,hg⟩:=ha
  exact ⟨_,hG.trans hg⟩
 refine run ?_
 refine fin1 ?_
 rw [← iY]
theorem Et {w:World} {F:Nat} {us:List Value} (p:jv→Bool) (xs:List (jv)) (v:Value) (h:aF w v 2 (xs.map dS)) (hF:∀ x,x∈xs→∀ w',rE w w'→Fn Tryz.prog F ([]++[Value.agg (dS x).toArray]++us).toArray w' [] (fun u _=>u=.bool (p x))) (bH:mem iF F=true:=by rfl):
  Fn Tryz.prog 183 [v,.func (.func F) [].toArray us.toArray].toArray w [] (fun u _=>u=.bool (xs.any p)):=by
 refine enter Tryz.func183 ?_
 refine run ?_
 refine ak (fun wc hG=>Nl p xs v (h.good hG) (fun x hx w' ha=>hF x hx w' ?_) bH) ?_
 ·obtain ⟨hp,hg⟩:=ha
  exact ⟨_,hG.trans hg⟩
 refine run ?_
 refine fin1 ?_
 rw [← iY]
theorem Eu {w:World} {F:Nat} {us:List Value} (p:Iy→Bool) (xs:List (Iy)) (v:Value) (h:aF w v 16 (xs.map Fg)) (hF:∀ x,x∈xs→∀ w',rE w w'→Fn Tryz.prog F ([]++[Value.agg (Fg x).toArray]++us).toArray w' [] (fun u _=>u=.bool (p x))) (bH:mem iF F=true:=by rfl):
  Fn Tryz.prog 78 [v,.func (.func F) [].toArray us.toArray].toArray w [] (fun u _=>u=.bool (xs.any p)):=by
 refine enter Tryz.func78 ?_
 refine run ?_
 refine ak (fun wc hG=>Np p xs v (h.good hG) (fun x hx w' ha=>hF x hx w' ?_) bH) ?_
 ·obtain ⟨hp,hg⟩:=ha
  exact ⟨_,hG.trans hg⟩
 refine run ?_
 refine fin1 ?_
 rw [← iY]
theorem vN {w:World} {F:Nat} {us:List Value} (p:jH→Bool) (xs:List (jH)) (v:Value) (h:aF w v 6 (xs.map zO)) (hF:∀ x,x∈xs→∀ w',rE w w'→Fn Tryz.prog F ([]++[Value.agg (zO x).toArray]++us).toArray w' [] (fun u _=>u=.bool (p x))) (bH:mem iF F=true:=by rfl):
  Fn Tryz.prog 80 [v,.func (.func F) [].toArray us.toArray].toArray w [] (fun u _=>u=.bool (xs.any p)):=by
 refine enter Tryz.func80 ?_
 refine run ?_
 refine ak (fun wc hG=>Nq p xs v (h.good hG) (fun x hx w' ha=>hF x hx w' ?_) bH) ?_
 ·obtain ⟨hp,hg⟩:=ha
  exact ⟨_,hG.trans hg⟩
 refine run ?_
 refine fin1 ?_
 rw [← iY]
theorem Ew {w:World} {F:Nat} {us:List Value} (p:Nat→Bool) (xs:List (Nat)) (v:Value) (h:aF w v 1 (xs.map uV)) (hF:∀ x,x∈xs→∀ w',rE w w'→Fn Tryz.prog F ([]++[Value.int .u64 (x:Int)]++us).toArray w' [] (fun u _=>u=.bool (p x))) (bH:mem iF F=true:=by rfl):
  Fn Tryz.prog 86 [v,.func (.func F) [].toArray us.toArray].toArray w [] (fun u _=>u=.bool (xs.any p)):=by
 refine enter Tryz.func86 ?_
 refine run ?_
 refine ak (fun wc hG=>Nr p xs v (h.good hG) (fun x hx w' ha=>hF x hx w' ?_) bH) ?_
 ·obtain ⟨hp,hg⟩:=ha
  exact ⟨_,hG.trans hg⟩
 refine run ?_
 refine fin1 ?_
 rw [← iY]
theorem Ey {w:World} {F:Nat} {us:List Value} (p:iU→Bool) (xs:List (iU)) (v:Value) (h:aF w v 14 (xs.map kE)) (hF:∀ x,x∈xs→∀ w',rE w w'→Fn Tryz.prog F ([]++[Value.agg (kE x).toArray]++us).toArray w' [] (fun u _=>u=.bool (p x))) (bH:mem iF F=true:=by rfl):
  Fn Tryz.prog 91 [v,.func (.func F) [].toArray us.toArray].toArray w [] (fun u _=>u=.bool (xs.any p)):=by
 refine enter Tryz.func91 ?_
 refine run ?_
 refine ak (fun wc hG=>Dz p xs v (h.good hG) (fun x hx w' ha=>hF x hx w' ?_) bH) ?_
 ·obtain ⟨hp,hg⟩:=ha
  exact ⟨_,hG.trans hg⟩
 refine run ?_
 refine fin1 ?_
 rw [← iY]
theorem aF2 (a x:jv):aW (dS a) (dS x)=(decide (x.mid=a.mid) && decide (x.gU=a.gU)):=by
 rw [Bool.eq_iff_iff,Bool.and_eq_true,decide_eq_true_eq,decide_eq_true_eq]
 simp only [dS,aW,kF,Bool.and_eq_true,decide_eq_true_eq,and_true]
 exact ⟨fun h=>⟨h.1.symm,h.2.symm⟩,fun h=>⟨h.1.symm,h.2.symm⟩⟩
theorem Rl {w:World} (a:jv) (xs:List jv) (v:Value) (h:aF w v 2 (xs.map dS)):
  Fn Tryz.prog 254 [v,.agg (dS a).toArray].toArray w [] (fun u _=>u=.int .i64 (jb (fun t=>decide (t.mid=a.mid) && decide (t.gU=a.gU)) xs)):=by
 obtain ⟨q,cap,rfl,hne,hle⟩:=h.opened
 refine enter Tryz.func254 ?_
 refine run ?_
 intro B
 refine run ?_
 refine aX (σ:=Nat) (fun k=>[(8,.int .i64 (k:Int))]) (fun _=>[⟨B,(dS a).toArray,148⟩]) (fun k=>k≤xs.length∧∀ j,j<k→(decide ((xs.getD j default).mid=a.mid) && decide ((xs.getD j default).gU=a.gU))=false) (fun k=>xs.length - k) 0 ⟨Nat.zero_le _,fun j hj=>absurd hj be5⟩ ?_
 rintro k m rfl ⟨hk,hno⟩
 refine run ?_
 refine ah _ rfl (fun hc=>?_) (fun hc=>?_)
 ·have hlt:k<xs.length:=by simpa using hc
  obtain ⟨b,o,rfl⟩:=hne be'
  have hr:=h.row hlt
  refine run ?_
  refine kC ?_
  refine bZ ?_
  refine run ?_
  try rw [show List.take 2 (dS a)=dS a from rfl]
  rw [aF2]
  refine ah _ rfl (fun hp=>?_) (fun hp=>?_)
  ·refine run ?_
   refine fin1 ?_
   rw [fB hlt hp hno]
  ·refine run ?_
   refine aK (k + 1) ⟨hlt,fun j hj=>?_⟩
   rcases Nat.lt_succ_iff_lt_or_eq.1 hj with hj | rfl
   ·exact hno j hj
   ·exact hp
 ·have hge:k=xs.length:=by simp at hc;omega
  subst hge
  refine run ?_
  refine fin1 ?_
  rw [dF hno]
theorem Hr {w:World} (a:jv) (xs:List jv) (v:Value) (h:aF w v 2 (xs.map dS)):
  Fn Tryz.prog 170 [v,.agg (dS a).toArray].toArray w [] (fun u _=>u=.bool (xs.any fun t=>decide (t.mid=a.mid) && decide (t.gU=a.gU))):=by
 refine enter Tryz.func170 ?_
 refine run ?_
 intro B
 refine run ?_
 refine ak (fun wc hG=>Rl a xs v (h.good hG)) ?_
 refine run ?_
 refine fin1 ?_
 rw [← iY]
theorem JR {w:World} (v:Value) (xs:List (List Value)) (h:aF w v 19 xs) (hall:∀ c∈xs,c.length=19∧c.all (·.oneCell')=true) (hl:xs.length<1000000):Fn Tryz.prog 115 [v].toArray w [] (fun u hn=>Own 84 19 u hn xs):=by
 obtain ⟨⟨q,cap,rfl,hne⟩,_⟩:=h
 refine enter Tryz.func115 ?_
 refine run ?_
 refine ja be8 (lW ay rfl rfl) ?_
 refine run ?_
 refine ah _ rfl (fun hp=>?_) (fun hp=>?_)
 ·obtain rfl:xs=[]:=by
   rcases Classical.em (xs=[]) with h | h
   ·exact h
   ·obtain ⟨b,o,rfl,_⟩:=hne h;cases hp
  refine run ?_
  refine fin1 ?_
  exact ⟨by simp,.inl ⟨rfl,rfl,rfl⟩⟩
 refine run ?_
 refine gI ay be8 be8 (fun g=>?_)
 refine run ?_
 rcases Classical.em (xs=[]) with rfl | hx
 ·cases q with
  | none=>cases hp
  | some q=>
  refine ja be8 (gG ay (iE:=0) rfl rfl rfl (Nat.le_refl _)) ?_
  refine run ?_
  refine fin1 ?_
  exact ⟨by simp,.inr ⟨g,0,#[],rfl,rfl,⟨rfl,Nat.le_refl _,by decide,rfl,rfl⟩⟩⟩
 ·obtain ⟨b,o,rfl,hr⟩:=hne hx
  refine dZ ay be8 rfl ⟨rfl,Nat.le_refl _,by decide,rfl,rfl⟩ rfl rfl rfl rfl rfl rfl (.refl _) rfl hall hr be7 hl (fun v' ha' hA=>?_)
  refine run ?_
  refine fin1 ?_
  rw [List.append_nil]
  exact hA
theorem Ns {w:World} (v:Value) (xs:List (List Value)) (h:aF w v 6 xs) (hall:∀ c∈xs,c.length=6∧c.all (·.oneCell')=true) (hl:xs.length<1000000):Fn Tryz.prog 116 [v].toArray w [] (fun u hn=>Own 111 6 u hn xs):=by
 obtain ⟨⟨q,cap,rfl,hne⟩,_⟩:=h
 refine enter Tryz.func116 ?_
 refine run ?_
 refine ja be8 (lW ay rfl rfl) ?_
 refine run ?_
 refine ah _ rfl (fun hp=>?_) (fun hp=>?_)
 ·obtain rfl:xs=[]:=by
   rcases Classical.em (xs=[]) with h | h
   ·exact h
   ·obtain ⟨b,o,rfl,_⟩:=hne h;cases hp
  refine run ?_
  refine fin1 ?_
  exact ⟨by simp,.inl ⟨rfl,rfl,rfl⟩⟩
 refine run ?_
 refine gI ay be8 be8 (fun g=>?_)
 refine run ?_
 rcases Classical.em (xs=[]) with rfl | hx
 ·cases q with
  | none=>cases hp
  | some q=>
  refine ja be8 (gG ay (iE:=0) rfl rfl rfl (Nat.le_refl _)) ?_
  refine run ?_
  refine fin1 ?_
  exact ⟨by simp,.inr ⟨g,0,#[],rfl,rfl,⟨rfl,Nat.le_refl _,by decide,rfl,rfl⟩⟩⟩
 ·obtain ⟨b,o,rfl,hr⟩:=hne hx
  refine dZ ay be8 rfl ⟨rfl,Nat.le_refl _,by decide,rfl,rfl⟩ rfl rfl rfl rfl rfl rfl (.refl _) rfl hall hr be7 hl (fun v' ha' hA=>?_)
  refine run ?_
  refine fin1 ?_
  rw [List.append_nil]
  exact hA
theorem JS {w:World} (v:Value) (xs:List (List Value)) (h:aF w v 15 xs) (hall:∀ c∈xs,c.length=15∧c.all (·.oneCell')=true) (hl:xs.length<1000000):Fn Tryz.prog 117 [v].toArray w [] (fun u hn=>Own 78 15 u hn xs):=by
 obtain ⟨⟨q,cap,rfl,hne⟩,_⟩:=h
 refine enter Tryz.func117 ?_
 refine run ?_
 refine ja be8 (lW ay rfl rfl) ?_
 refine run ?_
 refine ah _ rfl (fun hp=>?_) (fun hp=>?_)
 ·obtain rfl:xs=[]:=by
   rcases Classical.em (xs=[]) with h | h
   ·exact h
   ·obtain ⟨b,o,rfl,_⟩:=hne h;cases hp
  refine run ?_
  refine fin1 ?_
  exact ⟨by simp,.inl ⟨rfl,rfl,rfl⟩⟩
 refine run ?_
 refine gI ay be8 be8 (fun g=>?_)
 refine run ?_
 rcases Classical.em (xs=[]) with rfl | hx
 ·cases q with
  | none=>cases hp
  | some q=>
  refine ja be8 (gG ay (iE:=0) rfl rfl rfl (Nat.le_refl _)) ?_
  refine run ?_
  refine fin1 ?_
  exact ⟨by simp,.inr ⟨g,0,#[],rfl,rfl,⟨rfl,Nat.le_refl _,by decide,rfl,rfl⟩⟩⟩
 ·obtain ⟨b,o,rfl,hr⟩:=hne hx
  refine dZ ay be8 rfl ⟨rfl,Nat.le_refl _,by decide,rfl,rfl⟩ rfl rfl rfl rfl rfl rfl (.refl _) rfl hall hr be7 hl (fun v' ha' hA=>?_)
  refine run ?_
  refine fin1 ?_
  rw [List.append_nil]
  exact hA
theorem Ht {w:World} (v:Value) (xs:List (List Value)) (h:aF w v 16 xs) (hall:∀ c∈xs,c.length=16∧c.all (·.oneCell')=true) (hl:xs.length<1000000):Fn Tryz.prog 120 [v].toArray w [] (fun u hn=>Own 131 16 u hn xs):=by
 obtain ⟨⟨q,cap,rfl,hne⟩,_⟩:=h
 refine enter Tryz.func120 ?_
 refine run ?_
 refine ja be8 (lW ay rfl rfl) ?_
 refine run ?_
 refine ah _ rfl (fun hp=>?_) (fun hp=>?_)
 ·obtain rfl:xs=[]:=by
   rcases Classical.em (xs=[]) with h | h
   ·exact h
   ·obtain ⟨b,o,rfl,_⟩:=hne h;cases hp
  refine run ?_
  refine fin1 ?_
  exact ⟨by simp,.inl ⟨rfl,rfl,rfl⟩⟩
 refine run ?_
 refine gI ay be8 be8 (fun g=>?_)
 refine run ?_
 rcases Classical.em (xs=[]) with rfl | hx
 ·cases q with
  | none=>cases hp
  | some q=>
  refine ja be8 (gG ay (iE:=0) rfl rfl rfl (Nat.le_refl _)) ?_
  refine run ?_
  refine fin1 ?_
  exact ⟨by simp,.inr ⟨g,0,#[],rfl,rfl,⟨rfl,Nat.le_refl _,by decide,rfl,rfl⟩⟩⟩
 ·obtain ⟨b,o,rfl,hr⟩:=hne hx
  refine dZ ay be8 rfl ⟨rfl,Nat.le_refl _,by decide,rfl,rfl⟩ rfl rfl rfl rfl rfl rfl (.refl _) rfl hall hr be7 hl (fun v' ha' hA=>?_)
  refine run ?_
  refine fin1 ?_
  rw [List.append_nil]
  exact hA
theorem VP (v:Nat→Value):∀ k:Nat,k<4→(#[v 0,v 1,v 2,v 3]:Array Value)[k]?=some (v k):=by
 intro k hk
 have:k=0∨k=1∨k=2∨k=3:=by omega
 rcases this with rfl | rfl | rfl | rfl<;>rfl
def HyD.qF (H:HyD) (f s:Int) (i:Nat):Bool:=(H.msA i).any fun m=>decide (m.gU=f) && decide (m.soft=s)
theorem Nu (H:HyD) (f s:Int):H.ry f s=if H.qF f s 0 then 1 else if H.qF f s 1 then 2 else if H.qF f s 2 then 3 else if H.qF f s 3 then 4 else 0:=by
 unfold HyD.ry
 simp only [PtD.idx]
 change (match (bif H.qF f s 0 then some 0 else bif H.qF f s 1 then some 1 else bif H.qF f s 2 then some 2 else bif H.qF f s 3 then some 3 else none:Option Nat) with | some i=>(i:Int) + 1 | none=>0)=_
 cases H.qF f s 0<;>cases H.qF f s 1<;>cases H.qF f s 2<;>cases H.qF f s 3<;>rfl
theorem ak0 {H:HyD} {f s:Int} {k:Nat} (hk:k<4) (h:H.qF f s k=true) (hn:∀ j,j<k→H.qF f s j=false):H.ry f s=(k:Int) + 1:=by
 rw [Nu]
 have:k=0∨k=1∨k=2∨k=3:=by omega
 rcases this with rfl | rfl | rfl | rfl
 ·simp [h]
 ·simp [h,hn 0 be5]
 ·simp [h,hn 0 be5,hn 1 be5]
 ·simp [h,hn 0 be5,hn 1 be5,hn 2 be5]
theorem ak1 {H:HyD} {f s:Int} (hn:∀ j,j<4→H.qF f s j=false):H.ry f s=0:=by
 rw [Nu,hn 0 be5,hn 1 be5,hn 2 be5,hn 3 be5];rfl
theorem VQ (H:HyD) (f s:Int):0≤H.ry f s∧H.ry f s≤4:=by
 rw [Nu]
 cases H.qF f s 0<;>cases H.qF f s 1<;>cases H.qF f s 2<;>cases H.qF f s 3<;>simp
theorem Y6 (m:XB) (f s:Int) (Y Z:Nat) (w:World) (hY:w.cell? ⟨Y,0,none⟩=some (.int .i64 f)) (hZ:w.cell? ⟨Z,0,none⟩=some (.int .i64 s)):Fn Tryz.prog 243 ([]++[Value.agg (O1 m).toArray]++[Value.pointer (some ⟨Y,0,none⟩),.pointer (some ⟨Z,0,none⟩)]).toArray w [] (fun u _=>u=.bool (decide (m.gU=f) && decide (m.soft=s))):=by
 refine enter Tryz.func243 ?_
 refine run ?_
 intro B
 refine aI ?_
 exact fin1 rfl
theorem O7 {w:World} {X:Nat} {mv:Nat→Value} {H:HyD} (h:w.rangeAt X 4 [mv 0,mv 1,mv 2,mv 3]) (hm:∀ i,i<4→aF w (mv i) 3 ((H.msA i).map O1)) (f s:Int):Fn Tryz.prog 153 [.pointer (some ⟨X,0,none⟩),.int .i64 f,.int .i64 s].toArray w [] (fun u _=>u=.int .i64 (H.ry f s)):=by
 refine enter Tryz.func153 ?_
 refine run ?_
 intro Y Z
 refine aX (σ:=Nat) (fun k=>[(13,.int .i64 (k:Int))]) (fun _=>[⟨Z,#[.int .i64 s],3⟩,⟨Y,#[.int .i64 f],3⟩]) (fun k=>k≤4∧∀ j,j<k→H.qF f s j=false) (fun k=>4 - k) 0 ⟨Nat.zero_le _,fun j hj=>absurd hj (Nat.not_lt_zero _)⟩ ?_
 rintro k m hm2 ⟨hk,hK⟩
 refine run ?_
 refine ah _ rfl (fun hc=>?_) (fun hc=>?_)
 ·have hk3:k<4:=by simp at hc;omega
  refine run ?_
  refine ja be8 (Dj rfl rfl rfl rfl be5 be5 (VP mv k hk3)) ?_
  refine run ?_
  refine ak (fun wc hG=>Es (us:=[.pointer (some ⟨Y,0,none⟩),.pointer (some ⟨Z,0,none⟩)]) (fun m=>decide (m.gU=f) && decide (m.soft=s)) (H.msA k) (mv k) ((hm k hk3).good hG) (fun m _ w' ha=>Y6 m f s Y Z w' ?_ ?_)) ?_
  ·obtain ⟨hp,hg⟩:=ha
   exact hg.cell (by rw [cell_of_block (hG.here ⟨Y,#[.int .i64 f],3⟩ be7)];rfl) be7
  ·obtain ⟨hp,hg⟩:=ha
   exact hg.cell (by rw [cell_of_block (hG.here ⟨Z,#[.int .i64 s],3⟩ be7)];rfl) be7
  refine run ?_
  refine ah _ rfl (fun hd=>?_) (fun hd=>?_)
  ·refine run ?_
   refine fin1 ?_
   rw [ak0 hk3 hd hK];rfl
  ·refine az ?_
   refine aK (k + 1) ⟨hk3,fun j hj=>?_⟩
   by_cases e:j=k
   ·subst e;exact hd
   ·exact hK j be5
 ·have hk4:k=4:=by simp at hc;omega
  subst hk4
  refine run ?_
  refine fin1 ?_
  rw [ak1 hK]
theorem Y7 {w:World} {X:Nat} {wv cv vv rv:Value} {mv:Nat→Value} {H:HyD} (h:w.rangeAt X 0 [wv,cv,vv,rv,mv 0,mv 1,mv 2,mv 3]) (hms:∀ i,i<4→aF w (mv i) 3 ((H.msA i).map O1)) (hw:lu H.ws) (hs:aF w wv 1 (H.ws.map uV)) (hm:fK H.ws.length=true) (f:Nat) (hf:f≤4095):Fn Tryz.prog 71 [.pointer (some ⟨X,0,none⟩),.int .i64 (f:Int)].toArray w [] (fun u _=>u=.agg #[.int .i64 (H.kP f).own,.int .i64 (H.kP f).wit]):=by
 have h0:w.rangeAt X 0 [wv]:=bg (k:=0) (n:=1) h rfl
 have h4:w.rangeAt X 4 [mv 0,mv 1,mv 2,mv 3]:=bg (k:=4) (n:=4) h rfl
 refine enter Tryz.func71 ?_
 refine run ?_
 intro R O
 refine run ?_
 refine ak (fun wc hG=>G7 H.ws hw (hs.good hG) hm 0 f hf) ?_
 unfold HyD.kP
 generalize kJ H.ws 0 f=g
 refine run ?_
 intro D
 dsimp only
 refine ah _ rfl (fun hc=>?_) (fun hc=>?_)
 ·rw [hc,cond_true]
  refine run ?_
  exact eF (cs:=#[.int .i64 (-1),.int .i64 (-2)]) rfl
 rw [hc,cond_false]
 refine aI ?_
 refine ah _ rfl (fun hc2=>?_) (fun hc2=>?_)
 ·rw [hc2,cond_true]
  refine run ?_
  exact eF (cs:=#[.int .i64 0,.int .i64 (-2)]) rfl
 rw [hc2,cond_false]
 refine aI ?_
 refine ah _ rfl (fun hc3=>?_) (fun hc3=>?_)
 ·rw [hc3,cond_true]
  refine run ?_
  refine ak (fun wc hG=>O7 (hG.range h4 List.not_mem_nil) (fun i hi=>(hms i hi).good hG) f 2) ?_
  generalize H.ry f 2=n
  refine run ?_
  refine ah _ rfl (fun hd=>?_) (fun hd=>?_)
  ·rw [hd,cond_true]
   refine run ?_
   exact eF (cs:=#[.int .i64 0,.int .i64 n]) rfl
  ·rw [hd,cond_false]
   refine run ?_
   exact eF (cs:=#[.int .i64 0,.int .i64 (-1)]) rfl
 rw [hc3,cond_false]
 refine aI ?_
 refine ah _ rfl (fun hc4=>?_) (fun hc4=>?_)
 ·rw [hc4,cond_true]
  refine run ?_
  refine ak (fun wc hG=>O7 (hG.range h4 List.not_mem_nil) (fun i hi=>(hms i hi).good hG) f 1) ?_
  generalize H.ry f 1=n
  refine run ?_
  refine ah _ rfl (fun hd=>?_) (fun hd=>?_)
  ·rw [hd,cond_true]
   refine run ?_
   exact eF (cs:=#[.int .i64 n,.int .i64 0]) rfl
  ·rw [hd,cond_false]
   refine az ?_
   exact eF (cs:=#[.int .i64 (-1),.int .i64 (-2)]) rfl
 rw [hc4,cond_false]
 refine aI ?_
 refine ah _ rfl (fun hc5=>?_) (fun hc5=>?_)
 ·rw [hc5,cond_true]
  have hn:1<g.d.note∧g.d.note≤5:=by simp at hc5;omega
  refine run ?_
  exact eF (cs:=#[.int .i64 (g.d.note - 1),.int .i64 (-2)]) rfl
 rw [hc5,cond_false]
 refine run ?_
 exact eF (cs:=#[.int .i64 (-1),.int .i64 (-2)]) rfl
theorem oH {α:Type} [Inhabited α] (l:List α) {k:Nat} (h:k<l.length):l[k]=l.getD k default:=by
 rw [List.getD_eq_getElem?_getD,List.getElem?_eq_getElem h];rfl
structure wH (w:World) (X:Nat) (wv cv vv rv:Value) (mv:Nat→Value) (H:HyD):Prop where
 x:w.rangeAt X 0 [wv,cv,vv,rv,mv 0,mv 1,mv 2,mv 3]
 h:MX w wv cv vv rv H
 m:∀ i,i<4→aF w (mv i) 3 ((H.msA i).map O1)
 ok:H.kK=true
theorem wH.good {w w':World} {hp:Hp} {X:Nat} {wv cv vv rv:Value} {mv:Nat→Value} {H:HyD} (h:wH w X wv cv vv rv mv H) (hG:Good w [] hp w'):wH w' X wv cv vv rv mv H:=⟨hG.range h.x List.not_mem_nil,h.h.good hG,fun i hi=>(h.m i hi).good hG,h.ok⟩
structure JU (H:HyD):Prop where
 m:fK H.ws.length=true
 f:24≤H.ws.length / 8
 c1:1≤H.cs.length
 c3:H.cs.length≤3
 r:H.rs.length=H.cs.length
 v:H.vs.length=4
theorem nN {H:HyD} (h:H.kK=true):JU H:=by
 simp only [HyD.kK,Bool.and_eq_true,decide_eq_true_eq] at h
 obtain ⟨⟨⟨⟨a,b⟩,c,d⟩,e⟩,f⟩:=h
 exact ⟨a,b,c,d,e,f⟩
theorem VR {w:World} {X:Nat} {wv cv vv rv:Value} {mv:Nat→Value} {H:HyD} (h:wH w X wv cv vv rv mv H) (i:Nat) (hi:i<4):Fn Tryz.prog 72 [.pointer (some ⟨X,0,none⟩),.int .i64 (i:Int)].toArray w [] (fun u hn=>∃ v1 h1 v2 h2,u=.agg #[.bool (H.bW i).live,.bool (H.bW i).dying,.int .i64 (H.bW i).first,v1,v2]∧Own 3 1 v1 h1 ((H.bW i).aN.map dA)∧Own 148 2 v2 h2 ((H.bW i).maps.map dS)∧aC (h1++h2) hn):=by
 have hL:=nN h.ok
 have h2:w.rangeAt X 2 [vv]:=bg (k:=2) (n:=1) h.x rfl
 have h2':=au h2
 have h4:w.rangeAt X 4 [mv 0,mv 1,mv 2,mv 3]:=bg (k:=4) (n:=4) h.x rfl
 have h4i:w.cell? ⟨X,4 + i,none⟩=some (mv i):=by
  have:i=0∨i=1∨i=2∨i=3:=by omega
  rcases this with rfl | rfl | rfl | rfl
  ·exact h4 0 _ rfl
  ·exact h4 1 _ rfl
  ·exact h4 2 _ rfl
  ·exact h4 3 _ rfl
 have hms:=h.m i hi
 obtain ⟨cs,vs,e1,e2,_,hH⟩:=h.h.ex
 have hvl:vs.length=4:=by rw [← hL.v,← e2,List.length_map]
 have hfit:=h.h.fit.v (H.vu i) (getD_mem (by rw [hL.v];exact hi))
 have hop:=hH.vs.rows.opened
 rw [hvl] at hop
 obtain ⟨q,cap,rfl,hne,_⟩:=hop
 obtain ⟨b,o,rfl⟩:=hne bh'
 have hr:=hH.vs.rows.row (k:=i) be5
 have hfs:=hH.vs.fs _ (getD_mem (l:=vs) (k:=i) be5)
 have nP:=hH.vs.vs _ (getD_mem (l:=vs) (k:=i) be5)
 have hu:=Dy e2 i
 rw [show H.vs.getD i default=H.vu i from rfl] at hu
 have aF3:(H.msA i).length≤4096:=by unfold HyD.msA;rw [List.length_map];exact Hl H i
 obtain ⟨g,hg⟩:∃ g,g=H.bW i:=⟨_,rfl⟩
 rw [← hg]
 unfold HyD.bW at hg
 rw [← hu] at hfit hg
 have hmm:H.JI i=(H.msA i).map fun m=>⟨m.mid,m.gU⟩:=by unfold HyD.msA;rw [List.map_map];exact (List.map_id _).symm
 rw [hmm] at hg
 generalize H.msA i=ms at hms aF3 hg
 generalize vs.getD i default=v at *
 simp only [jH.u,qK.root] at hfit hg
 refine enter Tryz.func72 ?_
 refine run ?_
 intro G V Q
 refine ah _ rfl (fun hc=>?_) (fun hc=>?_)
 ·have hlf:v.live=false:=by simpa using hc
  refine run ?_
  refine eF (cs:=#[.bool v.live,.bool v.dying,.int .i64 0,.slice none 0 0,.slice none 0 0]) ?_
  rw [hlf,cond_false] at hg
  rw [hg,hlf]
  exact ⟨_,[],_,[],rfl,Own.nil _ _,Own.nil _ _,by (exact aj)⟩
 have hlt:v.live=true:=by simpa using hc
 rw [hlt,cond_true] at hg
 rw [hlt]
 refine run ?_
 have aF4:=hfs.opened
 refine Gg (σ:=Int) (fun _=>[]) (fun z=>[⟨Q,#[.bool true,.bool v.dying,.int .i64 z,.slice none 0 0,.slice none 0 0],129⟩,⟨V,#[.bool true,.bool v.dying,.int .i64 v.aO,v.fv,v.rv,v.vv],111⟩,⟨G,#[.bool false,.bool false,.int .i64 0,.slice none 0 0,.slice none 0 0],129⟩]) (fun z=>z=bif decide (0<v.fs.length) then v.fs.getD 0 0 else 0) ?_ ?_
 ·refine ah _ rfl (fun hc2=>?_) (fun hc2=>?_)
  ·have h0:0<v.fs.length:=by simpa using hc2
   obtain ⟨qf,cf,ef,Nv,_⟩:=aF4
   obtain ⟨bf,XD,rfl⟩:=Nv (by intro e;rw [e] at h0;simp at h0)
   rw [ef] at hfs ⊢
   have hrf:=au (hfs.row h0)
   simp only [Nat.mul_one] at hrf
   refine run ?_
   exact Cj (v.fs.getD 0 0) (by rw [decide_eq_true h0,cond_true])
  ·have h0:¬ 0<v.fs.length:=by simpa using hc2
   refine run ?_
   exact Cj 0 (by rw [decide_eq_false h0,cond_false])
 rintro z hz
 replace hg:g=⟨true,v.dying,z,v.vs.map Iy.on,ms.map fun m=>⟨m.mid,m.gU⟩⟩:=by rw [hg,hz];rfl
 refine run ?_
 have aF5:=nP.opened
 obtain ⟨qv,XE,ev,aF6,_⟩:=aF5
 rw [ev]
 refine aX (σ:=Nat × Value × Hp) (fun s=>[(40,.int .i64 (s.1:Int))]) (fun s=>⟨Q,#[.bool true,.bool v.dying,.int .i64 z,s.2.1,.slice none 0 0],129⟩::⟨V,#[.bool true,.bool v.dying,.int .i64 v.aO,v.fv,v.rv,.slice qv v.vs.length XE],111⟩::⟨G,#[.bool false,.bool false,.int .i64 0,.slice none 0 0,.slice none 0 0],129⟩::s.2.2) (fun s=>s.1≤v.vs.length∧Own 3 1 s.2.1 s.2.2 (((v.vs.take s.1).map Iy.on).map dA)) (fun s=>v.vs.length - s.1) (0,.slice none 0 0,[]) ⟨Nat.zero_le _,Own.nil _ _⟩ ?_ (hh:=by dsimp only;(exact aj))
 rintro ⟨k,gv,ha⟩ m hm ⟨hk,hA⟩
 dsimp only at hm hk hA ⊢
 refine run ?_
 refine ah _ rfl (fun hc2=>?_) (fun hc2=>?_)
 ·have hkl:k<v.vs.length:=by simp at hc2;omega
  obtain ⟨bv,ov,rfl⟩:=aF6 (by intro e;rw [e] at hkl;simp at hkl)
  rw [ev] at nP
  have hrv:=nP.row hkl
  refine run ?_
  intro B1 B2
  refine aP (⟨B2,#[.int .i64 (v.vs.getD k default).on],3⟩::⟨Q,#[.bool true,.bool v.dying,.int .i64 z,gv,.slice none 0 0],129⟩::⟨V,#[.bool true,.bool v.dying,.int .i64 v.aO,v.fv,v.rv,.slice (some ⟨bv,ov,none⟩) v.vs.length XE],111⟩::⟨G,#[.bool false,.bool false,.int .i64 0,.slice none 0 0,.slice none 0 0],129⟩::ha) aj ?_
  refine xM (c:=[.int .i64 (v.vs.getD k default).on]) (⟨B2,#[.int .i64 (v.vs.getD k default).on],3⟩::⟨Q,#[.bool true,.bool v.dying,.int .i64 z,gv,.slice none 0 0],129⟩::⟨V,#[.bool true,.bool v.dying,.int .i64 v.aO,v.fv,v.rv,.slice (some ⟨bv,ov,none⟩) v.vs.length XE],111⟩::[⟨G,#[.bool false,.bool false,.int .i64 0,.slice none 0 0,.slice none 0 0],129⟩]) hA (fun v' ha' hA2=>?_) bf2 (bQ (m:=1) mh rfl) (hperm:=by (exact aJ))
  obtain ⟨q9,c9,e9⟩:=hA2.opened
  subst e9
  refine aP (⟨Q,#[.bool true,.bool v.dying,.int .i64 z,gv,.slice none 0 0],129⟩::⟨V,#[.bool true,.bool v.dying,.int .i64 v.aO,v.fv,v.rv,.slice (some ⟨bv,ov,none⟩) v.vs.length XE],111⟩::⟨G,#[.bool false,.bool false,.int .i64 0,.slice none 0 0,.slice none 0 0],129⟩::ha') aj ?_
  refine run ?_
  exact aK (k + 1,_,ha') ⟨hkl,by dsimp only;rw [List.take_succ_eq_append_getElem hkl,List.map_append,List.map_append,List.map_singleton,List.map_singleton,oH v.vs hkl];exact hA2⟩ (hm:=by dsimp only;omega) (h2:=by (exact aj))
 have hke:k=v.vs.length:=by simp at hc2;omega
 subst hke
 rw [List.take_length] at hA
 obtain ⟨qa,ca,xa⟩:=hA.opened
 simp only [List.length_map] at xa
 subst xa
 obtain ⟨qm,cm,em,aF7,_⟩:=hms.opened
 rw [em] at hms h4i
 refine run ?_
 refine aX (σ:=Nat × Value × Hp) (fun s=>[(59,.int .i64 (s.1:Int))]) (fun s=>⟨Q,#[.bool true,.bool v.dying,.int .i64 z,.slice qa v.vs.length ca,s.2.1],129⟩::⟨V,#[.bool true,.bool v.dying,.int .i64 v.aO,v.fv,v.rv,.slice qv v.vs.length XE],111⟩::⟨G,#[.bool false,.bool false,.int .i64 0,.slice none 0 0,.slice none 0 0],129⟩::(ha++s.2.2)) (fun s=>s.1≤ms.length∧Own 148 2 s.2.1 s.2.2 (((ms.take s.1).map fun m=>(⟨m.mid,m.gU⟩:jv)).map dS)) (fun s=>ms.length - s.1) (0,.slice none 0 0,[]) ⟨Nat.zero_le _,Own.nil _ _⟩ ?_ (hh:=by dsimp only;(exact aj))
 rintro ⟨k,gv,hb⟩ m hm ⟨hk,hB⟩
 dsimp only at hm hk hB ⊢
 refine run ?_
 refine ah _ rfl (fun hc3=>?_) (fun hc3=>?_)
 ·have hkl:k<ms.length:=by simp at hc3;omega
  obtain ⟨bm,om,rfl⟩:=aF7 (by intro e;rw [e] at hkl;simp at hkl)
  have hrm:=hms.row hkl
  refine run ?_
  intro B1 B2
  refine aP (⟨B2,#[.int .i64 (ms.getD k default).mid,.int .i64 (ms.getD k default).gU],148⟩::⟨Q,#[.bool true,.bool v.dying,.int .i64 z,.slice qa v.vs.length ca,gv],129⟩::⟨V,#[.bool true,.bool v.dying,.int .i64 v.aO,v.fv,v.rv,.slice qv v.vs.length XE],111⟩::⟨G,#[.bool false,.bool false,.int .i64 0,.slice none 0 0,.slice none 0 0],129⟩::(ha++hb)) aj ?_
  refine xM (c:=[.int .i64 (ms.getD k default).mid,.int .i64 (ms.getD k default).gU]) (⟨B2,#[.int .i64 (ms.getD k default).mid,.int .i64 (ms.getD k default).gU],148⟩::⟨Q,#[.bool true,.bool v.dying,.int .i64 z,.slice qa v.vs.length ca,gv],129⟩::⟨V,#[.bool true,.bool v.dying,.int .i64 v.aO,v.fv,v.rv,.slice qv v.vs.length XE],111⟩::⟨G,#[.bool false,.bool false,.int .i64 0,.slice none 0 0,.slice none 0 0],129⟩::ha) hB (fun v' ha' hA2=>?_) bf2 (bQ (m:=2) mh rfl) (hperm:=by (exact aJ))
  obtain ⟨q9,c9,e9⟩:=hA2.opened
  subst e9
  refine aP (⟨Q,#[.bool true,.bool v.dying,.int .i64 z,.slice qa v.vs.length ca,gv],129⟩::⟨V,#[.bool true,.bool v.dying,.int .i64 v.aO,v.fv,v.rv,.slice qv v.vs.length XE],111⟩::⟨G,#[.bool false,.bool false,.int .i64 0,.slice none 0 0,.slice none 0 0],129⟩::(ha++ha')) aj ?_
  refine run ?_
  exact aK (k + 1,_,ha') ⟨hkl,by dsimp only;rw [List.take_succ_eq_append_getElem hkl,List.map_append,List.map_append,List.map_singleton,List.map_singleton,oH ms hkl];exact hA2⟩ (hm:=by dsimp only;omega) (h2:=by (exact aj))
 have hke:k=ms.length:=by simp at hc3;omega
 subst hke
 rw [List.take_length] at hB
 obtain ⟨qb,cb,xb⟩:=hB.opened
 simp only [List.length_map] at xb
 subst xb
 refine run ?_
 refine eF (cs:=#[.bool true,.bool v.dying,.int .i64 z,.slice qa v.vs.length ca,.slice qb ms.length cb]) ?_
 rw [hg]
 exact ⟨_,ha,_,hb,rfl,hA,hB,by (exact aj)⟩
theorem Hu {ws:List Nat} {root:Int} {q:Nat} {m:jv}:∀ {n:Nat} {xs:List jv},eH ws root q n=some xs→m∈xs→∃ k,k<n∧nC ws root (q + k)=some [m]:=by
 intro n
 induction n with
 | zero=>intro xs h hm;cases h;cases hm
 | succ n ih=>
  intro xs h hm
  rw [eH] at h
  cases h1:eH ws root q n with
  | none=>rw [h1] at h;cases h
  | some a=>
   rw [h1] at h
   dsimp only at h
   cases h2:nC ws root (q + n) with
   | none=>rw [h2] at h;cases h
   | some b=>
    rw [h2] at h
    cases h
    rcases List.mem_append.1 hm with h3 | h3
    ·obtain ⟨k,hk,e⟩:=ih h1 h3
     exact ⟨k,by omega,e⟩
    ·refine ⟨n,by omega,?_⟩
     rw [h2]
     unfold nC at h2
     dsimp only at h2
     revert h2
     cases (!(bz ws root (q + n) 3).ok) with
     | true=>intro h2;cases h2
     | false=>
      cases decide ((bz ws root (q + n) 3).d.kind=2) with
      | true=>intro h2;cases h2;rw [List.mem_singleton.1 h3]
      | false=>intro h2;cases h2;cases h3
theorem yx {ws:List Nat} {root:Int} {q:Nat} {m:jv} (h:nC ws root q=some [m]):(bz ws root q 3).ok=true∧(bz ws root q 3).d.kind=2∧m.mid=(q:Int)∧m.gU=(bz ws root q 3).d.frame + ((q % aB (bz ws root q 3).lv:Nat):Int):=by
 unfold nC at h
 dsimp only at h
 revert h
 cases (bz ws root q 3).ok with
 | false=>intro h;cases h
 | true=>
  by_cases hk:(bz ws root q 3).d.kind=2
  ·rw [decide_eq_true hk]
   intro h
   cases h
   exact ⟨rfl,hk,rfl,rfl⟩
  ·rw [decide_eq_false hk]
   intro h;cases h
theorem Y8 {H:HyD} {i:Nat} {m:jv} (h:m∈H.JI i):∃ q:Nat,q≤15∧(H.vu i).has=true∧nC H.ws (H.vu i).root q=some [m]:=by
 unfold HyD.JI at h
 cases hh:(H.vu i).has with
 | false=>rw [hh] at h;cases h
 | true=>
  rw [hh,cond_true] at h
  obtain ⟨h1,h2⟩:=List.mem_filter.1 h
  cases hp:eH H.ws (H.vu i).root 0 4096 with
  | none=>rw [hp] at h1;cases h1
  | some xs=>
   rw [hp] at h1
   obtain ⟨k,hk,e⟩:=Hu hp h1
   rw [Nat.zero_add] at e
   have:=(yx e).2.2.1
   rw [this] at h2
   exact ⟨k,by simp at h2;omega,rfl,e⟩
theorem Y9 {H:HyD} {i:Nat} {m:jv} (h:m∈H.JI i):0≤m.mid∧m.mid≤15∧0≤m.gU∧m.gU≤8191:=by
 obtain ⟨q,hq,_,e⟩:=Y8 h
 obtain ⟨h1,h2,h3,h4⟩:=yx e
 have hf:=oO h1
 have hd:=xU H.ws ((bz H.ws (H.vu i).root q 3).place q) (bz H.ws (H.vu i).root q 3).lv
 rw [← hf.d] at hd
 have:=(lX hd).2.2.2 h2
 have hm:q % aB (bz H.ws (H.vu i).root q 3).lv≤q:=Nat.mod_le _ _
 omega
end
section
attribute [local irreducible] Hy St Ops DH dG
def aw0 (r:Option (List jv)) (u:Value) (hn:Hp):Prop:=match r with
 | none=>u=.tuple #[.slice none 0 0,.bool false]
 | some xs=>∃ v h,u=.tuple #[v,.bool true]∧Own 148 2 v h (xs.map dS)∧aC h hn
end
theorem aF.ab8 {w w':World} {hp:Hp} {mu:List Nat} {b o n cap sz:Nat} {xs:List (List Value)} (h:aF w (.slice (some ⟨b,o,none⟩) n cap) sz xs) (hb:b ∉ mu) (hG:Good w mu hp w'):aF w' (.slice (some ⟨b,o,none⟩) n cap) sz xs:=by
 obtain ⟨⟨p,c,e,hp⟩,hl⟩:=h
 refine ⟨⟨p,c,e,fun hne=>?_⟩,hl⟩
 obtain ⟨b',off,rfl,hr⟩:=hp hne
 injection e with e
 injection e with e
 injection e with e1 e2
 subst e1
 exact ⟨b,off,rfl,fun i c hc=>hG.range (hr i c hc) hb⟩
theorem Good.apart {w0 w:World} {hp:Hp} {mu:List Nat} {b o n cap:Nat} {ws:List Nat} (hG:Good w0 mu hp w) (h:aF w0 (.slice (some ⟨b,o,none⟩) n cap) 1 (ws.map uV)) (hne:ws ≠ []) (hb:b ∉ mu):b ∉ hp.map (·.b):=by
 have h0:0<ws.length:=List.length_pos_iff.2 hne
 have hr:=h.row h0
 have hc:=hr 0 _ rfl
 have hlt:b<w0.heap.size:=block_lt_of_cell hc
 intro hm
 obtain ⟨e,he,rfl⟩:=List.mem_map.1 hm
 rcases hG.own e he with h1 | h1
 ·exact hb h1
 ·omega
theorem Za {ws:List Nat} {root:Int} {q:Nat}:∀ {n:Nat} {xs:List jv},eH ws root q n=some xs→xs.length≤n:=by
 intro n
 induction n with
 | zero=>intro xs h;cases h;exact Nat.le_refl _
 | succ n ih=>
  intro xs h
  rw [eH] at h
  cases h1:eH ws root q n with
  | none=>rw [h1] at h;cases h
  | some ys=>
   rw [h1] at h
   dsimp only at h
   have hy:=ih h1
   cases h2:nC ws root (q + n) with
   | none=>rw [h2] at h;cases h
   | some zs=>
    rw [h2] at h
    cases h
    have hz:zs.length≤1:=by
     unfold nC at h2
     dsimp only at h2
     cases h3:(!(bz ws root (q + n) 3).ok) with
     | true=>rw [h3] at h2;cases h2
     | false=>
      rw [h3,cond_false] at h2
      cases h4:decide ((bz ws root (q + n) 3).d.kind=2) with
      | true=>rw [h4] at h2;cases h2;exact Nat.le_refl _
      | false=>rw [h4] at h2;cases h2;exact Nat.zero_le _
    rw [List.length_append];omega
section
attribute [local irreducible] Hy St Ops DH dG
def aw1 (r:Option (List jv)) (xs:List jv) (u:Value) (hn:Hp):Prop:=match r with
 | none=>u=.tuple #[.slice none 0 0,.bool false]
 | some ys=>∃ v h,u=.tuple #[v,.bool true]∧Acc 148 2 v h ((xs++ys).map dS)∧aC h hn
theorem Zc (ws:List Nat) (hw:lu ws) (hm:fK ws.length=true) (root:Int):∀ (k level:Nat),level + k=3→∀ (w:World) (b o cap:Nat) (h:aF w (.slice (some ⟨b,o,none⟩) ws.length cap) 1 (ws.map uV)) (f:Int) (page:Nat) (hp:page % (8 * aB level)=0) (hpl:page + 8 * aB level≤4096) (hon:Fj ws root f level page) (xs:List jv) (hxl:xs.length≤page) (v:Value) (ha:Hp) (hA:Acc 148 2 v ha (xs.map dS)) (hN:dD ha w) (hb:b ∉ ha.map (·.b)),
  Fn Tryz.prog 150 [.agg #[.slice (some ⟨b,o,none⟩) ws.length cap,.int .i64 root],v,.int .i64 f,.int .i64 (level:Int),.int .i64 (page:Int)].toArray w (ha.map (·.b)) (fun u hn=>aw1 (eH ws root page (8 * aB level)) xs u hn):=by
 intro k
 induction k using Nat.strongRecOn with
 | ind k ih=>
 intro level hlk w b o cap h f page hp hpl hon xs hxl v ha hA hN hb
 have Au:=dh hm
 have hl:level<4:=by omega
 have hc9:=jc hl
 obtain ⟨q,c,ev⟩:=hA.own.opened
 rw [List.length_map] at ev
 subst ev
 refine bU ha hN Tryz.func150 ?_
 refine run ?_
 intro B
 refine run ?_
 refine ak (fun wc hG=>L8 ws.length cap _ root be5 f wc) ?_
 refine run ?_
 refine ah _ rfl (fun hc=>?_) (fun hc=>?_)
 ·have hh:dm ws.length f=false:=by simpa using hc
  rw [MV hl hon hh]
  refine run ?_
  exact fin2 rfl
 have hh:dm ws.length f=true:=by simpa using hc
 have hfi:=jd hh
 refine run ?_
 refine ak (fun wc hG=>EU level hl wc) ?_
 refine run ?_
 have hwl:ws ≠ []:=by intro e;rw [e] at Au;simp at Au
 generalize hcv:aB level=cv at *
 have aF8:eH ws root page 0=some []:=rfl
 refine aX (σ:=Nat × Value × Hp × List jv) (fun s=>[(29,.int .i64 (s.1:Int)),(1,s.2.1)]) (fun s=>⟨B,#[.slice (some ⟨b,o,none⟩) ws.length cap,.int .i64 root],239⟩::s.2.2.1) (fun s=>s.1≤8∧eH ws root page (s.1 * cv)=some s.2.2.2∧s.2.2.2.length≤s.1 * cv∧Acc 148 2 s.2.1 s.2.2.1 ((xs++s.2.2.2).map dS)) (fun s=>8 - s.1) (0,.slice q xs.length c,ha,[]) ⟨Nat.zero_le _,by simp only [Nat.zero_mul];exact aF8,Nat.zero_le _,by simpa using hA⟩ ?_
 rintro ⟨i,ov,h1,ys⟩ m hm2 ⟨hi,zN,hyl,hA1⟩
 dsimp only at hm2 hi zN hyl hA1 ⊢
 obtain ⟨q1,c1,e1⟩:=hA1.own.opened
 subst e1
 refine run ?_
 refine ah _ rfl (fun hc2=>?_) (fun hc2=>?_)
 ·have OT:i<8:=by simp at hc2;omega
  have hic:i * cv≤7 * cv:=Nat.mul_le_mul_right _ be5
  have hmul:(i:Int) * (cv:Int)=((i * cv:Nat):Int):=(Int.natCast_mul _ _).symm
  have hsl:=Q3 hl (hcv▸hp) OT hh hon
  rw [hcv] at hsl
  refine run ?_
  rw [show f * 8 + (i:Int)=((f.toNat * 8 + i:Nat):Int) by omega,show (page:Int) + (i:Int) * (cv:Int)=((page + i * cv:Nat):Int) by rw [hmul];omega]
  have hdm:=xU ws (f.toNat * 8 + i) level
  have hdt:(kS ws (f.toNat * 8 + i) level).kind=1→level<3:=fun e=>A7 e
  have aF9:=fun hl3=>MR (ws:=ws) (root:=root) (f:=f) (level:=level) (page:=page) (i:=i) hl3 (hcv▸hp) OT hh hon
  refine ak (fun wc hG=>ab2 ws hw (h.ab8 hb hG) root (f.toNat * 8 + i) level hl be5 be5) ?_
  generalize kS ws (f.toNat * 8 + i) level=d at *
  obtain ⟨hk3,hk0,hk1,hk2⟩:=lX hdm
  have hstep:∀ zs,eH ws root (page + i * cv) cv=some zs→eH ws root page ((i + 1) * cv)=some (ys++zs):=fun zs hz=>by
   rw [Nat.succ_mul,yh,zN]
   dsimp only
   rw [hz]
  have hstop:eH ws root (page + i * cv) cv=none→eH ws root page (8 * cv)=none:=fun hz=>by
   have e:8 * cv=i * cv + (cv + (7 * cv - i * cv)):=by omega
   rw [e,yh,zN]
   dsimp only
   rw [yh,hz]
  refine run ?_
  intro D
  refine run ?_
  rcases hk3 with hk | hk | hk
  ·rw [hk]
   refine az ?_
   have h2:=hstep [] (hsl.2 hk)
   rw [List.append_nil] at h2
   refine aK (i + 1,.slice q1 ((xs++ys).map dS).length c1,h1,ys) ⟨OT,h2,by dsimp only;rw [Nat.succ_mul];omega,hA1⟩ (hm:=by dsimp only;omega) (h2:=by (exact aj))
  ·rw [hk]
   refine az ?_
   have hl3:=hdt hk
   have hcn:8 * aB (level + 1)=cv:=by rw [← hcv,uD hl3]
   have hcm:(page + i * cv) % cv=0:=by
    have h8:cv ∣ page:=Nat.dvd_trans ⟨8,Nat.mul_comm _ _⟩ (Nat.dvd_of_mod_eq_zero hp)
    exact Nat.mod_eq_zero_of_dvd (Nat.dvd_add h8 ⟨i,Nat.mul_comm _ _⟩)
   refine gB (R:=fun u hn=>aw1 (eH ws root (page + i * cv) cv) (xs++ys) u hn) h1 [⟨D,#[.int .i64 1,.int .i64 d.frame,.bool d.r,.bool d.w,.bool d.x,.bool d.af,.bool d.ng,.int .i64 d.soft,.int .i64 d.note],124⟩,⟨B,#[.slice (some ⟨b,o,none⟩) ws.length cap,.int .i64 root],239⟩] (fun wc hG=>by
    have h5:=ih (k - 1) be5 (level + 1) be5 wc b o cap (h.ab8 hb hG) d.frame (page + i * cv) (by rw [hcn];exact hcm) (by rw [hcn];omega) (hcv▸aF9 hl3 hk) (xs++ys) (by rw [List.length_append];omega) _ h1 hA1 hG.fV (fun hmem=>(hG.apart h hwl hb) (by rw [List.map_append];exact List.mem_append_left _ hmem))
    rw [hcn] at h5
    exact h5) ?_ aJ
   intro u hn hR
   cases hz:eH ws root (page + i * cv) cv with
   | none=>
    rw [hz] at hR
    obtain rfl:u=.tuple #[.slice none 0 0,.bool false]:=hR
    rw [hstop hz]
    refine az ?_
    exact fin2 rfl
   | some zs=>
    rw [hz] at hR
    obtain ⟨v',h',rfl,hA',hle'⟩:=hR
    have hzl:=Za hz
    refine iw hle' ?_
    refine az ?_
    refine aK (i + 1,v',h',ys++zs) ⟨OT,hstep zs hz,by dsimp only;rw [List.length_append,Nat.succ_mul];omega,by rw [← List.append_assoc];exact hA'⟩ (hm:=by dsimp only;omega) (h2:=by (exact aj))
  ·rw [hk]
   refine az ?_
   have hk4:=hk2 hk
   have hfull:=hstep _ (hsl.1 hk)
   refine aX (σ:=Nat × Value × Hp) (fun s=>[(65,.int .i64 (s.1:Int)),(1,s.2.1)]) (fun s=>⟨D,#[.int .i64 2,.int .i64 d.frame,.bool d.r,.bool d.w,.bool d.x,.bool d.af,.bool d.ng,.int .i64 d.soft,.int .i64 d.note],124⟩::⟨B,#[.slice (some ⟨b,o,none⟩) ws.length cap,.int .i64 root],239⟩::s.2.2) (fun s=>s.1≤cv∧Acc 148 2 s.2.1 s.2.2 ((xs++(ys++Ac (page + i * cv) d.frame s.1)).map dS)) (fun s=>cv - s.1) (0,.slice q1 ((xs++ys).map dS).length c1,h1) ⟨Nat.zero_le _,by simpa [Ac] using hA1⟩ ?_
   rintro ⟨j,kv,hk2⟩ m2 hm3 ⟨hkc,hA2⟩
   dsimp only at hm3 hkc hA2 ⊢
   obtain ⟨qb,cb,eb⟩:=hA2.own.opened
   subst eb
   refine run ?_
   refine ah _ rfl (fun hc3=>?_) (fun hc3=>?_)
   ·have aF':j<cv:=by simp at hc3;omega
    refine run ?_
    intro T
    refine kX (c:=dS ⟨((page + i * cv + j:Nat):Int),d.frame + (j:Int)⟩) (hp':=[⟨T,#[.int .i64 (((page + i * cv:Nat):Int) + (j:Int)),.int .i64 (d.frame + (j:Int))],148⟩,⟨D,#[.int .i64 2,.int .i64 d.frame,.bool d.r,.bool d.w,.bool d.x,.bool d.af,.bool d.ng,.int .i64 d.soft,.int .i64 d.note],124⟩,⟨B,#[.slice (some ⟨b,o,none⟩) ws.length cap,.int .i64 root],239⟩]) hA2 (fun v' ha' hA'=>?_) (by simp [JG];omega) (bQ (m:=2) mh rfl) (hperm:=by (exact aJ))
    rw [show (xs++(ys++Ac (page + i * cv) d.frame j)).map dS++[dS ⟨((page + i * cv + j:Nat):Int),d.frame + (j:Int)⟩]=(xs++(ys++Ac (page + i * cv) d.frame (j + 1))).map dS by rw [Ac];simp] at hA'
    refine aP (⟨D,#[.int .i64 2,.int .i64 d.frame,.bool d.r,.bool d.w,.bool d.x,.bool d.af,.bool d.ng,.int .i64 d.soft,.int .i64 d.note],124⟩::⟨B,#[.slice (some ⟨b,o,none⟩) ws.length cap,.int .i64 root],239⟩::ha') aj ?_
    refine run ?_
    refine aK (j + 1,v',ha') ⟨aF',hA'⟩ (hm:=by dsimp only;omega) (h2:=by (exact aj))
   ·have aG0:j=cv:=by simp at hc3;omega
    subst aG0
    refine run ?_
    refine aK (i + 1,.slice qb ((xs++(ys++Ac (page + i * j) d.frame j)).map dS).length cb,hk2,ys++Ac (page + i * j) d.frame j) ⟨OT,hfull,by dsimp only;rw [List.length_append,JG,Nat.succ_mul];omega,hA2⟩ (hm:=by dsimp only;omega) (h2:=by (exact aj))
 ·have OT:i=8:=by simp at hc2;omega
  subst OT
  rw [zN]
  refine run ?_
  exact fin2 ⟨_,h1,rfl,hA1,by (exact aj)⟩
theorem aw2 {G R:Prop} (k:R) (h:xI R→G:=by (intro mV;(repeat (first | (with_reducible apply FU) | (with_reducible apply uM) | (with_reducible apply uN) | (with_reducible apply FY) | (with_reducible apply AL) | (with_reducible apply uP) | (with_reducible apply qL) | (with_reducible apply AO) | (with_reducible apply wZ) | (with_reducible apply AA) | (with_reducible apply FV) | (with_reducible apply Aw) | (with_reducible apply Az) | ((with_reducible apply xe);rfl) | ((with_reducible apply ja);rfl;(first | exact Uz)) | ((with_reducible apply Oq);rfl;rfl;(exact kW);intro blk) | ((with_reducible apply AP ay);rfl;rfl;(exact kW);intro blk) | ((with_reducible apply xk ay);rfl;rfl;(exact kW);rfl;rfl;(exact Ci);(exact Ux);(exact Uy);(exact vZ)) | ((with_reducible apply xm ay);rfl;rfl;rfl;(exact kW);rfl;rfl;rfl;rfl;(exact OB);intro blk) | ((with_reducible apply P6);rfl;rfl;rfl;rfl;(intro hg1;(try simp only [hg1,bG,Bool.true_and]);(first | exact hyG | exact zH hg1 rfl))) | ((with_reducible apply BJ);rfl;rfl;rfl;rfl;(intro hg0 hg1;have hgC:=hg0;(try simp only [Bool.and_eq_true] at hg0);(try simp only [hg0,hg1,bG,Bool.true_and,Bool.and_true,Bool.and_self]);(first | exact hyG | exact zH hg1 rfl | exact Gh hgC rfl))) | ((with_reducible apply TY);rfl;rfl;rfl;rfl)));(repeat revert blk);exact mV.get)):G:=h ⟨k⟩
def aw3 (r:Option (List jv)) (u:Value) (hn:Hp):Prop:=match r with
 | none=>u=.tuple #[.slice none 0 0,.int .i64 2]
 | some xs=>∃ v h,u=.tuple #[v,.int .i64 0]∧Own 148 2 v h (xs.map dS)∧aC h hn
theorem VS (ws:List Nat) (hw:lu ws) {w:World} {v:Value} (h:aF w v 1 (ws.map uV)) (hm:fK ws.length=true) (root:Int):Fn Tryz.prog 69 [.agg #[v],.int .i64 root].toArray w [] (fun u hn=>aw3 (eH ws root 0 4096) u hn):=by
 have Au:=dh hm
 obtain ⟨q,cap,rfl,hne,hle⟩:=h.opened
 obtain ⟨b,o,rfl⟩:=hne (by intro e;rw [e] at Au;simp at Au)
 refine enter Tryz.func69 ?_
 refine run ?_
 intro B
 refine run ?_
 refine ak (fun wc hG=>xY ws.length cap be5 _ wc) ?_
 rw [hm]
 refine az ?_
 refine dJ (fun wc hG=>Zc ws hw hm root 3 0 rfl wc b o cap (h.good hG) root 0 be6 be6 (MS ws root) [] (Nat.le_refl _) (.slice none 0 0) [] (Acc.nil _ _) ⟨by simp,by simp⟩ be7) ?_
 intro u hn hR
 have e4:8 * aB 0=4096:=by decide
 rw [e4] at hR
 cases hz:eH ws root 0 4096 with
 | none=>
  rw [hz] at hR
  obtain rfl:u=.tuple #[.slice none 0 0,.bool false]:=hR
  refine az ?_
  exact fin2 rfl
 | some zs=>
  rw [hz] at hR
  obtain ⟨v',h',rfl,hA',hle'⟩:=hR
  refine iw hle' ?_
  refine az ?_
  exact fin2 ⟨_,h',rfl,hA'.own,by (exact aj)⟩
end
section
attribute [local irreducible] Hy St Ops DH dG je iI gJ DS gY mP
theorem JV (H:HyD) (f:Nat):(-1≤(H.kP f).own∧(H.kP f).own≤4)∧-2≤(H.kP f).wit∧(H.kP f).wit≤4:=by
 unfold HyD.kP
 have h1:=VQ H f 1
 have h2:=VQ H f 2
 generalize kJ H.ws 0 f=g
 dsimp only
 cases (!decide (g.e=0)) with
 | true=>(simp only [cond_true,cond_false];omega)
 | false=>
  cases (decide (g.d.kind=2) && decide (g.d.soft=0)) with
  | true=>(simp only [cond_true,cond_false];omega)
  | false=>
   cases (decide (g.d.kind=2) && decide (g.d.soft=1)) with
   | true=>(simp only [cond_true,cond_false];cases decide (0<H.ry f 2)<;>(simp only [cond_true,cond_false];omega))
   | false=>
    cases (decide (g.d.kind=2) && decide (g.d.soft=2)) with
    | true=>(simp only [cond_true,cond_false];cases decide (0<H.ry f 1)<;>(simp only [cond_true,cond_false];omega))
    | false=>
     cases hn:(decide (g.d.kind=0) && decide (1<g.d.note) && decide (g.d.note≤5)) with
     | true=>
      simp only [Bool.and_eq_true,decide_eq_true_eq] at hn
      simp only [cond_true,cond_false]
      omega
     | false=>(simp only [cond_true,cond_false];omega)
def Rn (H:HyD) (hx:Hp) (i:Nat) (r:List Value):Prop:=∃ v1 v2,r=[.bool (H.bW i).live,.bool (H.bW i).dying,.int .i64 (H.bW i).first,v1,v2]∧∀ w,Here hx w→aF w v1 1 ((H.bW i).aN.map dA)∧aF w v2 2 ((H.bW i).maps.map dS)
theorem Rn.le {H:HyD} {a b:Hp} {i:Nat} {r:List Value} (h:Rn H a i r) (hle:∀ e∈a,e∈b):Rn H b i r:=by
 obtain ⟨v1,v2,e,h5⟩:=h
 exact ⟨v1,v2,e,fun w hw=>h5 w fun e he=>hw e (hle e he)⟩
theorem Fz {H:HyD} (hf:H.Fit) {i:Nat} (hi:i<H.vs.length):I64 (H.bW i).first∧(∀ x∈(H.bW i).aN,I64 x)∧(∀ x∈(H.bW i).maps,I64 x.mid∧I64 x.gU)∧(H.bW i).aN.length<100000∧(H.bW i).maps.length<100000:=by
 have hv:=hf.v (H.vu i) (getD_mem hi)
 unfold HyD.bW
 cases (H.vu i).live with
 | false=>exact ⟨(⟨by decide,by decide⟩:I64 0),by simp,by simp,by simp,by simp⟩
 | true=>
  rw [cond_true]
  refine ⟨?_,?_,?_,by simpa using hv.2.2.1,?_⟩
  ·show I64 (bif decide (0<(H.vu i).fs.length) then (H.vu i).root else 0)
   cases hd:decide (0<(H.vu i).fs.length) with
   | false=>exact (⟨by decide,by decide⟩:I64 0)
   | true=>
    rw [cond_true]
    have h0:=of_decide_eq_true hd
    refine hv.2.2.2.1 _ ?_
    unfold qK.root
    rw [List.getD_eq_getElem?_getD,List.getElem?_eq_getElem h0]
    exact List.getElem_mem h0
  ·intro x hx
   obtain ⟨c,hc,rfl⟩:=List.mem_map.1 hx
   exact hv.2.2.2.2.2 c hc
  ·intro x hx
   have:=Y9 hx
   unfold I64
   omega
  ·have:=Hl H i
   show (H.JI i).length<100000
   omega
theorem JW (H:HyD):(∀ f,f<H.ws.length / 8→H.aQ.pg f=H.kP f)∧(∀ i,i<4→H.aQ.gs i=H.bW i)∧(∀ c,c<H.cs.length→H.aQ.st c=⟨(H.cu c).vm,(H.cu c).vc⟩):=by
 refine ⟨fun f hf=>?_,fun i hi=>?_,fun c hc=>?_⟩
 ·simp only [HyD.aQ,PtD.pg,List.getD_eq_getElem?_getD,List.getElem?_map,List.getElem?_range hf,Option.map_some,Option.getD_some]
 ·simp only [HyD.aQ,PtD.gs,List.getD_eq_getElem?_getD,List.getElem?_map,List.getElem?_range hi,Option.map_some,Option.getD_some]
 ·simp only [HyD.aQ,PtD.st,HyD.cu,List.getD_eq_getElem?_getD,List.getElem?_map,List.getElem?_eq_getElem hc,Option.map_some,Option.getD_some]
theorem Ro {w:World} {H:HyD} {pv gv ov:Value} {ha hg hx ho:Hp} {G:List (List Value)} (hA:Acc 70 2 pv ha (((List.range (H.ws.length / 8)).map H.kP).map qI)) (hB:Acc 129 5 gv hg G) (hGl:G.length=4) (hR:∀ i,i<4→Rn H hx i (G.getD i [])) (hC:Own 133 2 ov ho ((H.cs.map fun c=>(⟨c.vm,c.vc⟩:OH)).map Eh)) (hf:H.Fit) (hv:H.vs.length=4) (h:Here (ha++hg++hx++ho) w):fD w pv gv ov H.aQ:=by
 obtain ⟨hp1,hp2,hp3⟩:=JW H
 have hex:∀ i,∃ p:Value × Value,i<4→G.getD i []=[.bool (H.bW i).live,.bool (H.bW i).dying,.int .i64 (H.bW i).first,p.1,p.2]∧∀ w,Here hx w→aF w p.1 1 ((H.bW i).aN.map dA)∧aF w p.2 2 ((H.bW i).maps.map dS):=fun i=>by
  by_cases hi:i<4
  ·obtain ⟨v1,v2,e,h5⟩:=hR i hi
   exact ⟨(v1,v2),fun _=>⟨e,h5⟩⟩
  ·exact ⟨(default,default),fun h=>absurd h hi⟩
 have hgl:H.aQ.aA.length=4:=by simp [HyD.aQ]
 refine ⟨hA.lie (h.sub fun e he=>by simp [he]) (by have:=hf.l.1;simp;omega),⟨fun i=>(Classical.choose (hex i)).1,fun i=>(Classical.choose (hex i)).2,?_,fun i hi=>?_⟩,?_,?_⟩
 ·have e:((List.range H.aQ.aA.length).map fun i=>[Value.bool (H.aQ.gs i).live,.bool (H.aQ.gs i).dying,.int .i64 (H.aQ.gs i).first,(Classical.choose (hex i)).1,(Classical.choose (hex i)).2])=G:=by
   rw [hgl]
   refine List.ext_getElem (by simp [hGl]) fun i h1 h2=>?_
   rw [List.getElem_map,List.getElem_range,hp2 i be5]
   have:=(Classical.choose_spec (hex i) be5).1
   rw [← this,List.getD_eq_getElem?_getD,List.getElem?_eq_getElem h2];rfl
  rw [e]
  exact hB.lie (h.sub fun e he=>by simp [he]) be5
 ·rw [hgl] at hi
  rw [hp2 i hi]
  exact (Classical.choose_spec (hex i) hi).2 w (h.sub fun e he=>by simp [he])
 ·exact hC.lie (fun e he=>h e bf8) (by have:=hf.l.2.1;simp;omega)
 ·refine ⟨fun f hf2=>?_,fun i hi=>?_,fun c hc=>?_⟩
  ·rw [hp1 f (by simpa [HyD.aQ] using hf2)]
   have:=JV H f
   unfold I64
   omega
  ·rw [hgl] at hi
   rw [hp2 i hi]
   have:=Fz hf (i:=i) be5
   exact ⟨this.1,this.2.1,this.2.2.1⟩
  ·have hc':c<H.cs.length:=by simpa [HyD.aQ] using hc
   rw [hp3 c hc']
   have:=hf.c (H.cu c) (getD_mem hc')
   exact this.2.2
theorem O8 {w:World} {X:Nat} {wv cv vv rv:Value} {mv:Nat→Value} {H:HyD} (h:wH w X wv cv vv rv mv H):Fn Tryz.prog 35 [.pointer (some ⟨X,0,none⟩)].toArray w [] (fun u hn=>∃ p1 p2 p3 k1 k2 k3:_,∃ n1 n2 n3:Nat,u=.agg #[.slice p1 n1 k1,.slice p2 n2 k2,.slice p3 n3 k3]∧∀ w,Here hn w→fD w (.slice p1 n1 k1) (.slice p2 n2 k2) (.slice p3 n3 k3) H.aQ):=by
 have h':=h
 have hL:=nN h.ok
 have Au:=dh hL.m
 have hfit:=h.h.fit
 obtain ⟨cs,vs,e1,e2,_,hH⟩:=h.h.ex
 have hvl:vs.length=4:=by rw [← hL.v,← e2,List.length_map]
 have hcl:cs.length=H.cs.length:=by rw [← e1,List.length_map]
 have h0:w.rangeAt X 0 [wv]:=bg (k:=0) (n:=1) h.x rfl
 have h0':=au h0
 have hpe:∀ wc hp,Good w [] hp wc→∀ k:Nat,k≤4095→Fn Tryz.prog 71 [.pointer (some ⟨X,0,none⟩),.int .i64 (k:Int)].toArray wc [] (fun u _=>u=.agg #[.int .i64 (H.kP k).own,.int .i64 (H.kP k).wit]):=fun wc hp hG k hk=>Y7 (hG.range h.x List.not_mem_nil) (fun i hi=>(h.m i hi).good hG) hH.Jt (hH.ws.good hG) hL.m k hk
 have hws:=hH.ws
 obtain ⟨q,cap,rfl,_,_⟩:=hws.opened
 refine enter Tryz.func35 ?_
 refine run ?_
 intro R P
 refine ja be8 (uj rfl rfl H.ws.length 8 rfl rfl be6 be5) ?_
 refine run ?_
 refine aX (σ:=Nat × Value × Hp) (fun s=>[(16,.int .i64 (s.1:Int))]) (fun s=>⟨P,#[s.2.1,.slice none 0 0,.slice none 0 0],38⟩::⟨R,#[.slice none 0 0,.slice none 0 0,.slice none 0 0],38⟩::s.2.2) (fun s=>s.1≤H.ws.length / 8∧Acc 70 2 s.2.1 s.2.2 (((List.range s.1).map H.kP).map qI)) (fun s=>H.ws.length / 8 - s.1) (0,.slice none 0 0,[]) ⟨Nat.zero_le _,Acc.nil _ _⟩ ?_
 rintro ⟨k,pv,ha⟩ m hm ⟨hk,hA⟩
 dsimp only at hm hk hA ⊢
 obtain ⟨qa,ca,xa⟩:=hA.own.opened
 simp only [List.length_map,List.length_range] at xa
 subst xa
 refine run ?_
 refine ah _ rfl (fun hc=>?_) (fun hc=>?_)
 ·have hlt:k<H.ws.length / 8:=by simp at hc;omega
  refine run ?_
  refine zn 9 6 [0,1,2,3,4,7] [(5,false),(6,false),(8,false)] [⟨R,#[.slice none 0 0,.slice none 0 0,.slice none 0 0],38⟩] ?_
  refine jT ?_
  refine CP (fun wc hx hG=>hpe wc _ hG k be5) ?_
  refine jT ?_
  generalize zN:H.kP k=pg
  refine xC ?_
  refine CO [.int .i64 pg.own,.int .i64 pg.wit] (fun Z=>?_)
  refine dw ?_
  refine aj1 (c:=qI pg) (hp':=⟨Z,#[.int .i64 pg.own,.int .i64 pg.wit],70⟩::⟨P,#[.slice qa k ca,.slice none 0 0,.slice none 0 0],38⟩::[⟨R,#[.slice none 0 0,.slice none 0 0,.slice none 0 0],38⟩]) hA (bQ (m:=2) mh rfl) (by rw [List.length_map,List.length_map,List.length_range];omega) aJ aj (fun v' ha' hA2=>?_)
  obtain ⟨q9,c9,e9⟩:=hA2.own.opened
  subst e9
  refine xC ?_
  refine nJ (b:=P) (tb:=38) (cs:=#[.slice qa k ca,.slice none 0 0,.slice none 0 0]) (cs':=#[.slice q9 _ c9,.slice none 0 0,.slice none 0 0]) (hp':=ha'++(⟨Z,#[.int .i64 pg.own,.int .i64 pg.wit],70⟩::[⟨R,#[.slice none 0 0,.slice none 0 0,.slice none 0 0],38⟩])) ?_ aJ
  refine dw ?_
  refine QZ ?_
  refine lg ?_
  refine run ?_
  exact aK (k + 1,_,ha') ⟨hlt,by dsimp only;rw [List.range_succ,List.map_append,List.map_append,List.map_singleton,List.map_singleton,zN];exact hA2⟩ (hm:=by dsimp only;omega) (h2:=by (exact aj))
 have hkF:k=H.ws.length / 8:=by simp at hc;omega
 subst hkF
 have hop:=hH.vs.rows.opened
 rw [hvl] at hop
 obtain ⟨q2,cap2,rfl,hne2,_⟩:=hop
 have h2:w.rangeAt X 2 [.slice q2 4 cap2]:=bg (k:=2) (n:=1) h.x rfl
 have h2':=au h2
 refine run ?_
 refine aX (σ:=Nat × Value × Hp × List (List Value) × Hp) (fun s=>[(34,.int .i64 (s.1:Int))]) (fun s=>⟨P,#[.slice qa (H.ws.length / 8) ca,s.2.1,.slice none 0 0],38⟩::⟨R,#[.slice none 0 0,.slice none 0 0,.slice none 0 0],38⟩::(ha++(s.2.2.1++s.2.2.2.2))) (fun s=>s.1≤4∧Acc 129 5 s.2.1 s.2.2.1 s.2.2.2.1∧s.2.2.2.1.length=s.1∧∀ i,i<s.1→Rn H s.2.2.2.2 i (s.2.2.2.1.getD i [])) (fun s=>4 - s.1) (0,.slice none 0 0,[],[],[]) ⟨Nat.zero_le _,Acc.nil _ _,rfl,fun i hi=>absurd hi (Nat.not_lt_zero _)⟩ ?_ (hh:=by dsimp only;(exact aj))
 rintro ⟨k,gv,hg,G,hx⟩ m2 hm2 ⟨hk2,hB,hGl,hR⟩
 dsimp only at hm2 hk2 hB hGl hR ⊢
 obtain ⟨qb,cb,xb⟩:=hB.own.opened
 rw [hGl] at xb
 subst xb
 refine run ?_
 refine ah _ rfl (fun hc2=>?_) (fun hc2=>?_)
 ·have hlt:k<4:=by simp at hc2;omega
  refine run ?_
  have hge:=fun (wc:World) (hp:Hp) (hG:Good w [] hp wc)=>VR (h'.good hG) k hlt
  have hgl:=(Fz hfit (i:=k) (by rw [hL.v];exact hlt)).2.2.2
  have hgr:∀ a b (r:List Value),r=[.bool (H.bW k).live,.bool (H.bW k).dying,.int .i64 (H.bW k).first,a,b]→∀ hz,(∀ w,Here hz w→aF w a 1 ((H.bW k).aN.map dA)∧aF w b 2 ((H.bW k).maps.map dS))→Rn H hz k r:=fun a b r e hz hs=>⟨a,b,e,hs⟩
  generalize H.bW k=g at hge hgl hgr
  refine zn 9 6 [0,1,2,3,7] [(4,false),(5,false),(6,false),(8,false)] (⟨R,#[.slice none 0 0,.slice none 0 0,.slice none 0 0],38⟩::(ha++hx)) ?_
  refine jT ?_
  refine xC ?_
  refine xN (fun wc hG=>hge wc _ hG) ?_
  rintro _ hn ⟨v1,h1,v2,h2,rfl,g1,g2,hle2⟩
  obtain ⟨r1,d1,f1⟩:=g1.opened
  obtain ⟨r2,d2,f2⟩:=g2.opened
  rw [List.length_map] at f1 f2
  subst f1 f2
  refine dw ?_
  refine xC ?_
  refine CO [.bool g.live,.bool g.dying,.int .i64 g.first,.slice r1 g.aN.length d1,.slice r2 g.maps.length d2] (fun Z=>?_)
  refine dw ?_
  refine aj1 (c:=[.bool g.live,.bool g.dying,.int .i64 g.first,.slice r1 g.aN.length d1,.slice r2 g.maps.length d2]) (hp':=⟨Z,#[.bool g.live,.bool g.dying,.int .i64 g.first,.slice r1 g.aN.length d1,.slice r2 g.maps.length d2],129⟩::(hn++⟨P,#[.slice qa (H.ws.length / 8) ca,.slice qb k cb,.slice none 0 0],38⟩::⟨R,#[.slice none 0 0,.slice none 0 0,.slice none 0 0],38⟩::(ha++hx))) hB (bQ (m:=5) mh rfl) be5 aJ aj (fun v' ha' hA2=>?_)
  obtain ⟨q9,c9,e9⟩:=hA2.own.opened
  subst e9
  refine xC ?_
  refine nJ (b:=P) (tb:=38) (cs:=#[.slice qa (H.ws.length / 8) ca,.slice qb k cb,.slice none 0 0]) (cs':=#[.slice qa (H.ws.length / 8) ca,.slice q9 _ c9,.slice none 0 0]) (hp':=ha'++(⟨Z,#[.bool g.live,.bool g.dying,.int .i64 g.first,.slice r1 g.aN.length d1,.slice r2 g.maps.length d2],129⟩::(hn++⟨R,#[.slice none 0 0,.slice none 0 0,.slice none 0 0],38⟩::(ha++hx)))) ?_ aJ
  refine dw ?_
  refine QZ ?_
  refine lg ?_
  refine run ?_
  refine aK (k + 1,_,ha',_,hn++hx) ⟨hlt,hA2,by simp [hGl],fun i hi=>?_⟩ (hm:=by dsimp only;omega) (h2:=by (exact aj))
  dsimp only
  by_cases e:i=k
  ·subst e
   have:(G++[[Value.bool g.live,.bool g.dying,.int .i64 g.first,.slice r1 g.aN.length d1,.slice r2 g.maps.length d2]]).getD i []=[.bool g.live,.bool g.dying,.int .i64 g.first,.slice r1 g.aN.length d1,.slice r2 g.maps.length d2]:=by
    rw [List.getD_eq_getElem?_getD,List.getElem?_append_right be5,hGl];simp
   rw [this]
   refine hgr _ _ _ rfl _ fun w hw=>⟨g1.lie (fun e he=>hw e (List.mem_append_left _ (hle2.mem bf8))) bf2,g2.lie (fun e he=>hw e (List.mem_append_left _ (hle2.mem bf8))) bf2⟩
  ·have:(G++[[Value.bool g.live,.bool g.dying,.int .i64 g.first,.slice r1 g.aN.length d1,.slice r2 g.maps.length d2]]).getD i []=G.getD i []:=by
    rw [List.getD_eq_getElem?_getD,List.getElem?_append_left be5,← List.getD_eq_getElem?_getD]
   rw [this]
   exact (hR i be5).le fun e he=>List.mem_append_right _ he
 have hk4:k=4:=by simp at hc2;omega
 subst hk4
 have JX:=hH.cs.rows.opened
 rw [hcl] at JX
 obtain ⟨q3,cap3,rfl,DC,_⟩:=JX
 have h3:w.rangeAt X 1 [.slice q3 H.cs.length cap3]:=bg (k:=1) (n:=1) h.x rfl
 have h3':=au h3
 refine run ?_
 refine aX (σ:=Nat × Value × Hp) (fun s=>[(52,.int .i64 (s.1:Int))]) (fun s=>⟨P,#[.slice qa (H.ws.length / 8) ca,.slice qb 4 cb,s.2.1],38⟩::⟨R,#[.slice none 0 0,.slice none 0 0,.slice none 0 0],38⟩::(ha++(hg++hx)++s.2.2)) (fun s=>s.1≤H.cs.length∧Own 133 2 s.2.1 s.2.2 (((H.cs.take s.1).map fun c=>(⟨c.vm,c.vc⟩:OH)).map Eh)) (fun s=>H.cs.length - s.1) (0,.slice none 0 0,[]) ⟨Nat.zero_le _,Own.nil _ _⟩ ?_ (hh:=by dsimp only;(exact aj))
 rintro ⟨k,ov,ho⟩ m3 hm3 ⟨hk3,hC⟩
 dsimp only at hm3 hk3 hC ⊢
 have hkm:min k H.cs.length=k:=by omega
 obtain ⟨qc,cc,xc⟩:=hC.opened
 rw [List.length_map,List.length_map,List.length_take,hkm] at xc
 subst xc
 refine run ?_
 refine ah _ rfl (fun hc3=>?_) (fun hc3=>?_)
 ·have hlt:k<H.cs.length:=by simp at hc3;omega
  obtain ⟨b3,o3,rfl⟩:=DC bi5
  have hr3:=hH.cs.rows.row (k:=k) be5
  have XF:=yj e1 k
  have ht:(H.cs.take (k + 1)).map (fun c=>(⟨c.vm,c.vc⟩:OH))=(H.cs.take k).map (fun c=>(⟨c.vm,c.vc⟩:OH))++[⟨(cs.getD k default).vm,(cs.getD k default).vc⟩]:=by
   rw [List.take_succ_eq_append_getElem hlt,List.map_append,List.map_singleton,oH H.cs hlt,← XF];rfl
  clear XF
  generalize cs.getD k default=c at hr3 ht
  refine run ?_
  intro U Z
  have hC3:=hL.c3
  refine aP (⟨Z,#[.int .i64 c.vm,.int .i64 c.vc],133⟩::⟨P,#[.slice qa (H.ws.length / 8) ca,.slice qb 4 cb,.slice qc k cc],38⟩::⟨R,#[.slice none 0 0,.slice none 0 0,.slice none 0 0],38⟩::(ha++(hg++hx)++ho)) aj ?_
  refine xM (c:=[.int .i64 c.vm,.int .i64 c.vc]) (⟨Z,#[.int .i64 c.vm,.int .i64 c.vc],133⟩::⟨P,#[.slice qa (H.ws.length / 8) ca,.slice qb 4 cb,.slice qc k cc],38⟩::⟨R,#[.slice none 0 0,.slice none 0 0,.slice none 0 0],38⟩::(ha++(hg++hx))) hC (fun v' ha' hA2=>?_) (by rw [List.length_map,List.length_map,List.length_take];omega) (bQ (m:=2) mh rfl) (hperm:=by (exact aJ))
  obtain ⟨q9,c9,e9⟩:=hA2.opened
  subst e9
  refine aP (⟨P,#[.slice qa (H.ws.length / 8) ca,.slice qb 4 cb,.slice qc k cc],38⟩::⟨R,#[.slice none 0 0,.slice none 0 0,.slice none 0 0],38⟩::(ha++(hg++hx)++ha')) aj ?_
  refine run ?_
  exact aK (k + 1,_,ha') ⟨hlt,by dsimp only;rw [ht,List.map_append,List.map_singleton];exact hA2⟩ (hm:=by dsimp only;omega) (h2:=by (exact aj))
 have hkC:k=H.cs.length:=by simp at hc3;omega
 subst hkC
 rw [List.take_length] at hC
 refine run ?_
 exact eF (cs:=#[.slice qa (H.ws.length / 8) ca,.slice qb 4 cb,.slice qc H.cs.length cc]) ⟨_,_,_,_,_,_,_,_,_,rfl,fun w hw=>Ro hA hB hGl hR hC hfit hL.v (hw.sub (fun e he=>List.mem_cons_of_mem _ (List.mem_cons_of_mem _ (by simpa only [List.append_assoc] using he))))⟩
theorem Nw (n cap:Nat) (hn:n<4611686018427387904) (q:Option Addr) (w:World):Fn Tryz.prog 149 [.agg #[.slice q n cap]].toArray w [] (fun u _=>u=.int .i64 ((n / 8:Nat):Int)):=by
 refine enter Tryz.func149 ?_
 refine run ?_
 intro B
 refine run ?_
 refine ja be8 (uj rfl rfl n 8 be8 be8 be6 be5) ?_
 refine run ?_
 exact fin1 rfl
theorem Ny (n cap:Nat) (hn:n<4611686018427387904) (q:Option Addr) (w:World):Fn Tryz.prog 68 [.agg #[.slice q n cap]].toArray w [] (fun u _=>u=.tuple #[.int .i64 (bif fK n then ((n / 8:Nat):Int) else 0),.int .i64 (bif fK n then 0 else 1)]):=by
 refine enter Tryz.func68 ?_
 refine run ?_
 intro B
 refine run ?_
 refine ak (fun wc hG=>xY n cap hn q wc) ?_
 refine run ?_
 refine ah _ rfl (fun hc=>?_) (fun hc=>?_)
 ·have hm:fK n=false:=by cases h:fK n<;>simp [h] at hc ⊢
  refine run ?_
  refine fin2 ?_
  rw [hm];rfl
 ·have hm:fK n=true:=by cases h:fK n<;>simp [h] at hc ⊢
  refine run ?_
  refine ak (fun wc hG=>Nw n cap hn q wc) ?_
  refine run ?_
  refine fin2 ?_
  rw [hm];rfl
theorem pG {w:World} {b:Nat} {cs:List Value} {t:TypeId} (h:w.heap[b]?=some (.cells cs.toArray t (0,0))):w.rangeAt b 0 cs:=by
 intro j u hu
 rw [cell_of_block h]
 simpa using hu
theorem Zd (y:jv):[y].filter (fun m=>decide (m.mid≤15))=if y.mid≤15 then [y] else []:=by
 by_cases e:y.mid≤15<;>simp [e]
def uH (m:Nat→Value) (k:Nat) (v:Value):Nat→Value:=fun i=>if i=k then v else m i
theorem Rq {m:Nat→Value} {k:Nat} {v:Value} (h:m k=v):uH m k v=m:=by
 funext i
 unfold uH
 split
 ·rename_i e;rw [e,h]
 ·rfl
theorem Nz (m:Nat→Value) (k:Nat) (v u:Value):uH (uH m k v) k u=uH m k u:=by
 funext i
 unfold uH
 split<;>rfl
theorem O9 (m:Nat→Value) (k:Nat) (v:Value):uH m k v k=v:=if_pos rfl
def Hw (wv cv vv rv:Value) (m:Nat→Value):Array Value:=#[wv,cv,vv,rv,m 0,m 1,m 2,m 3]
theorem Ze (wv cv vv rv:Value) (m:Nat→Value) {k:Nat} (hk:k<4) (v:Value):putAt (Hw wv cv vv rv m) (4 + k) [v]=Hw wv cv vv rv (uH m k v):=by
 have:k=0∨k=1∨k=2∨k=3:=by omega
 rcases this with rfl | rfl | rfl | rfl<;>rfl
theorem Zf (wv cv vv rv:Value) (m:Nat→Value) {k:Nat} (hk:k<4):nth (Hw wv cv vv rv m).toList (4 + k)=some (m k):=by
 have:k=0∨k=1∨k=2∨k=3:=by omega
 rcases this with rfl | rfl | rfl | rfl<;>rfl
def Ez (xs:List jv) (u:Value) (hn:Hp):Prop:=∃ v h e,u=.tuple #[v,.int .i64 e]∧Own 148 2 v h (xs.map dS)∧aC h hn
theorem Ez.of {r:Option (List jv)} {u:Value} {hn:Hp} (h:aw3 r u hn):Ez (r.getD []) u hn:=by
 cases r with
 | none=>exact ⟨_,[],2,h,Own.nil _ _,by (exact aj)⟩
 | some xs=>
  obtain ⟨v,h1,e,hO,hle⟩:=h
  exact ⟨v,h1,0,e,hO,hle⟩
theorem Ez.ex {xs:List jv} (h:xs.length≤4096):∃ u hn,Ez xs u hn:=by
 obtain ⟨v,h1,hO⟩:=dU (e:=148) (sz:=2) (xs:=xs.map dS) (fun c hc=>by obtain ⟨m,_,rfl⟩:=List.mem_map.1 hc;exact ⟨rfl,rfl⟩) be9
 exact ⟨_,h1,v,h1,0,rfl,hO,aC.refl _⟩
def JY (H:HyD) (wv cv vv rv u:Value) (hn:Hp):Prop:=
 bif H.kK then ∃ X mv hx,u=.tuple #[.pointer (some ⟨X,0,none⟩),.bool true]∧(∀ i,i<4→∀ wc,Here hx wc→aF wc (mv i) 3 ((H.msA i).map O1))∧aC (⟨X,Hw wv cv vv rv mv,99⟩::hx) hn
 else u=.tuple #[.pointer none,.bool false]
set_option maxHeartbeats 2000000 in
theorem Pg {w:World} {wv cv vv rv:Value} {H:HyD} (h:MX w wv cv vv rv H):Fn Tryz.prog 34 [.agg #[wv,cv,vv,rv]].toArray w [] (JY H wv cv vv rv):=by
 have hfit:=h.fit
 obtain ⟨cs,vs,e1,e2,_,hH⟩:=h.ex
 have hvl:vs.length=H.vs.length:=by rw [← e2,List.length_map]
 have hcl:cs.length=H.cs.length:=by rw [← e1,List.length_map]
 have hws:=hH.ws
 obtain ⟨q,cap,rfl,hne,_⟩:=hws.opened
 have ho2:=hH.cs.rows.opened
 have ho3:=hH.vs.rows.opened
 have ho4:=hH.rs.opened
 rw [hcl] at ho2
 rw [hvl] at ho3
 obtain ⟨n2,en2⟩:∃ n,n=H.cs.length:=⟨_,rfl⟩
 obtain ⟨n3,en3⟩:∃ n,n=H.vs.length:=⟨_,rfl⟩
 obtain ⟨n4,en4⟩:∃ n,n=H.rs.length:=⟨_,rfl⟩
 rw [← en2] at ho2
 rw [← en3] at ho3
 rw [← en4] at ho4
 obtain ⟨q2,cap2,rfl,hne2,_⟩:=ho2
 obtain ⟨q3,cap3,rfl,DC,_⟩:=ho3
 obtain ⟨q4,cap4,rfl,NC,_⟩:=ho4
 have hlk:H.kK=(fK H.ws.length && decide (24≤H.ws.length / 8) && (decide (1≤n2) && decide (n2≤3)) && decide (n4=n2) && decide (n3=4)):=by rw [en2,en3,en4];rfl
 obtain ⟨L,hL⟩:∃ L,L=H.kK:=⟨_,rfl⟩
 rw [← hL] at hlk
 have hfl:=hfit.l
 refine enter Tryz.func34 ?_
 refine run ?_
 intro Y X
 refine run ?_
 refine ak (fun wc hG=>Ny H.ws.length cap be5 q wc) ?_
 refine aI ?_
 have hcond:(!decide ((bif fK H.ws.length then (0:Int) else 1)=0) || decide ((bif fK H.ws.length then ((H.ws.length / 8:Nat):Int) else 0)<24) || decide ((n2:Int)<1) || decide (3<(n2:Int)) || !decide ((n4:Int)=(n2:Int)) || !decide ((n3:Int)=4))=!L:=by
  rw [hlk,Bool.eq_iff_iff]
  cases fK H.ws.length with
  | false=>simp
  | true=>
   simp only [cond_true,Bool.or_eq_true,Bool.not_eq_true',Bool.and_eq_false_iff,decide_eq_true_eq,decide_eq_false_iff_not,Bool.true_and]
   simp
   omega
 refine ah _ rfl (fun hb=>?_) (fun hb=>?_)
 ·rw [hcond] at hb
  have hLf:L=false:=by simpa using hb
  refine run ?_
  refine fin2 ?_
  unfold JY
  rw [← hL,hLf];rfl
 rw [hcond] at hb
 have hLt:L=true:=by simpa using hb
 have hS:=nN (hL.symm.trans hLt)
 have h34:n3=4:=by rw [en3,hS.v]
 subst h34
 clear hb hcond hlk
 obtain ⟨b3,o3,rfl⟩:=DC (by intro e;rw [e] at hvl;simp at hvl;omega)
 refine run ?_
 refine aX (σ:=Nat × (Nat→Value) × Hp) (fun s=>[(61,.int .i64 (s.1:Int))]) (fun s=>⟨X,Hw (.slice q H.ws.length cap) (.slice q2 n2 cap2) (.slice (some ⟨b3,o3,none⟩) 4 cap3) (.slice q4 n4 cap4) s.2.1,99⟩::⟨Y,#[.slice q H.ws.length cap,.slice q2 n2 cap2,.slice (some ⟨b3,o3,none⟩) 4 cap3,.slice q4 n4 cap4],29⟩::s.2.2) (fun s=>s.1≤4∧(∀ i,s.1≤i→s.2.1 i=.slice none 0 0)∧(∀ i,i<s.1→∀ wc,Here s.2.2 wc→aF wc (s.2.1 i) 3 ((H.msA i).map O1))) (fun s=>4 - s.1) (0,fun _=>.slice none 0 0,[]) ⟨Nat.zero_le _,fun _ _=>rfl,fun i hi=>absurd hi (Nat.not_lt_zero _)⟩ ?_ (hh:=by dsimp only [Hw];(exact aj))
 rintro ⟨k,mv,hx⟩ m2 hm2 ⟨hk2,hZ,hM⟩
 dsimp only at hm2 hk2 hZ hM ⊢
 refine run ?_
 refine ah _ rfl (fun hc1=>?_) (fun hc1=>?_)
 ·have hlt:k<4:=by simp at hc1;omega
  have hr:=hH.vs.rows.row (k:=k) be5
  have hfs:=hH.vs.fs _ (getD_mem (l:=vs) (k:=k) be5)
  have hu:=Dy e2 k
  rw [show H.vs.getD k default=H.vu k from rfl] at hu
  generalize vs.getD k default=v at *
  refine run ?_
  intro V
  refine aI ?_
  have hhas:(H.vu k).has=!(!v.live || decide ((v.fs.length:Int)=0)):=by
   rw [← hu]
   unfold qK.has jH.u
   cases v.live with
   | false=>rfl
   | true=>
    rw [Bool.eq_iff_iff]
    simp only [Bool.true_and,Bool.not_true,Bool.false_or,Bool.not_eq_true',decide_eq_true_eq,decide_eq_false_iff_not]
    omega
  refine ah _ rfl (fun hd=>?_) (fun hd=>?_)
  ·rw [hd] at hhas
   have hms:H.msA k=[]:=by unfold HyD.msA HyD.JI;rw [hhas];rfl
   refine run ?_
   refine aK (k + 1,mv,hx) ⟨hlt,fun i hi=>hZ i (by dsimp only at hi;omega),fun i hi=>?_⟩ (hm:=by dsimp only;omega) (h2:=by (exact aj))
   dsimp only at hi ⊢
   by_cases e:i=k
   ·subst e
    rw [hms,hZ i (Nat.le_refl _)]
    exact fun wc _=>qC wc 3
   ·exact hM i be5
  rw [hd] at hhas
  have hlv:v.fs.length ≠ 0:=by
   intro e
   rw [e] at hd
   simp at hd
  obtain ⟨qf,cf,ef,Nv,_⟩:=hfs.opened
  obtain ⟨bf,XD,rfl⟩:=Nv (by intro e;rw [e] at hlv;exact hlv rfl)
  rw [ef] at hfs
  have hrf:=au (hfs.row (show 0<v.fs.length by omega))
  simp only [Nat.mul_one] at hrf
  have hroot:v.fs.getD 0 default=(H.vu k).root:=by rw [← hu];rfl
  rw [hroot] at hrf
  have aG2:H.JI k=((eH H.ws (H.vu k).root 0 4096).getD []).filter (fun m=>decide (m.mid≤15)):=by unfold HyD.JI;rw [hhas];rfl
  have Zg:H.msA k=(H.JI k).map fun m=>⟨m.mid,m.gU,Du H.ws (H.vu k).root m.mid⟩:=rfl
  rw [aG2] at Zg
  generalize (H.vu k).root=root at hrf Zg
  rw [ef]
  refine run ?_
  refine late 10 9 ?_
  refine yT 10 [0,1,2,3,4,5] [6] [7,8,9] ?_
  refine fU ?_
  refine jB (fun wc hG=>(VS H.ws hH.Jt (hws.good hG) hS.m root).mono (R':=Ez ((eH H.ws root 0 4096).getD [])) (fun u hn hu=>Ez.of hu)) (Ez.ex ?_) ?_
  ·cases hz:eH H.ws root 0 4096 with
   | none=>exact Nat.zero_le _
   | some zs=>exact yl _ _ _ _ _ hz
  refine jS ?_
  rintro u hn ⟨v1,h1,e,rfl,hO,hle⟩
  have hxl:((eH H.ws root 0 4096).getD []).length≤4096:=by
   cases hz:eH H.ws root 0 4096 with
   | none=>exact Nat.zero_le _
   | some zs=>exact yl _ _ _ _ _ hz
  have hxm:∀ m∈(eH H.ws root 0 4096).getD [],∃ q:Nat,q≤4095∧m.mid=(q:Int):=fun m hm=>by
   cases hz:eH H.ws root 0 4096 with
   | none=>rw [hz] at hm;cases hm
   | some zs=>
    rw [hz] at hm
    obtain ⟨k,hk,e⟩:=Hu hz hm
    rw [Nat.zero_add] at e
    exact ⟨k,by omega,(yx e).2.2.1⟩
  generalize (eH H.ws root 0 4096).getD []=xs at hO Zg hxl hxm
  refine xJ ?_
  refine dY ?_
  refine dY ?_
  refine iW ?_
  refine qU ?_
  simp only [List.cons_append,List.nil_append,List.append_nil]
  obtain ⟨q5,c5,x5⟩:=hO.opened
  rw [List.length_map] at x5
  subst x5
  refine run ?_
  have hxr:∀ (wc:World) (hp:Hp),Good w [] hp wc→(∀ e∈h1,e∈hp)→aF wc (.slice q5 xs.length c5) 2 (xs.map dS):=fun wc hp hG hs=>hO.lie (hG.lie hs) be9
  refine aX (σ:=Nat × Value × Hp) (fun s=>[(87,.int .i64 (s.1:Int))]) (fun s=>⟨X,Hw (.slice q H.ws.length cap) (.slice q2 n2 cap2) (.slice (some ⟨b3,o3,none⟩) 4 cap3) (.slice q4 n4 cap4) (uH mv k s.2.1),99⟩::⟨V,#[.bool v.live,.bool v.dying,.int .i64 v.aO,.slice (some ⟨bf,XD,none⟩) v.fs.length cf,v.rv,v.vv],111⟩::⟨Y,#[.slice q H.ws.length cap,.slice q2 n2 cap2,.slice (some ⟨b3,o3,none⟩) 4 cap3,.slice q4 n4 cap4],29⟩::(hx++(h1++s.2.2))) (fun s=>s.1≤xs.length∧Acc 152 3 s.2.1 s.2.2 ((((xs.take s.1).filter fun m=>decide (m.mid≤15)).map fun m=>(⟨m.mid,m.gU,Du H.ws root m.mid⟩:XB)).map O1)) (fun s=>xs.length - s.1) (0,.slice none 0 0,[]) ⟨Nat.zero_le _,Acc.nil _ _⟩ ?_ (hh:=by
   dsimp only
   rw [Rq (hZ k (Nat.le_refl _))]
   (exact cnt1 hle))
  rintro ⟨j,mk,ha⟩ m3 hm3 ⟨hj,hA⟩
  dsimp only at hm3 hj hA ⊢
  refine run ?_
  refine ah _ rfl (fun hc2=>?_) (fun hc2=>?_)
  ·have hjl:j<xs.length:=by simp at hc2;omega
   obtain ⟨g5,k5,Rt,e5,eh5,_,hn5,_⟩:=hO.lY hjl
   have hm0:=hn5 0 _ rfl
   have hm1:=hn5 1 _ rfl
   rw [Nat.add_zero] at hm0
   have ht5:List.take 2 (List.drop (j * 2) Rt.toList)=dS (xs.getD j default):=O6 hm0 hm1
   obtain ⟨qq,aU5,hqm⟩:=hxm _ (getD_mem hjl)
   have htk:(xs.take (j + 1)).filter (fun m=>decide (m.mid≤15))=(xs.take j).filter (fun m=>decide (m.mid≤15))++(if (xs.getD j default).mid≤15 then [xs.getD j default] else []):=by
    rw [List.take_succ_eq_append_getElem hjl,List.filter_append,oH xs hjl]
    congr 1
    exact Zd _
   generalize xs.getD j default=m at ht5 hm0 hm1 hqm htk
   obtain ⟨mm,mf⟩:=m
   dsimp only at hqm htk
   subst hqm
   injection e5 with e5 _ e5'
   subst e5 e5' eh5
   simp only [dS] at ht5
   refine tJ (⟨g5,Rt,148⟩::⟨X,Hw (.slice q H.ws.length cap) (.slice q2 n2 cap2) (.slice (some ⟨b3,o3,none⟩) 4 cap3) (.slice q4 n4 cap4) (uH mv k mk),99⟩::⟨V,#[.bool v.live,.bool v.dying,.int .i64 v.aO,.slice (some ⟨bf,XD,none⟩) v.fs.length cf,v.rv,v.vv],111⟩::⟨Y,#[.slice q H.ws.length cap,.slice q2 n2 cap2,.slice (some ⟨b3,o3,none⟩) 4 cap3,.slice q4 n4 cap4],29⟩::(hx++ha)) aj ?_
   refine run ?_
   intro M
   refine run ?_
   refine ah _ rfl (fun hd2=>?_) (fun hd2=>?_)
   rotate_left
   ·have hqn:¬ (qq:Int)≤15:=of_decide_eq_false hd2
    rw [if_neg hqn,List.append_nil] at htk
    refine az ?_
    refine aK (j + 1,mk,ha) ⟨hjl,by dsimp only;rw [htk];exact hA⟩ (hm:=by dsimp only;omega) (h2:=by (exact aj))
   have hqy:(qq:Int)≤15:=of_decide_eq_true hd2
   rw [if_pos hqy] at htk
   refine run ?_
   refine wC 14 [0,1,2,3,4,5,6,7,8] [13] [9,10,11,12] [15,16] [14] ?_
   refine fU ?_
   refine G6 (fun wc hx hG=>G7 H.ws hH.Jt (hws.good hG) hS.m root qq be5) ?_
   refine fU ?_
   refine qR ?_
   refine jS ?_
   rintro _ _ ⟨D,rfl,rfl⟩
   have hsf:Du H.ws root (qq:Int)=(kJ H.ws root qq).d.soft:=by unfold Du;rw [Int.toNat_natCast]
   generalize kJ H.ws root qq=g at hsf
   refine xJ ?_
   refine dY ?_
   refine dY ?_
   refine dY ?_
   refine iW ?_
   refine oC ?_
   refine oC ?_
   refine iW ?_
   simp only [DN,List.cons_append,List.nil_append,List.append_nil]
   refine nJ (b:=D) (tb:=124) (cs:=#[.int .i64 0,.int .i64 0,.bool false,.bool false,.bool false,.bool false,.bool false,.int .i64 0,.int .i64 0]) (cs':=#[.int .i64 g.d.kind,.int .i64 g.d.frame,.bool g.d.r,.bool g.d.w,.bool g.d.x,.bool g.d.af,.bool g.d.ng,.int .i64 g.d.soft,.int .i64 g.d.note]) (hp':=⟨M,#[.int .i64 (qq:Int),.int .i64 mf],148⟩::⟨g5,Rt,148⟩::⟨X,Hw (.slice q H.ws.length cap) (.slice q2 n2 cap2) (.slice (some ⟨b3,o3,none⟩) 4 cap3) (.slice q4 n4 cap4) (uH mv k mk),99⟩::⟨V,#[.bool v.live,.bool v.dying,.int .i64 v.aO,.slice (some ⟨bf,XD,none⟩) v.fs.length cf,v.rv,v.vv],111⟩::⟨Y,#[.slice q H.ws.length cap,.slice q2 n2 cap2,.slice (some ⟨b3,o3,none⟩) 4 cap3,.slice q4 n4 cap4],29⟩::(hx++ha)) ?_ aJ
   refine dw ?_
   refine lg ?_
   have hcx:=Zf (.slice q H.ws.length cap) (.slice q2 n2 cap2) (.slice (some ⟨b3,o3,none⟩) 4 cap3) (.slice q4 n4 cap4) (uH mv k mk) hlt
   rw [O9] at hcx
   refine run ?_
   refine zn 19 14 [0,1,2,3,4,5,6,7,8,9,10,11,12,15,16,17] [(13,false),(14,false),(18,false)] (⟨D,#[.int .i64 g.d.kind,.int .i64 g.d.frame,.bool g.d.r,.bool g.d.w,.bool g.d.x,.bool g.d.af,.bool g.d.ng,.int .i64 g.d.soft,.int .i64 g.d.note],124⟩::⟨M,#[.int .i64 (qq:Int),.int .i64 mf],148⟩::⟨g5,Rt,148⟩::⟨V,#[.bool v.live,.bool v.dying,.int .i64 v.aO,.slice (some ⟨bf,XD,none⟩) v.fs.length cf,v.rv,v.vv],111⟩::⟨Y,#[.slice q H.ws.length cap,.slice q2 n2 cap2,.slice (some ⟨b3,o3,none⟩) 4 cap3,.slice q4 n4 cap4],29⟩::hx) ?_
   refine jT ?_
   obtain ⟨q7,c7,x7⟩:=hA.own.opened
   obtain ⟨n7,en7⟩:∃ n,n=((((xs.take j).filter fun m=>decide (m.mid≤15)).map fun m=>(⟨m.mid,m.gU,Du H.ws root m.mid⟩:XB)).map O1).length:=⟨_,rfl⟩
   have hn7:n7≤4096:=by
    rw [en7,List.length_map,List.length_map]
    exact Nat.le_trans (List.length_filter_le _ _) bi6
   rw [← en7] at x7
   subst x7
   refine xC ?_
   refine CO [.int .i64 (qq:Int),.int .i64 mf,.int .i64 g.d.soft] (fun Z=>?_)
   refine dw ?_
   refine aj1 (c:=[.int .i64 (qq:Int),.int .i64 mf,.int .i64 g.d.soft]) (hp':=⟨Z,#[.int .i64 (qq:Int),.int .i64 mf,.int .i64 g.d.soft],152⟩::⟨X,Hw (.slice q H.ws.length cap) (.slice q2 n2 cap2) (.slice (some ⟨b3,o3,none⟩) 4 cap3) (.slice q4 n4 cap4) (uH mv k (.slice q7 n7 c7)),99⟩::⟨D,#[.int .i64 g.d.kind,.int .i64 g.d.frame,.bool g.d.r,.bool g.d.w,.bool g.d.x,.bool g.d.af,.bool g.d.ng,.int .i64 g.d.soft,.int .i64 g.d.note],124⟩::⟨M,#[.int .i64 (qq:Int),.int .i64 mf],148⟩::⟨g5,Rt,148⟩::⟨V,#[.bool v.live,.bool v.dying,.int .i64 v.aO,.slice (some ⟨bf,XD,none⟩) v.fs.length cf,v.rv,v.vv],111⟩::⟨Y,#[.slice q H.ws.length cap,.slice q2 n2 cap2,.slice (some ⟨b3,o3,none⟩) 4 cap3,.slice q4 n4 cap4],29⟩::hx) hA (bQ (m:=3) mh rfl) (by rw [← en7];omega) aJ aj (fun v' ha' hA2=>?_)
   obtain ⟨q9,c9,e9⟩:=hA2.own.opened
   obtain ⟨n9,en9⟩:∃ n,n=(((((xs.take j).filter fun m=>decide (m.mid≤15)).map fun m=>(⟨m.mid,m.gU,Du H.ws root m.mid⟩:XB)).map O1)++[[Value.int .i64 (qq:Int),.int .i64 mf,.int .i64 g.d.soft]]).length:=⟨_,rfl⟩
   rw [← en9] at e9
   subst e9
   refine xC ?_
   refine rq ay (b:=X) (tb:=99) (off:=4 + k) (vs:=[.slice q9 n9 c9]) (hp':=ha'++(⟨Z,#[.int .i64 (qq:Int),.int .i64 mf,.int .i64 g.d.soft],152⟩::⟨D,#[.int .i64 g.d.kind,.int .i64 g.d.frame,.bool g.d.r,.bool g.d.w,.bool g.d.x,.bool g.d.af,.bool g.d.ng,.int .i64 g.d.soft,.int .i64 g.d.note],124⟩::⟨M,#[.int .i64 (qq:Int),.int .i64 mf],148⟩::⟨g5,Rt,148⟩::⟨V,#[.bool v.live,.bool v.dying,.int .i64 v.aO,.slice (some ⟨bf,XD,none⟩) v.fs.length cf,v.rv,v.vv],111⟩::⟨Y,#[.slice q H.ws.length cap,.slice q2 n2 cap2,.slice (some ⟨b3,o3,none⟩) 4 cap3,.slice q4 n4 cap4],29⟩::hx)) rfl rfl rfl (by (first | ((simp only [Value.cells])<;>rfl) | rfl)) rfl rfl aJ rfl (by show 4 + k + 1≤8;omega) (show putAt (Hw (.slice q H.ws.length cap) (.slice q2 n2 cap2) (.slice (some ⟨b3,o3,none⟩) 4 cap3) (.slice q4 n4 cap4) (uH mv k (.slice q7 n7 c7))) (4 + k) [.slice q9 n9 c9]=Hw (.slice q H.ws.length cap) (.slice q2 n2 cap2) (.slice (some ⟨b3,o3,none⟩) 4 cap3) (.slice q4 n4 cap4) (uH mv k (.slice q9 n9 c9)) by rw [Ze _ _ _ _ _ hlt,Nz]) aj ?_
   refine dw ?_
   refine QZ ?_
   refine lg ?_
   refine run ?_
   refine aK (j + 1,.slice q9 n9 c9,ha') ⟨hjl,?_⟩ (hm:=by dsimp only;omega) (h2:=by (exact aj))
   dsimp only
   rw [htk,List.map_append,List.map_append]
   rw [← hsf] at hA2
   exact hA2
  have hje:j=xs.length:=by simp at hc2;omega
  subst hje
  rw [List.take_length] at hA
  rw [← Zg] at hA
  refine run ?_
  refine aK (k + 1,uH mv k mk,hx++ha) ⟨hlt,fun i hi=>?_,fun i hi=>?_⟩ (hm:=by dsimp only;omega) (h2:=by (exact aj))
  ·dsimp only at hi ⊢
   rw [← hZ i be5]
   exact if_neg be5
  ·dsimp only at hi ⊢
   by_cases e:i=k
   ·subst e
    rw [O9]
    intro wc hw
    refine hA.own.lie (hw.sub fun e he=>List.mem_append_right _ he) ?_
    have:=Hl H i
    unfold HyD.msA
    rw [List.length_map,List.length_map]
    omega
   ·rw [show uH mv k mk i=mv i from if_neg e]
    exact fun wc hw=>hM i be5 wc (hw.sub fun e he=>List.mem_append_left _ he)
 have hk4:k=4:=by simp at hc1;omega
 subst hk4
 refine run ?_
 refine fin2 ?_
 unfold JY
 rw [← hL,hLt,cond_true]
 exact ⟨X,mv,hx,rfl,hM,by (exact aj)⟩
theorem FB {w:World} {X:Nat} {wv cv vv rv:Value} {mv:Nat→Value} {H:HyD} {hx:Hp} {t:TypeId} (h:MX w wv cv vv rv H) (hm:∀ i,i<4→∀ wc,Here hx wc→aF wc (mv i) 3 ((H.msA i).map O1)) (hL:H.kK=true) (hh:Here (⟨X,Hw wv cv vv rv mv,t⟩::hx) w):wH w X wv cv vv rv mv H:=
 ⟨pG (t:=t) (hh _ (List.mem_cons_self ..)),h,fun i hi=>hm i hi w fun e he=>hh e (List.mem_cons_of_mem _ he),hL⟩
def Bz (H:HyD) (u:Value) (hn:Hp):Prop:=bif H.kK then ∃ a1 a2 a3 k1 k2 k3:_,∃ n1 n2 n3:Nat,u=.tuple #[.agg #[.slice a1 n1 k1,.slice a2 n2 k2,.slice a3 n3 k3],.int .i64 0]∧∀ w,Here hn w→fD w (.slice a1 n1 k1) (.slice a2 n2 k2) (.slice a3 n3 k3) H.aQ
 else u=.tuple #[.agg #[.slice none 0 0,.slice none 0 0,.slice none 0 0],.int .i64 1]
theorem ND {w:World} {wv cv vv rv:Value} {H:HyD} (h:MX w wv cv vv rv H):Fn Tryz.prog 16 [.agg #[wv,cv,vv,rv]].toArray w [] (Bz H):=by
 have h':=h
 obtain ⟨cs,vs,_,_,_,hH⟩:=h.ex
 obtain ⟨q,cap,rfl,hne,_⟩:=hH.ws.opened
 obtain ⟨q2,cap2,rfl,hne2,_⟩:=hH.cs.rows.opened
 obtain ⟨q3,cap3,rfl,DC,_⟩:=hH.vs.rows.opened
 obtain ⟨q4,cap4,rfl,NC,_⟩:=hH.rs.opened
 refine enter Tryz.func16 ?_
 refine run ?_
 intro B R
 refine run ?_
 refine dJ (fun wc hG=>Pg (h'.good hG)) ?_
 intro u hn hu
 unfold JY at hu
 cases hL:H.kK with
 | false=>
  rw [hL,cond_false] at hu
  subst hu
  refine aP [⟨R,#[.slice none 0 0,.slice none 0 0,.slice none 0 0],38⟩] aj ?_
  refine run ?_
  refine ah _ rfl (fun hd=>?_) (fun hd=>absurd hd be6)
  refine run ?_
  refine jl (cs:=#[.slice none 0 0,.slice none 0 0,.slice none 0 0]) ?_
  unfold Bz
  rw [hL];rfl
 | true=>
  rw [hL,cond_true] at hu
  obtain ⟨X,mv,hx,rfl,hM,hX⟩:=hu
  refine aP (⟨X,Hw (.slice q H.ws.length cap) (.slice q2 cs.length cap2) (.slice q3 vs.length cap3) (.slice q4 H.rs.length cap4) mv,99⟩::(hx++[⟨R,#[.slice none 0 0,.slice none 0 0,.slice none 0 0],38⟩])) (cnt1 hX) ?_
  refine run ?_
  refine ah _ rfl (fun hd=>absurd hd be6) (fun hd=>?_)
  refine run ?_
  refine dJ (fun wc hG=>O8 (FB (X:=X) (t:=99) (h'.good hG) hM hL (hG.lie fun e he=>by simp at he ⊢;rcases he with he | he<;>simp [he]))) ?_
  rintro _ hn2 ⟨a1,a2,a3,k1,k2,k3,m1,m2,m3,rfl,hP⟩
  refine aP (⟨R,#[.slice none 0 0,.slice none 0 0,.slice none 0 0],38⟩::hn2) aj ?_
  refine run ?_
  refine jl ?_
  unfold Bz
  rw [hL]
  exact ⟨a1,a2,a3,k1,k2,k3,m1,m2,m3,rfl,fun w hw=>hP w (hw.sub fun e he=>by simp [he])⟩
theorem VT (c:Iy) (w:World):Fn Tryz.prog 79 ([]++[Value.agg (Fg c).toArray]++[]).toArray w [] (fun u _=>u=.bool (!HyD.XC c)):=by
 refine enter Tryz.func79 ?_
 refine run ?_
 intro B
 refine aI ?_
 refine fin1 ?_
 have:=Vq c.r dK
 simp only [nT,dK] at this
 unfold HyD.XC
 rw [Bool.not_or,← Vq]
 rfl
theorem VU (v:jH) (n:Int) (C:Nat) (w:World) (hC:w.cell? ⟨C,2,none⟩=some (.int .i64 n)):Fn Tryz.prog 81 ([]++[Value.agg (zO v).toArray]++[Value.pointer (some ⟨C,0,none⟩)]).toArray w [] (fun u _=>u=.bool (v.live && decide (v.aO=n))):=by
 refine enter Tryz.func81 ?_
 refine run ?_
 intro B
 refine aI ?_
 exact fin1 rfl
theorem kQ {n:Nat} {p:Nat→Bool} (h:∀ i,i<n→p i=true):allB n p=true:=bM.2 h
theorem oI {n i:Nat} {p:Nat→Bool} (hi:i<n) (h:p i=false):allB n p=false:=by
 cases hh:allB n p with
 | false=>rfl
 | true=>have:=bM.1 hh i hi;rw [h] at this;cases this
theorem VV {w:World} {X:Nat} {wv cv vv rv:Value} {mv:Nat→Value} {H:HyD} (h:wH w X wv cv vv rv mv H):Fn Tryz.prog 41 [.pointer (some ⟨X,0,none⟩)].toArray w [] (fun u _=>u=.bool H.quiet):=by
 have hL:=nN h.ok
 obtain ⟨cs,vs,e1,e2,_,hH⟩:=h.h.ex
 have hvl:vs.length=4:=by rw [← hL.v,← e2,List.length_map]
 have hcl:cs.length=H.cs.length:=by rw [← e1,List.length_map]
 have hop:=hH.vs.rows.opened
 rw [hvl] at hop
 obtain ⟨q2,cap2,rfl,hne2,_⟩:=hop
 obtain ⟨b2,o2,rfl⟩:=hne2 bh'
 have h2:w.rangeAt X 2 [.slice (some ⟨b2,o2,none⟩) 4 cap2]:=bg (k:=2) (n:=1) h.x rfl
 have h2':=au h2
 have JX:=hH.cs.rows.opened
 rw [hcl] at JX
 obtain ⟨q3,cap3,rfl,DC,_⟩:=JX
 obtain ⟨b3,o3,rfl⟩:=DC (by intro e;rw [e] at hcl;have:=hL.c1;simp at hcl;omega)
 have h3:w.rangeAt X 1 [.slice (some ⟨b3,o3,none⟩) H.cs.length cap3]:=bg (k:=1) (n:=1) h.x rfl
 have h3':=au h3
 have aw5:=hH.rs.opened
 rw [hL.r] at aw5
 obtain ⟨q4,cap4,rfl,NC,_⟩:=aw5
 obtain ⟨b4,o4,rfl⟩:=NC (by intro e;have:=hL.r;have:=hL.c1;rw [e] at *;simp at *;omega)
 have h4:w.rangeAt X 3 [.slice (some ⟨b4,o4,none⟩) H.cs.length cap4]:=bg (k:=3) (n:=1) h.x rfl
 have h4':=au h4
 unfold HyD.quiet
 refine enter Tryz.func41 ?_
 refine run ?_
 refine aX (σ:=Nat) (fun k=>[(13,.int .i64 (k:Int))]) (fun _=>[]) (fun k=>k≤H.cs.length∧∀ j,j<k→H.cpQ j=true) (fun k=>H.cs.length - k) 0 ⟨Nat.zero_le _,fun j hj=>absurd hj (Nat.not_lt_zero _)⟩ ?_
 ·rintro k m hm ⟨hk,hK⟩
  refine run ?_
  refine ah _ rfl (fun hc=>?_) (fun hc=>?_)
  ·have hlt:k<H.cs.length:=by simp at hc;omega
   have hr3:=hH.cs.rows.row (k:=k) be5
   have hr4:=hH.rs.row (k:=k) (by rw [hL.r];exact hlt)
   have XF:=yj e1 k
   have hq:H.cpQ k=(!decide ((cs.getD k default).vm=0) || decide (H.rs.getD k default=dK)):=by unfold HyD.cpQ HyD.cu;rw [← XF];rfl
   generalize cs.getD k default=c at hr3 hq
   generalize H.rs.getD k default=r at hr4 hq
   refine run ?_
   intro U
   refine aI ?_
   have hg:(decide (c.vm=0) && !aW (nT r) (nT dK))=!H.cpQ k:=by rw [Vq,hq];cases decide (c.vm=0)<;>simp
   refine ah _ rfl (fun hd=>?_) (fun hd=>?_)
   ·replace hd:=hg.symm.trans hd
    refine run ?_
    refine fin1 ?_
    rw [oI hlt (by simpa using hd)];rfl
   replace hd:=hg.symm.trans hd
   refine run ?_
   refine aK (k + 1) ⟨hlt,fun j hj=>?_⟩
   by_cases e:j=k
   ·subst e;simpa using hd
   ·exact hK j be5
  have hke:k=H.cs.length:=by simp at hc;omega
  subst hke
  rw [kQ hK,Bool.true_and]
  refine run ?_
  refine aX (σ:=Nat) (fun k=>[(40,.int .i64 (k:Int))]) (fun _=>[]) (fun k=>k≤4∧∀ j,j<k→H.vmQ j=true) (fun k=>4 - k) 0 ⟨Nat.zero_le _,fun j hj=>absurd hj (Nat.not_lt_zero _)⟩ ?_
  rintro k2 m2 hm2 ⟨hk2,hK2⟩
  refine run ?_
  refine ah _ rfl (fun hc2=>?_) (fun hc2=>?_)
  rotate_left
  ·have hk4:k2=4:=by simp at hc2;omega
   subst hk4
   refine run ?_
   refine fin1 ?_
   rw [kQ hK2]
  have hlt2:k2<4:=by simp at hc2;omega
  have hr2:=hH.vs.rows.row (k:=k2) be5
  have nP:=hH.vs.vs _ (getD_mem (l:=vs) (k:=k2) be5)
  have hvu:=Dy e2 k2
  have hf:=h.h.fit.v (H.vs.getD k2 default) (getD_mem (by rw [hL.v];exact hlt2))
  rw [← hvu] at hf
  simp only [jH.u] at hf
  have hq:H.vmQ k2=bif (vs.getD k2 default).live then (vs.getD k2 default).vs.all HyD.XC && PtD.di (vs.getD k2 default).aO 1 15 && !(H.vs.take k2).any fun o=>o.live && decide (o.aO=(vs.getD k2 default).aO)
    else decide ((vs.getD k2 default).vs=[]) && decide ((vs.getD k2 default).fs=[]) && decide ((vs.getD k2 default).fr=[]) && decide ((vs.getD k2 default).aO=0):=by
   unfold HyD.vmQ HyD.vu
   rw [← hvu];rfl
  have hqt:((H.vs.take k2).any fun o=>o.live && decide (o.aO=(vs.getD k2 default).aO))=((vs.take k2).any fun o=>o.live && decide (o.aO=(vs.getD k2 default).aO)):=by
   rw [← e2,← List.map_take,List.any_map];rfl
  rw [hqt] at hq
  generalize vs.getD k2 default=v at hr2 nP hq hf
  refine run ?_
  intro W
  refine aI ?_
  have hB:(decide (v.vs=[]) && decide (v.fs=[]) && decide (v.fr=[]) && decide (v.aO=0))=!(decide (0<(v.vs.length:Int) + v.fs.length + v.fr.length) || !decide (v.aO=0)):=by
   rw [Bool.eq_iff_iff]
   simp only [Bool.and_eq_true,Bool.not_eq_true',Bool.or_eq_false_iff,decide_eq_true_eq,decide_eq_false_iff_not,Bool.not_eq_false',← List.length_eq_zero_iff]
   have:=Int.natCast_nonneg v.vs.length
   generalize v.aO=z
   omega
  rw [hB] at hq
  refine ah _ rfl (fun hd=>?_) (fun hd=>?_)
  ·have:H.vmQ k2=false:=by
    rw [hq]
    cases hlv:v.live with
    | true=>rw [hlv] at hd;cases hd
    | false=>
     rw [hlv] at hd
     simp only [Bool.not_false,Bool.true_and] at hd
     rw [cond_false,hd];rfl
   refine run ?_
   refine fin1 ?_
   rw [oI hlt2 this]
  have hd1:=hd
  clear hd
  refine run ?_
  refine ak (fun wc hG=>Eu (us:=[]) (fun c=>!HyD.XC c) v.vs _ (nP.good hG) (fun c _ w' _=>VT c w')) ?_
  have hany:(v.vs.any fun c=>!HyD.XC c)=!(v.vs.all HyD.XC):=by rw [List.not_all_eq_any_not]
  rw [hany]
  have hnil:v.vs=[]→v.vs.all HyD.XC=true:=fun e=>by rw [e];rfl
  generalize v.vs.all HyD.XC=a at hq hnil
  refine run ?_
  refine ah _ rfl (fun hd=>?_) (fun hd=>?_)
  ·have ha:a=false:=by simpa using hd
   have:H.vmQ k2=false:=by
    rw [hq,ha]
    cases hlv:v.live with
    | true=>simp
    | false=>
     rw [hlv] at hd1
     exfalso
     rw [ha] at hnil
     refine absurd (hnil ?_) be7
     rw [← List.length_eq_zero_iff]
     rw [Bool.or_eq_false_iff] at hd1
     have:=hd1.1
     simp only [Bool.not_false,Bool.true_and,decide_eq_false_iff_not] at this
     omega
   refine run ?_
   refine fin1 ?_
   rw [oI hlt2 this]
  have ha:a=true:=by simpa using hd
  subst ha
  clear hd
  refine aI ?_
  have hcap2:4≤cap2:=by
   obtain ⟨_,c,e,hle⟩:=h.h.cap
   rw [hL.v] at e hle
   injection e with _ _ e
   omega
  refine ag4 (v:=.slice (some ⟨b2,o2,none⟩) k2 cap2) (hy:=fun hg1 hg2=>by simp only [hg1,hg2,bG,Bool.and_self];exact mW ay rfl rfl be8 be5 be5 (m':=k2) be7 (.inr ⟨_,_,rfl⟩)) (h:=?_)
  refine aI ?_
  have hvt:aF w (.slice (some ⟨b2,o2,none⟩) k2 cap2) 6 ((vs.take k2).map zO):=hH.vs.rows.takeN be5
  refine OD (fun hg1 hg2 wc hG=>vN (us:=[.pointer (some ⟨W,0,none⟩)]) (fun o=>o.live && decide (o.aO=v.aO)) (vs.take k2) _ (hvt.good hG) (fun o _ w' ha=>VU o v.aO W w' ?_)) ?_
  ·obtain ⟨hp,hg⟩:=ha
   exact hg.cell (by rw [cell_of_block (hG.here ⟨W,#[.bool v.live,.bool v.dying,.int .i64 v.aO,v.fv,v.rv,v.vv],111⟩ mh)];rfl) be7
  refine aI ?_
  generalize (vs.take k2).any (fun o=>o.live && decide (o.aO=v.aO))=c at hq
  have hg:(v.live && (decide (v.aO<1) || decide (15<v.aO) || c))=!H.vmQ k2:=by
   rw [hq]
   cases hlv:v.live with
   | true=>
    rw [cond_true,Bool.true_and,Bool.true_and,Bool.eq_iff_iff]
    cases c with
    | true=>simp
    | false=>
     simp only [PtD.di,Bool.or_false,Bool.not_false,Bool.and_true,Bool.or_eq_true,Bool.not_eq_true',Bool.and_eq_false_iff,decide_eq_true_eq,decide_eq_false_iff_not]
     omega
   | false=>
    rw [hlv] at hd1
    simp only [Bool.not_false,Bool.true_and] at hd1
    rw [cond_false,hd1];rfl
  refine ah _ rfl (fun hd=>?_) (fun hd=>?_)
  ·replace hd:=hg.symm.trans hd
   refine run ?_
   refine fin1 ?_
   rw [oI hlt2 (by simpa using hd)]
  replace hd:=hg.symm.trans hd
  refine run ?_
  refine aK (k2 + 1) ⟨hlt2,fun j hj=>?_⟩
  by_cases e:j=k2
  ·subst e;simpa using hd
  ·exact hK2 j be5
end
section
section
variable {P : Program} {n : Nat} {w0 : World} {mu : List Nat} {l : Fm} {h0 hp hc : Hp} {Q : Exit → Fm → Hp → Prop} {all : Array Oper} {ds : List (Nat × Nat)} {t0 : Nat} {i d : Nat} {iv fr : Fm} {rest : List Oper} {op : Op} {ty : TypeId} {pos : String} {af : Array Edge} {j : Nat} {want : Bool} {dj : Nat} {b : Bool}
end
section
variable {n : Nat} {w0 : World} {mu : List Nat} {l : Fm} {hp : Hp} {dd : Option Tmp} {ty : TypeId} {pos : String} {af : Array Edge} {gg : Option (Nat × Bool)}
theorem Hz {t:TypeId} {x:Operand} {b off:Nat} {v:Value} (hs:mem Tb.sc t=true) (hx:ev l x=some (.pointer (some ⟨b,off,none⟩))) (hc:∀ w,Good w0 mu hp w→w.cell? ⟨b,off,none⟩=some v):Hy Tryz.prog n w0 mu l hp ⟨dd,.load t x,ty,pos,af,gg⟩ v:=
 bF fun a w hk hG=>by
  simp only [execOp,hk.ev hx]
  simp [sW (ay.gsc hs) (hc w hG)]
end
section
variable {n : Nat} {w0 : World} {mu : List Nat} {l : Fm} {h0 hp hc : Hp} {all : Array Oper} {iv aH aS : Fm} {i d : Nat} {ds : List (Nat × Nat)} {r : List Nat} {Y : Fm → Hp → Prop} {ty : TypeId} {pos : String} {af : Array Edge}
theorem aG4 {t:TypeId} {x:Operand} {v:Value} {cs:List Value} (h:∀ b,gY Tryz.prog n w0 mu all ds l h0 aH Y r ((i,.pointer (some ⟨b,0,none⟩))::aS) (⟨b,cs.toArray,t⟩::hc)) (ho:all[i]?=some ⟨some d,.box t x,ty,pos,af,none⟩:=by rfl) (hx:ev (aG ds (aS++aH) af.toList++l) x=some v:=by rfl) (hcs:v.cells=cs.toArray:=by (first | ((simp only [Value.cells])<;>rfl) | rfl)):gY Tryz.prog n w0 mu all ds l h0 aH Y (i::r) aS hc:=
 YA ho (af0 hx hcs) (by rintro _ _ ⟨b,rfl,rfl⟩;exact h b)
end
attribute [local irreducible] Hy St Ops DH dG je iI gJ DS gY mP
theorem aF.aw6 {w:World} {α:Type} {f:α→List Value} {xs:List α} {b o n cap sz i k c':Nat} (h:aF w (.slice (some ⟨b,o,none⟩) n cap) sz (xs.map f)) (hk:i + k≤xs.length):aF w (.slice (some ⟨b,o + i * sz,none⟩) k c') sz (((xs.drop i).take k).map f):=by
 obtain ⟨⟨q,c,e,hne⟩,hle⟩:=h
 injection e with e1 e2 e3
 subst e1 e3
 rw [List.length_map] at hle
 have hl:(((xs.drop i).take k).map f).length=k:=by rw [List.length_map,List.length_take,List.length_drop];omega
 refine ⟨⟨_,_,by rw [hl],fun hx=>?_⟩,by rw [hl];omega⟩
 obtain ⟨b',off,e,hr⟩:=hne (by intro e;rw [List.map_eq_nil_iff] at e;rw [e] at hx;simp at hx)
 injection e with e
 injection e with e1 e2 _
 subst e1 e2
 refine ⟨b,o + i * sz,rfl,fun j cc hj=>?_⟩
 rw [List.map_take,List.map_drop,List.getElem?_take] at hj
 split at hj
 ·rw [List.getElem?_drop] at hj
  have:=hr (i + j) cc hj
  rwa [Nat.add_mul,← Nat.add_assoc] at this
 ·cases hj
end
theorem HY {l:List Int} {f:Int}:(l.any fun t=>decide (t=f))=true↔f∈l:=by
 simp
theorem NF {ws:List Nat} {may:Nat→DsD→Bool} {go:List Int→Int→Nat→Option (List Int)} {f:Int} {level page:Nat}:∀ {n:Nat} {seen s:List Int},ji ws may go f level page n seen=some s→∀ k,k<n→∃ a b,ji ws may go f level page k seen=some a∧Fp ws may go f level page k a=some b∧ji ws may go f level page (k + 1) seen=some b:=by
 intro n
 induction n with
 | zero=>intro seen s _ k hk;omega
 | succ n ih=>
  intro seen s h k hk
  cases hs:ji ws may go f level page n seen with
  | none=>rw [ji,hs] at h;cases h
  | some a=>
   by_cases e:k=n
   ·subst e
    rw [ji,hs] at h
    exact ⟨a,s,hs,h,by rw [ji,hs];exact h⟩
   ·exact ih hs k be5
theorem Ru {ws:List Nat} {may:Nat→DsD→Bool} {k:Nat} {seen s:List Int} {f:Int} {level page:Nat} (h:iZ ws may (k + 1) seen f level page=some s):dm ws.length f=true∧f ∉ seen∧ji ws may (fun s f' p=>iZ ws may k s f' (level + 1) p) f level page 8 (seen++[f])=some s:=by
 rw [iZ] at h
 cases hc:(!dm ws.length f || seen.any (fun t=>decide (t=f))) with
 | true=>rw [hc] at h;cases h
 | false=>
  rw [hc,cond_false] at h
  rw [Bool.or_eq_false_iff,Bool.not_eq_false'] at hc
  refine ⟨hc.1,fun hm=>?_,h⟩
  rw [HY.2 hm] at hc
  cases hc.2
theorem NG {ws:List Nat} {may:Nat→DsD→Bool} {go:List Int→Int→Nat→Option (List Int)} {f:Int} {level page k:Nat} {a b:List Int} (hl:level<4) (h:Fp ws may go f level page k a=some b):
  ((kS ws (f.toNat * 8 + k) level).kind=1∧page + k * aB level≤15∧go a (kS ws (f.toNat * 8 + k) level).frame (page + k * aB level)=some b) ∨
  ((kS ws (f.toNat * 8 + k) level).kind ≠ 1∧a=b∧(ws.getD (f.toNat * 8 + k) 0 ≠ 0→(kS ws (f.toNat * 8 + k) level).kind=2∧level=3∧may (page + k) (kS ws (f.toNat * 8 + k) level)=true)):=by
 unfold Fp at h
 by_cases h1:(kS ws (f.toNat * 8 + k) level).kind=1
 ·simp only [h1,decide_true,cond_true] at h
  cases hc:decide (15<page + k * aB level) with
  | true=>rw [hc] at h;cases h
  | false=>
   rw [hc,cond_false] at h
   have:=of_decide_eq_false hc
   exact .inl ⟨h1,by omega,h⟩
 ·simp only [decide_eq_false h1,cond_false] at h
  refine .inr ⟨h1,?_⟩
  cases hc:(!decide (ws.getD (f.toNat * 8 + k) 0=0) && (!decide ((kS ws (f.toNat * 8 + k) level).kind=2) || !decide (level=3) || !may (page + k) (kS ws (f.toNat * 8 + k) level))) with
  | true=>rw [hc] at h;cases h
  | false=>
   rw [hc,cond_false,Option.some.injEq] at h
   refine ⟨h,fun hne=>?_⟩
   rw [decide_eq_false hne,Bool.not_false,Bool.true_and] at hc
   simpa [and_assoc] using hc
structure IA (n:Nat) (seen s:List Int):Prop where
 pre:∃ t,s=seen++t
 nd:seen.Nodup→s.Nodup
 has:(∀ f∈seen,dm n f=true)→∀ f∈s,dm n f=true
theorem IA.refl (n:Nat) (s:List Int):IA n s s:=⟨⟨[],by simp⟩,id,id⟩
theorem IA.trans {n:Nat} {a b c:List Int} (h1:IA n a b) (h2:IA n b c):IA n a c:=by
 obtain ⟨t,e⟩:=h1.pre
 obtain ⟨u,e2⟩:=h2.pre
 exact ⟨⟨t++u,by rw [e2,e,List.append_assoc]⟩,fun h=>h2.nd (h1.nd h),fun h=>h2.has (h1.has h)⟩
theorem IA.snoc {n:Nat} {a:List Int} {f:Int} (hf:dm n f=true) (hm:f ∉ a):IA n a (a++[f]):=
 ⟨⟨[f],rfl⟩,fun h=>List.nodup_append.2 ⟨h,by simp,fun x hx y hy e=>by simp at hy;subst hy;subst e;exact hm hx⟩,fun h g hg=>by
  rcases List.mem_append.1 hg with h1 | h1
  ·exact h g h1
  ·simp at h1;rw [h1];exact hf⟩
theorem IA.sub {n:Nat} {a b:List Int} (h:IA n a b) {f:Int} (hf:f∈a):f∈b:=by
 obtain ⟨t,e⟩:=h.pre
 rw [e];exact List.mem_append_left _ hf
theorem Ph {ws:List Nat} {may:Nat→DsD→Bool}:∀ (k level:Nat) (seen:List Int) (f:Int) (page:Nat) (s:List Int),level + k=4→iZ ws may k seen f level page=some s→IA ws.length seen s∧f∈s:=by
 intro k
 induction k with
 | zero=>intro level seen f page s _ h;cases h
 | succ k ih=>
  intro level seen f page s hlk h
  obtain ⟨h1,h2,h3⟩:=Ru h
  have key:∀ n b,ji ws may (fun s f' p=>iZ ws may k s f' (level + 1) p) f level page n (seen++[f])=some b→IA ws.length (seen++[f]) b:=by
   intro n
   induction n with
   | zero=>intro b hb;cases hb;exact IA.refl _ _
   | succ n ihn=>
    intro b hb
    obtain ⟨a,b',ha,hs,hb'⟩:=NF hb n be5
    rw [hb] at hb'
    cases hb'
    refine (ihn a ha).trans ?_
    rcases NG be5 hs with ⟨hk1,_,hgo⟩ | ⟨_,rfl,_⟩
    ·exact (ih (level + 1) a _ _ b be5 hgo).1
    ·exact IA.refl _ _
  have h4:=key 8 s h3
  exact ⟨(IA.snoc h1 h2).trans h4,h4.sub be7⟩
section
attribute [local irreducible] Hy St Ops DH dG je iI gJ DS gY mP
section
variable {n : Nat} {w0 : World} {mu : List Nat} {l : Fm} {hp : Hp} {Q : Exit → Fm → Hp → Prop} {all : Array Oper} {rest : List Oper} {ty : TypeId} {pos : String} {af : Array Edge}
theorem VW {f d j dj:Nat} {want c0 b:Bool} {x:Operand} {xs:List Operand} {vs fs us:List Value} {tys:Array TypeId} {v:Value} (hc:c0=true→iH b want=true→∀ w,Good w0 mu hp w→Fn Tryz.prog f (fs++vs++us).toArray w [] (fun u _=>u=v)) (h:Ops Tryz.prog n w0 mu all rest ((d,gv (c0 && iH b want) v)::l) hp Q) (bH:mem iF f=true)
  (hj:(all[j]?).bind (·.dst)=some dj:=by rfl) (hb:look l dj=some (gv c0 (.bool b)):=by rfl) (hdj:Nat.blt dj n=true:=by rfl) (hd:Nat.blt d n=true:=by rfl) (hx:c0=true→iH b want=true→ev l x=some (.func (.func f) fs.toArray us.toArray):=by (intro hg0 hg1;(try simp only [Bool.and_eq_true] at hg0);(try simp only [hg0,hg1,bG,Bool.true_and,Bool.and_true,Bool.and_self]);rfl)) (hv:c0=true→iH b want=true→evs l xs=some vs:=by (intro hg0 hg1;(try simp only [Bool.and_eq_true] at hg0);(try simp only [hg0,hg1,bG,Bool.true_and,Bool.and_true,Bool.and_self]);rfl)):Ops Tryz.prog n w0 mu all (⟨some d,.call { callee:=.value x,args:=xs.toArray,argTypes:=tys },ty,pos,af,some (j,want)⟩::rest) l hp Q:=
 BJ hd hj hb hdj (fun hg0 hg=>xw (fC f bH) (hx hg0 hg) (hv hg0 hg) (hc hg0 hg)) h
end
theorem ak3 {wb w wc:World} {ha hp:Hp} (h:Good wb [] ha w) (hG:Good w (ha.map (·.b)) hp wc):rE wb wc:=⟨hp++[],Good.sV (hi:=ha) (hp:=[]) (by rw [List.append_nil];exact h) hG⟩
theorem Pj:∀ (n:Nat) (a:List Int),a.Nodup→(∀ i∈a,0≤i∧i<(n:Int))→a.length≤n
 | 0,a,_,h=>by
  cases a with
  | nil=>exact Nat.le_refl _
  | cons x r=>have:=h x (List.mem_cons_self ..);omega
 | n + 1,a,hn,h=>by
  have h1:=Pj n (a.erase (n:Int)) (hn.erase _) fun i hi=>by
   have h2:=(List.Nodup.mem_erase_iff hn).1 hi
   have:=h i h2.2
   omega
  have h3:=List.length_erase (a:=(n:Int)) (l:=a)
  split at h3<;>omega
theorem DI {n:Nat} {s:List Int} (hn:s.Nodup) (h:∀ f∈s,dm n f=true):s.length≤n / 8:=
 Pj (n / 8) s hn fun f hf=>by
  have:=h f hf
  simp only [dm,Bool.and_eq_true,decide_eq_true_eq] at this
  exact this
def VX (r:Option (List Int)) (u:Value) (hn:Hp):Prop:=match r with
 | none=>u=.tuple #[.slice none 0 0,.bool false]
 | some s=>∃ v h,u=.tuple #[v,.bool true]∧Acc 3 1 v h (s.map dA)∧aC h hn
theorem DJ {ws : List Nat} {may : Nat → DsD → Bool} {go : List Int → Int → Nat → Option (List Int)} {f : Int} {level page : Nat} {seen : List Int} {i : Nat} (h : ji ws may go f level page i seen = none) : ∀ {n : Nat}, i ≤ n → ji ws may go f level page n seen = none := by
  intro n
  induction n with
  | zero => intro hi; obtain rfl : i = 0 := by omega
            exact h
  | succ n ih =>
    intro hi
    by_cases e : i = n + 1
    · subst e; exact h
    · rw [ji, ih be5]
theorem Zh {wb:World} (X b o cap:Nat) (ws:List Nat) (hw:lu ws) (hm:fK ws.length=true) {F:Nat} {us:List Value} (may:Nat→DsD→Bool) (bH:mem iF F=true)
  (hX:wb.cell? ⟨X,0,none⟩=some (.slice (some ⟨b,o,none⟩) ws.length cap)) (hs:aF wb (.slice (some ⟨b,o,none⟩) ws.length cap) 1 (ws.map uV))
  (hF:∀ (page:Nat) (d:DsD),page≤4095→0≤d.frame→∀ wc,rE wb wc→Fn Tryz.prog F ([]++[Value.int .i64 (page:Int),sU d]++us).toArray wc [] (fun u _=>u=.bool (may page d))):
  ∀ (k level:Nat),level + k=3→∀ (w:World) (seen:List Int) (v:Value) (ha:Hp) (f:Int) (page:Nat),Acc 3 1 v ha (seen.map dA)→Good wb [] ha w→seen.Nodup→(∀ f∈seen,dm ws.length f=true)→page % (8 * aB level)=0→page + 8 * aB level≤4096 →
  Fn Tryz.prog 82 [.pointer (some ⟨X,0,none⟩),v,.int .i64 f,.int .i64 (level:Int),.int .i64 (page:Int),.func (.func F) [].toArray us.toArray].toArray w (ha.map (·.b)) (VX (iZ ws may (k + 1) seen f level page)):=by
 intro k
 induction k using Nat.strongRecOn with
 | ind k ih=>
 intro level hlk w seen v ha f page hA hG0 hnd hhas hp hpl
 have Au:=dh hm
 have hl:level<4:=by omega
 have hc9:=jc hl
 have hsl:=DI hnd hhas
 obtain ⟨q,c,ev⟩:=hA.own.opened
 rw [List.length_map] at ev
 subst ev
 have haft:∀ wc hp,Good w (ha.map (·.b)) hp wc→rE wb wc:=fun wc hp hG=>ak3 hG0 hG
 have hcell:∀ wc hp,Good w (ha.map (·.b)) hp wc→wc.cell? ⟨X,0,none⟩=some (.slice (some ⟨b,o,none⟩) ws.length cap):=fun wc hp hG=>by
  obtain ⟨_,hg⟩:=haft wc hp hG
  exact hg.cell hX be7
 have aG5:∀ wc hp,Good w (ha.map (·.b)) hp wc→aF wc (.slice (some ⟨b,o,none⟩) ws.length cap) 1 (ws.map uV):=fun wc hp hG=>by
  obtain ⟨_,hg⟩:=haft wc hp hG
  exact hs.good hg
 refine bU ha ⟨hG0.here,hG0.nodup⟩ Tryz.func82 ?_
 refine aI ?_
 refine Xy (v:=.slice (some ⟨b,o,none⟩) ws.length cap) (hy:=fun hg=>by simp only [hg,bG];exact Hz rfl rfl (fun w1 hG=>hcell w1 _ hG)) (h:=?_)
 refine aI ?_
 refine Xy (v:=.int .i64 ((ws.length / 8:Nat):Int)) (hy:=fun hg=>by simp only [hg,bG];exact uj rfl rfl ws.length 8 rfl rfl be6 be5) (h:=?_)
 refine aI ?_
 have hcs:∀ wc hp,Good w (ha.map (·.b)) hp wc→(∀ e∈ha,e∈hp)→aF wc (.slice q seen.length c) 1 (seen.map dA):=fun wc hp hG hsb=>hA.own.lie (hG.lie hsb) be9
 refine dO (fun hg wc hG=>jg f seen _ (hcs wc _ hG (fun e he=>by simp [he]))) ?_
 refine aI ?_
 have hgc:(decide (f<0) || decide (((ws.length / 8:Nat):Int)≤f) || seen.any fun t=>decide (t=f))=(!dm ws.length f || seen.any fun t=>decide (t=f)):=by
  congr 1
  rw [Bool.eq_iff_iff]
  simp only [dm,Bool.or_eq_true,Bool.not_eq_true',Bool.and_eq_false_iff,decide_eq_true_eq,decide_eq_false_iff_not]
  omega
 refine ah _ rfl (fun hc=>?_) (fun hc=>?_)
 ·replace hc:=hgc.symm.trans hc
  refine run ?_
  refine fin2 ?_
  rw [iZ,hc];rfl
 replace hc:=hgc.symm.trans hc
 have hgr:iZ ws may (k + 1) seen f level page=ji ws may (fun s f' p=>iZ ws may k s f' (level + 1) p) f level page 8 (seen++[f]):=by rw [iZ,hc];rfl
 rw [Bool.or_eq_false_iff,Bool.not_eq_false'] at hc
 have hh:=hc.1
 have hnm:f ∉ seen:=fun hm=>by rw [HY.2 hm] at hc;cases hc.2
 have hfi:=jd hh
 have hG2:=IA.snoc (a:=seen) hh hnm
 rw [hgr]
 clear hgc hgr
 refine run ?_
 intro T
 refine kX (c:=dA f) hA (fun v2 h2 hA2=>?_) be9 (bQ (m:=1) mh rfl)
 rw [← List.map_singleton (f:=dA),← List.map_append] at hA2
 obtain ⟨q2,c2,ev2⟩:=hA2.own.opened
 rw [List.length_map] at ev2
 subst ev2
 refine aP h2 aj ?_
 refine run ?_
 refine ak (fun wc hG=>EU level hl wc) ?_
 refine run ?_
 refine aX (σ:=Nat × List Int × Value × Hp) (fun s=>[(49,.int .i64 (s.1:Int)),(1,s.2.2.1)]) (fun s=>s.2.2.2) (fun s=>s.1≤8∧ji ws may (fun s f' p=>iZ ws may k s f' (level + 1) p) f level page s.1 (seen++[f])=some s.2.1∧IA ws.length (seen++[f]) s.2.1∧Acc 3 1 s.2.2.1 s.2.2.2 (s.2.1.map dA)) (fun s=>8 - s.1) (0,seen++[f],.slice q2 (seen++[f]).length c2,h2) ⟨Nat.zero_le _,rfl,IA.refl _ _,hA2⟩ ?_
 rintro ⟨i,s1,ov,h1⟩ m hm2 ⟨hi,hsl1,hG3,hA1⟩
 dsimp only at hm2 hi hsl1 hG3 hA1 ⊢
 have hs1:s1.length≤ws.length / 8:=DI (hG3.nd (hG2.nd hnd)) (hG3.has (hG2.has hhas))
 obtain ⟨q1,c1,e1⟩:=hA1.own.opened
 rw [List.length_map] at e1
 subst e1
 refine run ?_
 refine ah _ rfl (fun hc2=>?_) (fun hc2=>?_)
 rotate_left
 ·have OT:i=8:=by have:=of_decide_eq_false hc2;omega
  subst OT
  rw [hsl1]
  refine run ?_
  exact fin2 ⟨_,h1,rfl,hA1,aC.refl _⟩
 have OT:i<8:=by have:=of_decide_eq_true hc2;omega
 have hic:i * aB level≤7 * aB level:=Nat.mul_le_mul_right _ be5
 refine run ?_
 refine ja be8 (Hz rfl rfl (fun w1 hG=>hcell w1 _ hG)) ?_
 refine run ?_
 rw [show f * 8 + (i:Int)=((f.toNat * 8 + i:Nat):Int) by omega]
 have aG6:f.toNat * 8 + i<ws.length:=by omega
 have hword:∀ wc hp,Good w (ha.map (·.b)) hp wc→wc.cell? ⟨b,o + (f.toNat * 8 + i),none⟩=some (.int .u64 ((ws.getD (f.toNat * 8 + i) 0:Nat):Int)):=fun wc hp hG=>by
  have:=au ((aG5 wc hp hG).row aG6)
  simp only [Nat.mul_one] at this
  exact this
 refine run ?_
 refine ja be8 (Hz rfl rfl (fun w1 hG=>hword w1 _ hG)) ?_
 have hw64:=hw.at (f.toNat * 8 + i)
 have hdt:Ej 2 level (ws.getD (f.toNat * 8 + i) 0)=kS ws (f.toNat * 8 + i) level:=rfl
 have hdm:=xU ws (f.toNat * 8 + i) level
 have hstep:=fun (b:Option (List Int)) (hb:Fp ws may (fun s f' p=>iZ ws may k s f' (level + 1) p) f level page i s1=b)=>(show ji ws may (fun s f' p=>iZ ws may k s f' (level + 1) p) f level page (i + 1) (seen++[f])=b by rw [ji,hsl1];exact hb)
 refine run ?_
 refine ak (fun wc hG=>aa9 2 (.inr rfl) level hl _ hw64 wc) ?_
 rw [hdt]
 unfold Fp at hstep
 dsimp only at hstep
 generalize kS ws (f.toNat * 8 + i) level=d at *
 generalize ws.getD (f.toNat * 8 + i) 0=wd at *
 obtain ⟨hk3,hk0,hk1,hk2⟩:=lX hdm
 have hfr0:0≤d.frame:=by
  rcases hk3 with e | e | e
  ·have:=(hk0 e).1;omega
  ·exact (hk1 e).2.1
  ·exact (hk2 e).2.1
 refine run ?_
 intro D
 refine run ?_
 refine ah _ rfl (fun hk=>?_) (fun hk=>?_)
 ·have hk':=of_decide_eq_true hk
  simp only [hk',decide_true,cond_true] at hstep
  have hl3:level<3:=(hk1 hk').1
  have hcn:=uD hl3
  have hmul:(i:Int) * (aB level:Int)=((i * aB level:Nat):Int):=(Int.natCast_mul _ _).symm
  refine run ?_
  rw [show (page:Int) + (i:Int) * (aB level:Int)=((page + i * aB level:Nat):Int) by rw [hmul];omega]
  refine ah _ rfl (fun hd=>?_) (fun hd=>?_)
  ·have h15:decide (15<page + i * aB level)=true:=decide_eq_true (by have:=of_decide_eq_true hd;omega)
   have hno:=hstep none (by rw [h15];rfl)
   refine run ?_
   refine fin2 ?_
   rw [DJ hno be5];rfl
  have h15:decide (15<page + i * aB level)=false:=decide_eq_false (by have:=of_decide_eq_false hd;omega)
  rw [h15] at hstep
  simp only [cond_false] at hstep
  refine run ?_
  rw [show (page:Int) + (i:Int) * (aB level:Int)=((page + i * aB level:Nat):Int) by rw [hmul];omega]
  have hcm:(page + i * aB level) % (8 * aB (level + 1))=0:=by
   rw [← hcn]
   have h8:aB level ∣ page:=Nat.dvd_trans ⟨8,Nat.mul_comm _ _⟩ (Nat.dvd_of_mod_eq_zero hp)
   exact Nat.mod_eq_zero_of_dvd (Nat.dvd_add h8 ⟨i,Nat.mul_comm _ _⟩)
  obtain ⟨k',rfl⟩:∃ k',k=k' + 1:=⟨k - 1,by omega⟩
  refine gB (R:=fun u hn=>VX (iZ ws may (k' + 1) s1 d.frame (level + 1) (page + i * aB level)) u hn) h1 [⟨D,#[.int .i64 d.kind,.int .i64 d.frame,.bool d.r,.bool d.w,.bool d.x,.bool d.af,.bool d.ng,.int .i64 d.soft,.int .i64 d.note],124⟩] (fun wc hG=>?_) ?_ aJ
  ·refine ih k' be5 (level + 1) be5 wc s1 _ h1 d.frame _ hA1 ?_ (hG3.nd (hG2.nd hnd)) (hG3.has (hG2.has hhas)) hcm (by rw [← hcn];omega)
   have h5:=Good.sV (hi:=ha) (hp:=[]) (by rw [List.append_nil];exact hG0) hG
   rw [List.append_nil] at h5
   exact h5.sub (List.sublist_append_left _ _)
  intro u hn hu
  cases hz:iZ ws may (k' + 1) s1 d.frame (level + 1) (page + i * aB level) with
  | none=>
   rw [hz] at hu
   obtain rfl:u=_:=hu
   have hno:=hstep none hz
   refine az ?_
   refine fin2 ?_
   rw [DJ hno be5];rfl
  | some s2=>
   rw [hz] at hu
   obtain ⟨v5,h5,rfl,hA5,NH⟩:=hu
   refine iw NH ?_
   obtain ⟨q5,c5,e5⟩:=hA5.own.opened
   rw [List.length_map] at e5
   subst e5
   have hG5:=(Ph (k' + 1) (level + 1) s1 d.frame (page + i * aB level) s2 be5 hz).1
   refine az ?_
   exact aK (i + 1,s2,.slice q5 s2.length c5,h5) ⟨OT,hstep _ hz,hG3.trans hG5,hA5⟩ (hm:=by dsimp only;omega) (h2:=by (exact aj))
 have hk':=of_decide_eq_false hk
 rw [decide_eq_false hk'] at hstep
 simp only [cond_false] at hstep
 refine aI ?_
 refine VW (fs:=[]) (vs:=[.int .i64 ((page + i:Nat):Int),sU d]) (us:=us) (fun hg0 hg1 wc hG=>hF (page + i) d be5 hfr0 wc (haft wc _ hG)) ?_ bH
 refine aI ?_
 have hcc:(!decide ((wd:Int)=0) && (!decide (d.kind=2) || !decide ((level:Int)=3) || !may (page + i) d))=(!decide (wd=0) && (!decide (d.kind=2) || !decide (level=3) || !may (page + i) d)):=by
  have e1:decide ((wd:Int)=0)=decide (wd=0):=by rw [Bool.eq_iff_iff,decide_eq_true_eq,decide_eq_true_eq];omega
  have e2:decide ((level:Int)=3)=decide (level=3):=by rw [Bool.eq_iff_iff,decide_eq_true_eq,decide_eq_true_eq];omega
  rw [e1,e2]
 refine ah _ rfl (fun hd=>?_) (fun hd=>?_)
 ·replace hd:=hcc.symm.trans hd
  have hno:=hstep none (by rw [hd];rfl)
  refine run ?_
  refine fin2 ?_
  rw [DJ hno be5];rfl
 replace hd:=hcc.symm.trans hd
 refine run ?_
 refine aK (i + 1,s1,.slice q1 s1.length c1,h1) ⟨OT,hstep _ (by rw [hd];rfl),hG3,hA1⟩ (hm:=by dsimp only;omega) (h2:=by (exact aj))
end
section
attribute [local irreducible] Hy St Ops DH dG je iI gJ DS gY mP
theorem aw7 (a b:DsD):aW (dsR a) (dsR b)=decide (a=b):=by
 obtain ⟨a1,a2,a3,a4,a5,a6,a7,a8,a9⟩:=a
 obtain ⟨b1,b2,b3,b4,b5,b6,b7,b8,b9⟩:=b
 rw [Bool.eq_iff_iff,decide_eq_true_eq]
 simp [aW,kF]
theorem VY {w:World} (X:Nat) {pv gv ov:Value} {P:PtD} (hP:fD w pv gv ov P) (hn:P.Len) (h4:P.aA.length=4) (i:Nat) (hi:i<4) (mid:Nat) (d:DsD) (h0:0≤d.frame):Fn Tryz.prog 84 [.pointer (some ⟨X,0,none⟩),.int .i64 ((i:Int) + 1),.int .i64 (mid:Int),sU d,.agg #[pv,gv,ov]].toArray w [] (fun u _=>u=.bool (Dv P ((i:Int) + 1) mid d)):=by
 have hl:=hn
 obtain ⟨L,rfl,rfl,rfl,hV⟩:=hP.open hn
 have hg:=hV.gs i be5
 have hmp:=hV.mp i be5
 refine enter Tryz.func84 ?_
 refine run ?_
 intro B1 B2
 refine ah _ rfl (fun hc=>?_) (fun hc=>?_)
 ·have hge:¬ d.frame<(P.pages.length:Int):=by have:=of_decide_eq_true hc;omega
  refine run ?_
  refine fin1 ?_
  unfold Dv
  rw [decide_eq_false hge];rfl
 have hlt:d.frame<(P.pages.length:Int):=by have:=of_decide_eq_false hc;omega
 have hfl:d.frame.toNat<P.pages.length:=by omega
 have hpr:=hV.pg d.frame.toNat hfl
 refine aw2 ?_
 intro S
 have hn1:((i:Int) + 1 - 1).toNat=i:=by omega
 refine Gg (σ:=Int) (fun z=>[(11,.int .i64 z)]) (fun _=>[⟨B2,#[L.pv P.pages.length,L.gv P.aA.length,L.ov P.on.length],38⟩,⟨B1,#[.int .i64 d.kind,.int .i64 d.frame,.bool d.r,.bool d.w,.bool d.x,.bool d.af,.bool d.ng,.int .i64 d.soft,.int .i64 d.note],124⟩]) (fun z=>z=VD P ((i:Int) + 1) d.frame.toNat) ?_ ?_
 ·unfold VD
  refine run ?_
  refine ah _ rfl (fun hc2=>?_) (fun hc2=>?_)
  ·refine run ?_
   exact Cj 2 (by rw [hc2];rfl)
  refine run ?_
  refine ah _ rfl (fun hc3=>?_) (fun hc3=>?_)
  ·refine run ?_
   exact Cj 1 (by rw [hc2,hc3];rfl)
  ·refine run ?_
   exact Cj 0 (by rw [hc2,hc3];rfl)
 rintro z hz
 unfold Dv
 rw [decide_eq_true hlt,Bool.true_and,← hz,hn1]
 refine aI ?_
 have hmc:w.cell? ⟨L.gb,L.go + ((i:Int) + 1 - 1).toNat * 5 + 4,none⟩=some (L.mv i):=by rw [hn1];exact hg 4 _ rfl
 refine dL 20 ?_
 refine bP ?_
 refine dM (fun wc hG=>yf d.frame z wc) ?_
 refine bP ?_
 refine ig (fun hg wc hG=>Hr ⟨(mid:Int),d.frame⟩ (P.gs i).maps _ (hmp.good hG)) ?_
 refine bP ?_
 refine aI ?_
 refine fin1 ?_
 rw [← aw7]
theorem NI {w:World} (X Y1 Y2 Y3:Nat) {pv gv ov:Value} {P:PtD} (hP:fD w pv gv ov P) (hn:P.Len) (i:Nat) (hi:i<4) (page:Nat) (d:DsD) (h0:0≤d.frame) (h1:w.cell? ⟨Y1,0,none⟩=some (.pointer (some ⟨X,0,none⟩))) (h2:w.cell? ⟨Y2,0,none⟩=some (.int .i64 (i:Int))) (h3:w.rangeAt Y3 0 [pv,gv,ov]):Fn Tryz.prog 83 ([]++[Value.int .i64 (page:Int),sU d]++[Value.pointer (some ⟨Y1,0,none⟩),.pointer (some ⟨Y2,0,none⟩),.pointer (some ⟨Y3,0,none⟩)]).toArray w [] (fun u _=>u=.bool (decide (page≤15) && Dv P ((i:Int) + 1) page d)):=by
 refine enter Tryz.func83 ?_
 refine aI ?_
 intro B
 refine aI ?_
 refine dO (fun hg wc hG=>VY X (hP.good hG) hn (by have:=hn.g4;omega) i hi page d h0) ?_
 refine aI ?_
 refine fin1 ?_
 congr 2
 rw [Bool.eq_iff_iff,decide_eq_true_eq,decide_eq_true_eq];omega
theorem NJ (c:Nat) (w:World):Fn Tryz.prog 87 ([]++[Value.int .u64 (c:Int)]++[]).toArray w [] (fun u _=>u=.bool (!decide (c=0))):=by
 refine enter Tryz.func87 ?_
 refine run ?_
 refine fin1 ?_
 congr 2
 rw [Bool.eq_iff_iff,decide_eq_true_eq,decide_eq_true_eq];omega
theorem NK (f:Int) (l:List Int) (Y:Nat) {w:World} {lv:Value} (h1:w.cell? ⟨Y,3,none⟩=some lv) (hl:aF w lv 1 (l.map dA)):Fn Tryz.prog 89 ([]++[Value.int .i64 f]++[Value.pointer (some ⟨Y,0,none⟩)]).toArray w [] (fun u _=>u=.bool (!l.any fun t=>decide (t=f))):=by
 refine enter Tryz.func89 ?_
 refine run ?_
 refine ak (fun wc hG=>jg f l _ (hl.good hG)) ?_
 refine run ?_
 exact fin1 rfl
theorem NL {w:World} {X:Nat} {wv cv vv rv:Value} {mv:Nat→Value} {H:HyD} (h:wH w X wv cv vv rv mv H) {pv gv ov:Value} (hP:fD w pv gv ov H.aQ) (hn:H.aQ.Len) (hmay:H.aQ.may=true) (i:Nat) (hi:i<4):Fn Tryz.prog 42 [.pointer (some ⟨X,0,none⟩),.int .i64 (i:Int),.agg #[pv,gv,ov]].toArray w [] (fun u _=>u=.bool (H.rY i)):=by
 have h':=h
 have hP':=hP
 have hL:=nN h.ok
 have Au:=dh hL.m
 have hfit:=h.h.fit.v (H.vu i) (getD_mem (by rw [hL.v];exact hi))
 obtain ⟨L,rfl,rfl,rfl,hV⟩:=hP.open hn
 obtain ⟨cs,vs,e1,e2,_,hH⟩:=h.h.ex
 have hvl:vs.length=4:=by rw [← hL.v,← e2,List.length_map]
 have hg4:=hn.g4
 have hrg:=hV.gs i be5
 have hws:=hH.ws
 obtain ⟨qw,JJ,rfl,hnew,_⟩:=hws.opened
 obtain ⟨bw,ow,rfl⟩:=hnew (by intro e;have:=hL.f;rw [e] at this;simp at this)
 have h0:w.rangeAt X 0 [.slice (some ⟨bw,ow,none⟩) H.ws.length JJ]:=bg (k:=0) (n:=1) h.x rfl
 have h0':=au h0
 have hop:=hH.vs.rows.opened
 rw [hvl] at hop
 obtain ⟨q2,cap2,rfl,hne2,_⟩:=hop
 obtain ⟨b2,o2,rfl⟩:=hne2 bh'
 have h2:w.rangeAt X 2 [.slice (some ⟨b2,o2,none⟩) 4 cap2]:=bg (k:=2) (n:=1) h.x rfl
 have h2':=au h2
 obtain ⟨qv,lv,ev,_⟩:=(hV.vc i be5).opened
 obtain ⟨qm,lm,em,_⟩:=(hV.mp i be5).opened
 rw [ev,em] at hrg
 generalize (H.aQ.gs i).aN.length=nv at hrg
 generalize (H.aQ.gs i).maps.length=nm at hrg
 have hr:=hH.vs.rows.row (k:=i) be5
 have hfs:=hH.vs.fs _ (getD_mem (l:=vs) (k:=i) be5)
 have hfr:=hH.vs.fr _ (getD_mem (l:=vs) (k:=i) be5)
 have hu:=Dy e2 i
 rw [show H.vs.getD i default=H.vu i from rfl] at hu
 have hgs:=(JW H).2.1 i hi
 refine enter Tryz.func42 ?_
 refine run ?_
 intro Y1 Y2 Y3
 have rM:H.rY i=bif !(vs.getD i default).live then true else
   decide ((vs.getD i default).fs.length=5) && allB 5 (fun k=>decide ((vs.getD i default).fs.getD k 0=(vs.getD i default).fs.getD 0 0 + (k:Int))) &&
   match iZ H.ws (H.MW i) 4 [] ((vs.getD i default).fs.getD 0 0) 0 0 with
   | none=>false
   | some seen=>decide (seen.length + (vs.getD i default).fr.length=5) && allB (vs.getD i default).fr.length (Dw H.ws (vs.getD i default).fs seen (vs.getD i default).fr) && seen.all fun f=>(vs.getD i default).fs.any fun t=>decide (t=f):=by
  unfold HyD.rY qK.root
  rw [← hu];rfl
 have hgf:(H.bW i).first=bif (vs.getD i default).live then (bif decide (0<(vs.getD i default).fs.length) then (vs.getD i default).fs.getD 0 0 else 0) else 0:=by
  unfold HyD.bW qK.root
  rw [← hu]
  simp only [jH.u]
  cases (vs.getD i default).live<;>rfl
 have hgb:(vs.getD i default).live=true→16≤(H.bW i).first∧(H.bW i).first + 5≤(H.ws.length / 8:Nat):=fun hl=>by
  have hlg:(H.aQ.gs i).live=true:=by
   rw [hgs]
   unfold HyD.bW
   rw [← hu]
   simp only [jH.u,hl];rfl
  have:=(PtD.uh.1 hmay).liv i hi hlg
  have hpl:H.aQ.pages.length=H.ws.length / 8:=by simp [HyD.aQ]
  rw [hgs,hpl] at this
  omega
 rw [← hu] at hfit
 simp only [jH.u] at hfit
 rw [hgs] at hrg
 generalize H.bW i=g at hrg hgf hgb
 generalize vs.getD i default=v at *
 refine GI 17 15 [0,1,2,3,4,5,6,7,8,9,10,11,12] [13,14] [15,16] [⟨Y3,#[L.pv H.aQ.pages.length,L.gv H.aQ.aA.length,L.ov H.aQ.on.length],38⟩,⟨Y2,#[.int .i64 (i:Int)],3⟩,⟨Y1,#[.pointer (some ⟨X,0,none⟩)],87⟩] ?_
 refine jT ?_
 refine qR ?_
 refine qR ?_
 refine jS ?_
 rintro _ _ ⟨G,rfl,rfl⟩
 rintro _ _ ⟨V,rfl,rfl⟩
 simp only [DN,List.cons_append,List.nil_append,List.append_nil]
 obtain ⟨qf,lf,ef,Nv,_⟩:=hfs.opened
 obtain ⟨qr,lr,er,aG7,_⟩:=hfr.opened
 refine nJ (b:=V) (tb:=111) (cs:=#[.bool false,.bool false,.int .i64 0,.slice none 0 0,.slice none 0 0,.slice none 0 0]) (cs':=(zO v).toArray) (hp':=⟨G,#[.bool false,.bool false,.int .i64 0,.slice none 0 0,.slice none 0 0],129⟩::[⟨Y3,#[L.pv H.aQ.pages.length,L.gv H.aQ.aA.length,L.ov H.aQ.on.length],38⟩,⟨Y2,#[.int .i64 (i:Int)],3⟩,⟨Y1,#[.pointer (some ⟨X,0,none⟩)],87⟩]) ?_ aJ
 refine nJ (b:=G) (tb:=129) (cs:=#[.bool false,.bool false,.int .i64 0,.slice none 0 0,.slice none 0 0]) (cs':=#[.bool g.live,.bool g.dying,.int .i64 g.first,.slice qv nv lv,.slice qm nm lm]) (hp':=⟨V,(zO v).toArray,111⟩::[⟨Y3,#[L.pv H.aQ.pages.length,L.gv H.aQ.aA.length,L.ov H.aQ.on.length],38⟩,⟨Y2,#[.int .i64 (i:Int)],3⟩,⟨Y1,#[.pointer (some ⟨X,0,none⟩)],87⟩]) ?_ aJ
 refine dw ?_
 refine lg ?_
 refine run ?_
 refine ah _ rfl (fun hc=>?_) (fun hc=>?_)
 ·have hlv:v.live=false:=by simpa using hc
  rw [hlv] at rM
  refine run ?_
  refine fin1 ?_
  rw [rM];rfl
 have hlv:v.live=true:=by simpa using hc
 rw [hlv] at rM
 simp only [Bool.not_true,cond_false] at rM
 rw [hlv,cond_true] at hgf
 clear hc
 refine run ?_
 refine ah _ rfl (fun hc=>?_) (fun hc=>?_)
 ·have h5:¬ v.fs.length=5:=by have:=hc;simp at this;omega
  refine run ?_
  refine fin1 ?_
  rw [rM,decide_eq_false h5];rfl
 have h5:v.fs.length=5:=by have:=hc;simp at this;omega
 rw [decide_eq_true h5,Bool.true_and] at rM
 rw [decide_eq_true (by omega:0<v.fs.length),cond_true] at hgf
 clear hc
 rw [h5] at ef
 obtain ⟨bf,XD,rfl⟩:∃ b o,qf=some ⟨b,o,none⟩:=Nv (by intro e;rw [e] at h5;cases h5)
 rw [ef] at hfs
 have hf0:=hfit.2.2.2.1
 have hrow:∀ k,k<5→w.cell? ⟨bf,XD + k,none⟩=some (.int .i64 (v.fs.getD k 0)):=fun k hk=>by
  have:=au (hfs.row (show k<v.fs.length by omega))
  simp only [Nat.mul_one] at this
  exact this
 have aV1:=hgb hlv
 refine run ?_
 rw [ef]
 refine aX (σ:=Nat) (fun k=>[(38,.int .i64 (k:Int))]) (fun _=>[⟨G,#[.bool g.live,.bool g.dying,.int .i64 g.first,.slice qv nv lv,.slice qm nm lm],129⟩,⟨V,(zO v).toArray,111⟩,⟨Y3,#[L.pv H.aQ.pages.length,L.gv H.aQ.aA.length,L.ov H.aQ.on.length],38⟩,⟨Y2,#[.int .i64 (i:Int)],3⟩,⟨Y1,#[.pointer (some ⟨X,0,none⟩)],87⟩]) (fun k=>k≤5∧∀ j,j<k→v.fs.getD j 0=v.fs.getD 0 0 + (j:Int)) (fun k=>5 - k) 0 ⟨Nat.zero_le _,fun j hj=>absurd hj (Nat.not_lt_zero _)⟩ ?_
 rintro k m hm ⟨hk,hK⟩
 refine run ?_
 rw [h5]
 refine ah _ rfl (fun hc=>?_) (fun hc=>?_)
 ·have hk5:k<5:=by have:=of_decide_eq_true hc;omega
  have hrk:=hrow k hk5
  refine run ?_
  have hfe:decide (v.fs.getD k 0=g.first + (k:Int))=decide (v.fs.getD k 0=v.fs.getD 0 0 + (k:Int)):=by rw [hgf]
  refine ah _ rfl (fun hd=>?_) (fun hd=>?_)
  ·have hne:¬ v.fs.getD k 0=g.first + (k:Int):=by simpa using hd
   refine run ?_
   refine fin1 ?_
   rw [rM,oI hk5 (decide_eq_false (by rw [← hgf];exact hne))];rfl
  have heq:v.fs.getD k 0=g.first + (k:Int):=by simpa using hd
  refine run ?_
  refine aK (k + 1) ⟨hk5,fun j hj=>?_⟩
  by_cases e:j=k
  ·subst e;rw [heq,hgf]
  ·exact hK j be5
 have hk5:k=5:=by have:=of_decide_eq_false hc;omega
 subst hk5
 rw [kQ (fun j hj=>decide_eq_true (hK j hj)),Bool.true_and] at rM
 refine run ?_
 refine dJ (fun wc hG=>Zh (wb:=wc) X bw ow JJ H.ws hH.Jt hL.m (us:=[.pointer (some ⟨Y1,0,none⟩),.pointer (some ⟨Y2,0,none⟩),.pointer (some ⟨Y3,0,none⟩)]) (H.MW i) rfl (hG.cell h0' be7) (hws.good hG) (fun page d hp9 hd0 w' ha=>?_) 3 0 rfl wc [] _ [] g.first 0 (Acc.nil _ _) (Good.nil wc []) List.nodup_nil be7 be6 be6) ?_
 ·obtain ⟨hp,hg⟩:=ha
  refine NI X Y1 Y2 Y3 (hP'.good (hG.trans hg)) hn i hi page d hd0 ?_ ?_ ?_
  ·exact hg.cell (by rw [cell_of_block (hG.here ⟨Y1,#[.pointer (some ⟨X,0,none⟩)],87⟩ be7)];rfl) be7
  ·exact hg.cell (by rw [cell_of_block (hG.here ⟨Y2,#[.int .i64 (i:Int)],3⟩ be7)];rfl) be7
  ·exact hg.range (pG (t:=38) (hG.here ⟨Y3,#[L.pv H.aQ.pages.length,L.gv H.aQ.aA.length,L.ov H.aQ.on.length],38⟩ be7)) be7
 intro u hn2 hu
 rw [← hgf] at rM
 cases hz:iZ H.ws (H.MW i) 4 [] g.first 0 0 with
 | none=>
  rw [hz] at hu rM
  obtain rfl:u=_:=hu
  refine aP [⟨G,#[.bool g.live,.bool g.dying,.int .i64 g.first,.slice qv nv lv,.slice qm nm lm],129⟩,⟨V,(zO v).toArray,111⟩,⟨Y3,#[L.pv H.aQ.pages.length,L.gv H.aQ.aA.length,L.ov H.aQ.on.length],38⟩,⟨Y2,#[.int .i64 (i:Int)],3⟩,⟨Y1,#[.pointer (some ⟨X,0,none⟩)],87⟩] aj ?_
  refine aI ?_
  refine ah _ rfl (fun hd=>?_) (fun hd=>by simp at hd)
  refine run ?_
  refine fin1 ?_
  rw [rM]
 | some seen=>
  rw [hz] at hu rM
  dsimp only at rM
  obtain ⟨v5,h6,rfl,hA5,NH⟩:=hu
  have hGs:=Ph 4 0 [] g.first 0 seen rfl hz
  have hsl:=DI (hGs.1.nd List.nodup_nil) (hGs.1.has be7)
  obtain ⟨q5,c5,e5⟩:=hA5.own.opened
  rw [List.length_map] at e5
  subst e5
  refine aP (⟨G,#[.bool g.live,.bool g.dying,.int .i64 g.first,.slice qv nv lv,.slice qm nm lm],129⟩::⟨V,(zO v).toArray,111⟩::⟨Y3,#[L.pv H.aQ.pages.length,L.gv H.aQ.aA.length,L.ov H.aQ.on.length],38⟩::⟨Y2,#[.int .i64 (i:Int)],3⟩::⟨Y1,#[.pointer (some ⟨X,0,none⟩)],87⟩::h6) (cnt1 NH) ?_
  refine aI ?_
  have hcl:(decide ((seen.length:Int) + v.fr.length=5))=decide (seen.length + v.fr.length=5):=by rw [Bool.eq_iff_iff,decide_eq_true_eq,decide_eq_true_eq];omega
  refine ah _ rfl (fun hd=>?_) (fun hd=>?_)
  ·have hne:decide (seen.length + v.fr.length=5)=false:=by
    rw [← hcl];simpa using hd
   refine run ?_
   refine fin1 ?_
   rw [rM,hne];rfl
  have heq:decide (seen.length + v.fr.length=5)=true:=by
   rw [← hcl];simpa using hd
  have heq':=of_decide_eq_true heq
  rw [heq,Bool.true_and] at rM
  clear hd
  have hfr2:=hfr
  rw [er] at hfr2
  have hnr:v.fr.length ≠ 0→∃ b o,qr=some ⟨b,o,none⟩:=fun h=>aG7 (by intro e;rw [e] at h;exact h rfl)
  refine run ?_
  rw [er]
  refine aX (σ:=Nat) (fun k=>[(72,.int .i64 (k:Int))]) (fun _=>⟨G,#[.bool g.live,.bool g.dying,.int .i64 g.first,.slice qv nv lv,.slice qm nm lm],129⟩::⟨V,(zO v).toArray,111⟩::⟨Y3,#[L.pv H.aQ.pages.length,L.gv H.aQ.aA.length,L.ov H.aQ.on.length],38⟩::⟨Y2,#[.int .i64 (i:Int)],3⟩::⟨Y1,#[.pointer (some ⟨X,0,none⟩)],87⟩::h6) (fun k=>k≤v.fr.length∧∀ j,j<k→Dw H.ws v.fs seen v.fr j=true) (fun k=>v.fr.length - k) 0 ⟨Nat.zero_le _,fun j hj=>absurd hj (Nat.not_lt_zero _)⟩ ?_ (hh:=by (exact aj))
  rintro k m2 hm2 ⟨hk2,hK2⟩
  refine run ?_
  refine ah _ rfl (fun hc2=>?_) (fun hc2=>?_)
  rotate_left
  ·have hke:k=v.fr.length:=by have:=of_decide_eq_false hc2;omega
   subst hke
   rw [kQ hK2,Bool.true_and] at rM
   refine run ?_
   have ak4:∀ wc hp,Good w [] hp wc→(∀ e∈h6,e∈hp)→aF wc (.slice q5 seen.length c5) 1 (seen.map dA):=fun wc hp hG hs=>hA5.own.lie (hG.lie hs) be9
   refine ak (fun wc hG=>oV (us:=[.pointer (some ⟨V,0,none⟩)]) (fun f=>!v.fs.any fun t=>decide (t=f)) seen _ (ak4 wc _ hG (fun e he=>by simp [he])) (fun f _ w' ha=>NK f v.fs V (w:=w') (lv:=v.fv) ?_ ?_)) ?_
   ·obtain ⟨hp,hg⟩:=ha
    exact hg.cell (by rw [cell_of_block (hG.here ⟨V,(zO v).toArray,111⟩ be7)];rfl) be7
   ·obtain ⟨hp,hg⟩:=ha
    rw [ef]
    exact (hfs.good hG).good hg
   refine run ?_
   refine fin1 ?_
   rw [rM,← List.not_all_eq_any_not,Bool.not_not]
  have hkl:k<v.fr.length:=by have:=of_decide_eq_true hc2;omega
  obtain ⟨br,or_,rfl⟩:=hnr be5
  have hrr:=au (hfr2.row hkl)
  simp only [Nat.mul_one] at hrr
  have hrp:0<k→w.cell? ⟨br,or_ + (k - 1),none⟩=some (.int .i64 (v.fr.getD (k - 1) default)):=fun h0=>by
   have:=au (hfr2.row (k:=k - 1) be5)
   simp only [Nat.mul_one] at this
   exact this
  refine run ?_
  refine ak (fun wc hG=>jg _ v.fs _ (by rw [← ef] at hfs;exact hfs.good hG)) ?_
  refine aI ?_
  have zS:∀ wc hp,Good w [] hp wc→(∀ e∈h6,e∈hp)→aF wc (.slice q5 seen.length c5) 1 (seen.map dA):=fun wc hp hG hs=>hA5.own.lie (hG.lie hs) be9
  refine dO (fun hg wc hG=>jg _ seen _ (zS wc _ hG (fun e he=>by simp [he]))) ?_
  refine aI ?_
  rw [er]
  have hk0:iH (decide ((0:Int)<(k:Int))) true=true→0<k:=fun h=>by
   unfold iH at h
   have:=h
   simp at this
   omega
  refine ag4 (v:=.pointer (some ⟨br,or_ + ((k:Int) - 1).toNat * 1,none⟩)) (hy:=fun hg0 hg1=>by have:=hk0 hg1;simp only [hg0,hg1,bG,Bool.and_self];exact F6 ay rfl rfl rfl be5 be5 rfl) (h:=?_)
  refine ag4 (v:=.int .i64 (v.fr.getD (k - 1) default)) (hy:=fun hg0 hg1=>by have h0:=hk0 hg1;simp only [hg0,hg1,bG,Bool.and_self];exact F7 ay rfl rfl (by rw [Nat.mul_one,show ((k:Int) - 1).toNat=k - 1 by omega];exact hrp h0) be7) (h:=?_)
  refine aI ?_
  have hfk:Dw H.ws v.fs seen v.fr k=((v.fs.any fun t=>decide (t=v.fr.getD k default)) && !(seen.any fun t=>decide (t=v.fr.getD k default)) && (decide (k=0) || decide (v.fr.getD (k - 1) default<v.fr.getD k default)) && O3 H.ws (v.fr.getD k default)):=rfl
  have hin:(v.fs.any fun t=>decide (t=v.fr.getD k default))=true→dm H.ws.length (v.fr.getD k default)=true:=fun h=>by
   obtain ⟨j,hj,e⟩:=List.getElem_of_mem (HY.1 h)
   have:=hK j be5
   rw [List.getD_eq_getElem?_getD,List.getElem?_eq_getElem hj,Option.getD_some,e,← hgf] at this
   rw [this]
   simp only [dm,Bool.and_eq_true,decide_eq_true_eq]
   omega
  have hC1:((!(v.fs.any fun t=>decide (t=v.fr.getD k default)) || seen.any fun t=>decide (t=v.fr.getD k default)) || decide ((0:Int)<(k:Int)) && decide (v.fr.getD k default≤v.fr.getD (k - 1) default))=!((v.fs.any fun t=>decide (t=v.fr.getD k default)) && !(seen.any fun t=>decide (t=v.fr.getD k default)) && (decide (k=0) || decide (v.fr.getD (k - 1) default<v.fr.getD k default))):=by
   have e1:(decide ((0:Int)<(k:Int)) && decide (v.fr.getD k default≤v.fr.getD (k - 1) default))=!(decide (k=0) || decide (v.fr.getD (k - 1) default<v.fr.getD k default)):=by
    rw [Bool.eq_iff_iff]
    simp only [Bool.and_eq_true,Bool.not_eq_true',Bool.or_eq_false_iff,decide_eq_true_eq,decide_eq_false_iff_not]
    omega
   rw [e1]
   cases (v.fs.any fun t=>decide (t=v.fr.getD k default))<;>cases (seen.any fun t=>decide (t=v.fr.getD k default))<;>simp
  generalize v.fr.getD k default=f at *
  refine ah _ rfl (fun hd=>?_) (fun hd=>?_)
  ·replace hd:=hC1.symm.trans hd
   have:Dw H.ws v.fs seen v.fr k=false:=by rw [hfk,show ((v.fs.any fun t=>decide (t=f)) && !(seen.any fun t=>decide (t=f)) && (decide (k=0) || decide (v.fr.getD (k - 1) default<f)))=false by rw [Bool.not_eq_true'] at hd;exact hd];rfl
   refine run ?_
   refine fin1 ?_
   rw [rM,oI hkl this];rfl
  replace hd:=hC1.symm.trans hd
  have hd':((v.fs.any fun t=>decide (t=f)) && !(seen.any fun t=>decide (t=f)) && (decide (k=0) || decide (v.fr.getD (k - 1) default<f)))=true:=by rw [Bool.not_eq_false'] at hd;exact hd
  rw [hd',Bool.true_and] at hfk
  rw [Bool.and_eq_true,Bool.and_eq_true] at hd'
  have hhf:=hin hd'.1.1
  have hfi:=jd hhf
  have aO':H.ws.length≤JJ:=by
   obtain ⟨_,c,e,hle⟩:=h'.h.JJ
   injection e with _ _ e
   omega
  refine run ?_
  refine ja be8 (uX ay rfl rfl rfl be8 be5 be5 be5 be5 (o':=ow + f.toNat * 8) be5 (m':=8) be5 (c':=JJ - f.toNat * 8) be5) ?_
  have hcut:aF w (.slice (some ⟨bw,ow + f.toNat * 8 * 1,none⟩) 8 (JJ - f.toNat * 8)) 1 (((H.ws.drop (f.toNat * 8)).take 8).map uV):=hws.aw6 (i:=f.toNat * 8) (k:=8) be5
  rw [Nat.mul_one] at hcut
  refine run ?_
  refine ak (fun wc hG=>Ew (us:=[]) (fun c=>!decide (c=0)) ((H.ws.drop (f.toNat * 8)).take 8) _ (hcut.good hG) (fun c _ w' _=>NJ c w')) ?_
  have hzb:(((H.ws.drop (f.toNat * 8)).take 8).any fun c=>!decide (c=0))=!O3 H.ws f:=by
   rw [← List.not_all_eq_any_not]
   congr 1
   unfold O3
   rw [Bool.eq_iff_iff,List.all_eq_true,bM]
   constructor
   ·intro h j hj
    have hl:j<((H.ws.drop (f.toNat * 8)).take 8).length:=by rw [List.length_take,List.length_drop];omega
    have:=h _ (List.getElem_mem hl)
    rw [List.getElem_take,List.getElem_drop] at this
    rw [List.getD_eq_getElem?_getD,List.getElem?_eq_getElem be5]
    exact this
   ·intro h c hc
    obtain ⟨j,hj,e⟩:=List.getElem_of_mem hc
    rw [List.getElem_take,List.getElem_drop] at e
    rw [List.length_take,List.length_drop] at hj
    have:=h j be5
    rw [List.getD_eq_getElem?_getD,List.getElem?_eq_getElem be5] at this
    rw [← e]
    exact this
  rw [hzb,← hfk]
  refine run ?_
  refine ah _ rfl (fun hd2=>?_) (fun hd2=>?_)
  ·refine run ?_
   refine fin1 ?_
   rw [rM,oI hkl (by simpa using hd2)];rfl
  refine run ?_
  refine aK (k + 1) ⟨hkl,fun j hj=>?_⟩ (h2:=by (exact aj))
  by_cases e:j=k
  ·subst e;simpa using hd2
  ·exact hK2 j be5
theorem Zi {α:Type} {p:α→Bool} [Inhabited α]:∀ {l:List α} {k s:Nat},k<l.length→p (l.getD k default)=true→(∀ j,j<k→p (l.getD j default)=false)→PtD.idx p l s=some (s + k):=by
 intro l
 induction l with
 | nil=>intro k s h;simp at h
 | cons x r ih=>
  intro k s hk he hn
  unfold PtD.idx
  cases k with
  | zero=>simp at he;simp [he]
  | succ k=>
   have:=hn 0 be5
   simp at this
   simp only [this,cond_false]
   rw [ih (k:=k) (s:=s + 1) (by simpa using hk) (by simpa using he) (fun j hj=>by have:=hn (j + 1) be5;simpa using this)]
   congr 1;omega
theorem Zj {α:Type} {p:α→Bool} [Inhabited α]:∀ {l:List α} {s:Nat},(∀ j,j<l.length→p (l.getD j default)=false)→PtD.idx p l s=none:=by
 intro l
 induction l with
 | nil=>intro s _;rfl
 | cons x r ih=>
  intro s hn
  unfold PtD.idx
  have:=hn 0 be7
  simp at this
  simp only [this,cond_false]
  exact ih fun j hj=>by have:=hn (j + 1) (by simpa using hj);simpa using this
def VZ (r:Option Int):Value:=match r with
 | some f=>.tuple #[.int .i64 f,.bool true]
 | none=>.tuple #[.int .i64 0,.bool false]
theorem Zk {w:World} {X:Nat} {wv cv vv rv:Value} {mv:Nat→Value} {H:HyD} (h:wH w X wv cv vv rv mv H) (hf5:∀ i,i<4→(H.vu i).live=true→0<(H.vu i).fs.length) (aO:Int):Fn Tryz.prog 180 [.pointer (some ⟨X,0,none⟩),.int .i64 aO].toArray w [] (fun u _=>u=VZ (H.Dx aO)):=by
 have hL:=nN h.ok
 obtain ⟨cs,vs,e1,e2,_,hH⟩:=h.h.ex
 have hvl:vs.length=4:=by rw [← hL.v,← e2,List.length_map]
 have hop:=hH.vs.rows.opened
 rw [hvl] at hop
 obtain ⟨q2,cap2,rfl,hne2,_⟩:=hop
 obtain ⟨b2,o2,rfl⟩:=hne2 bh'
 have h2:w.rangeAt X 2 [.slice (some ⟨b2,o2,none⟩) 4 cap2]:=bg (k:=2) (n:=1) h.x rfl
 have h2':=au h2
 unfold HyD.Dx
 refine enter Tryz.func180 ?_
 refine run ?_
 refine ah _ rfl (fun hc=>?_) (fun hc=>?_)
 ·rw [hc,cond_true]
  refine run ?_
  exact fin2 rfl
 rw [hc,cond_false]
 refine run ?_
 refine aX (σ:=Nat) (fun k=>[(16,.int .i64 (k:Int))]) (fun _=>[]) (fun k=>k≤4∧∀ j,j<k→((H.vs.getD j default).live && decide ((H.vs.getD j default).aO=aO))=false) (fun k=>4 - k) 0 ⟨Nat.zero_le _,fun j hj=>absurd hj (Nat.not_lt_zero _)⟩ ?_
 rintro k m hm ⟨hk,hK⟩
 refine run ?_
 refine ah _ rfl (fun hc2=>?_) (fun hc2=>?_)
 rotate_left
 ·have hk4:k=4:=by have:=of_decide_eq_false hc2;omega
  subst hk4
  rw [Zj (fun j hj=>hK j (by have:=hL.v;omega))]
  refine run ?_
  exact fin2 rfl
 have hk4:k<4:=by have:=of_decide_eq_true hc2;omega
 have hr:=hH.vs.rows.row (k:=k) be5
 have hfs:=hH.vs.fs _ (getD_mem (l:=vs) (k:=k) be5)
 have hu:=Dy e2 k
 have hp:((H.vs.getD k default).live && decide ((H.vs.getD k default).aO=aO))=((vs.getD k default).live && decide ((vs.getD k default).aO=aO)):=by rw [← hu];rfl
 have h5:=hf5 k hk4
 have hroot:(H.vu k).root=(vs.getD k default).fs.getD 0 0:=by unfold HyD.vu qK.root;rw [← hu];rfl
 unfold HyD.vu at h5
 rw [← hu] at h5
 simp only [jH.u] at h5
 generalize vs.getD k default=v at *
 refine run ?_
 intro V
 refine aI ?_
 refine ah _ rfl (fun hd=>?_) (fun hd=>?_)
 ·have hlv:v.live=true:=by rw [Bool.and_eq_true] at hd;exact hd.1
  have h0:=h5 hlv
  obtain ⟨qf,lf,ef,Nv,_⟩:=hfs.opened
  obtain ⟨bf,XD,rfl⟩:=Nv (by intro e;rw [e] at h0;cases h0)
  rw [ef] at hfs
  have hrow:=au (hfs.row h0)
  simp only [Nat.mul_one] at hrow
  rw [Zi (by have:=hL.v;omega) (hp.trans hd) hK,Nat.zero_add]
  refine run ?_
  rw [ef]
  refine run ?_
  refine fin2 ?_
  show _=VZ (some (H.vu k).root)
  rw [hroot];rfl
 refine run ?_
 refine aK (k + 1) ⟨hk4,fun j hj=>?_⟩
 by_cases e:j=k
 ·subst e;rw [hp];exact hd
 ·exact hK j be5
theorem Zl (ar aw ax aa an br bw bx ba bn:Bool) (as_ bs:Int) (w:World):Fn Tryz.prog 182 [.agg #[.bool ar,.bool aw,.bool ax,.bool aa,.bool an,.int .i64 as_],.agg #[.bool br,.bool bw,.bool bx,.bool ba,.bool bn,.int .i64 bs]].toArray w [] (fun u _=>u=.bool ((!ar || br) && (!aw || bw) && (!ax || bx))):=by
 refine enter Tryz.func182 ?_
 refine run ?_
 intro B C
 refine aI ?_
 refine fin1 ?_
 rfl
theorem H6 {w:World} {X:Nat} {wv cv vv rv:Value} {mv:Nat→Value} {H:HyD} (h:wH w X wv cv vv rv mv H) (root:Int) (page:Int) (h0:0≤page) (hp:page≤4095):Fn Tryz.prog 181 [.pointer (some ⟨X,0,none⟩),.int .i64 root,.int .i64 page].toArray w [] (fun u _=>u=.tuple #[sU (H.iR root page).1,.bool (H.iR root page).2]):=by
 have hL:=nN h.ok
 obtain ⟨cs,vs,e1,e2,_,hH⟩:=h.h.ex
 have h0w:w.rangeAt X 0 [wv]:=bg (k:=0) (n:=1) h.x rfl
 have h0':=au h0w
 have hws:=hH.ws
 obtain ⟨q,cap,rfl,_,_⟩:=hws.opened
 unfold HyD.iR
 obtain ⟨pn,rfl⟩:∃ n:Nat,page=(n:Int):=⟨page.toNat,by omega⟩
 rw [Int.toNat_natCast]
 have hge:=fun wc hp (hG:Good w [] hp wc)=>G7 H.ws hH.Jt (hws.good hG) hL.m root pn be5
 generalize kJ H.ws root pn=g at hge
 refine enter Tryz.func181 ?_
 refine run ?_
 intro D
 refine ak (fun wc hG=>hge wc _ hG) ?_
 refine aI ?_
 intro E
 refine jl (cs:=#[.int .i64 g.d.kind,.int .i64 g.d.frame,.bool g.d.r,.bool g.d.w,.bool g.d.x,.bool g.d.af,.bool g.d.ng,.int .i64 g.d.soft,.int .i64 g.d.note]) ?_
 have e1:decide ((g.level:Int)=3)=decide (g.level=3):=by rw [Bool.eq_iff_iff,decide_eq_true_eq,decide_eq_true_eq];omega
 rw [e1]
theorem Rw {w:World} {X Y Z E:Nat} {wv cv vv rv:Value} {mv:Nat→Value} {H:HyD} (h:wH w X wv cv vv rv mv H) (root:Int) (m:jv) (hm:0≤m.mid∧m.mid≤4095) (e:iU) (hY:w.cell? ⟨Y,0,none⟩=some (.pointer (some ⟨X,0,none⟩))) (hZ:w.cell? ⟨Z,0,none⟩=some (.int .i64 root)) (hE:w.rangeAt E 0 (kE e)):Fn Tryz.prog 184 ([]++[Value.agg (dS m).toArray]++[Value.pointer (some ⟨Y,0,none⟩),.pointer (some ⟨Z,0,none⟩),.pointer (some ⟨E,0,none⟩)]).toArray w [] (fun u _=>u=.bool ((H.iR root m.mid).2 && decide (m.gU=e.frame) && (H.iR root m.mid).1.r)):=by
 have hE6:=fH (k:=6) hE rfl
 refine enter Tryz.func184 ?_
 refine run ?_
 intro B
 refine run ?_
 refine ak (fun wc hG=>H6 (h.good hG) root m.mid hm.1 hm.2) ?_
 generalize (H.iR root m.mid).2=b
 generalize (H.iR root m.mid).1=d
 refine run ?_
 intro D
 refine aI ?_
 exact fin1 rfl
theorem V3 {e:iU} (h:e.may=true):(0≤e.page∧e.page≤4095)∧(0≤e.mid∧e.mid≤4095):=by
 unfold iU.may at h
 rw [Bool.and_eq_true] at h
 have:=h.1
 simp only [iU.nums,PtD.di,Bool.and_eq_true,decide_eq_true_eq] at this
 omega
theorem Rx {w:World} {X:Nat} {wv cv vv rv:Value} {mv:Nat→Value} {H:HyD} (h:wH w X wv cv vv rv mv H) (hf5:∀ i,i<4→(H.vu i).live=true→0<(H.vu i).fs.length) (e:iU) (he:e.may=true):Fn Tryz.prog 93 [.pointer (some ⟨X,0,none⟩),.agg (kE e).toArray].toArray w [] (fun u _=>u=.bool (H.nM e)):=by
 have hL:=nN h.ok
 have hb:=V3 he
 obtain ⟨cs,vs,e1,e2,_,hH⟩:=h.h.ex
 have h0w:w.rangeAt X 0 [wv]:=bg (k:=0) (n:=1) h.x rfl
 have h0':=au h0w
 have hws:=hH.ws
 obtain ⟨q,cap,rfl,_,_⟩:=hws.opened
 refine enter Tryz.func93 ?_
 refine run ?_
 intro Y E
 refine run ?_
 refine ak (fun wc hG=>Zk (h.good hG) hf5 e.aO) ?_
 unfold HyD.nM
 cases hr:H.Dx e.aO with
 | none=>
  refine run ?_
  intro R
  refine az ?_
  exact fin1 rfl
 | some root=>
  unfold VZ
  dsimp only
  refine run ?_
  intro R
  refine az ?_
  refine ah _ rfl (fun hk=>?_) (fun hk=>?_)
  ·rw [hk,cond_true]
   refine run ?_
   refine ak (fun wc hG=>H6 (h.good hG) root e.page hb.1.1 hb.1.2) ?_
   generalize (H.iR root e.page).2=b
   generalize (H.iR root e.page).1=d
   refine run ?_
   intro D
   refine run ?_
   refine aI ?_
   refine fin1 ?_
   congr 2
   rw [Bool.eq_iff_iff]
   simp [aW,kF,and_assoc]
  rw [hk,cond_false]
  refine run ?_
  refine ah _ rfl (fun hk2=>?_) (fun hk2=>?_)
  ·rw [hk2,cond_true]
   refine run ?_
   refine ak (fun wc hG=>H6 (h.good hG) root e.mid hb.2.1 hb.2.2) ?_
   generalize (H.iR root e.mid).2=b
   generalize (H.iR root e.mid).1=d
   refine run ?_
   intro D
   refine aI ?_
   refine dO (fun hg wc hG=>Zl _ _ _ _ _ _ _ _ _ _ _ _ wc) ?_
   refine aI ?_
   exact fin1 rfl
  rw [hk2,cond_false]
  refine run ?_
  refine late 10 9 ?_
  refine yT 10 [0,1,2,3,4,5] [6] [7,8,9] ?_
  refine fU ?_
  have hxl:((eH H.ws root 0 4096).getD []).length≤4096:=by
   cases hz:eH H.ws root 0 4096 with
   | none=>exact Nat.zero_le _
   | some zs=>exact yl _ _ _ _ _ hz
  refine jB (fun wc hG=>(VS H.ws hH.Jt (hws.good hG) hL.m root).mono (R':=Ez ((eH H.ws root 0 4096).getD [])) (fun u hn hu=>Ez.of hu)) (Ez.ex hxl) ?_
  refine jS ?_
  rintro u hn ⟨v1,h1,e9,rfl,hO,hle⟩
  have hxm:∀ m∈(eH H.ws root 0 4096).getD [],0≤m.mid∧m.mid≤4095:=fun m hm=>by
   cases hz:eH H.ws root 0 4096 with
   | none=>rw [hz] at hm;cases hm
   | some zs=>
    rw [hz] at hm
    obtain ⟨k,hk,e⟩:=Hu hz hm
    have:=(yx e).2.2.1
    omega
  generalize (eH H.ws root 0 4096).getD []=xs at hO hxl hxm
  refine xJ ?_
  refine dY ?_
  refine dY ?_
  refine iW ?_
  refine qU ?_
  simp only [List.cons_append,List.nil_append,List.append_nil]
  obtain ⟨q5,c5,x5⟩:=hO.opened
  rw [List.length_map] at x5
  subst x5
  refine run ?_
  refine ak (fun wc hG=>Et (F:=184) (us:=[.pointer (some ⟨Y,0,none⟩),.pointer (some ⟨R,0,none⟩),.pointer (some ⟨E,0,none⟩)]) (fun m=>(H.iR root m.mid).2 && decide (m.gU=e.frame) && (H.iR root m.mid).1.r) xs _ (hO.lie (hG.lie fun x hx=>by have:=hle.mem hx;simp [this]) be9) (fun m hm w' ha=>?_)) ?_
  ·obtain ⟨hp,hg⟩:=ha
   refine Rw (h.good (hG.trans hg)) root m (hxm m hm) e ?_ ?_ ?_
   ·exact hg.cell bh3 be7
   ·exact hg.cell (by rw [cell_of_block (hG.here ⟨R,#[.int .i64 root],3⟩ be7)];rfl) be7
   ·exact hg.range (pG (t:=51) (hG.here ⟨E,(kE e).toArray,51⟩ be7)) be7
  refine run ?_
  exact fin1 rfl
theorem V4 {w:World} {X Y:Nat} {wv cv vv rv:Value} {mv:Nat→Value} {H:HyD} (h:wH w X wv cv vv rv mv H) (hf5:∀ i,i<4→(H.vu i).live=true→0<(H.vu i).fs.length) (e:iU) (he:e.may=true) (hY:w.cell? ⟨Y,0,none⟩=some (.pointer (some ⟨X,0,none⟩))):Fn Tryz.prog 92 ([]++[Value.agg (kE e).toArray]++[Value.pointer (some ⟨Y,0,none⟩)]).toArray w [] (fun u _=>u=.bool (!H.nM e)):=by
 refine enter Tryz.func92 ?_
 refine run ?_
 intro B
 refine ak (fun wc hG=>Rx (h.good hG) hf5 e he) ?_
 refine run ?_
 exact fin1 rfl
theorem V5 {w:World} {X:Nat} {wv cv vv rv:Value} {mv:Nat→Value} {H:HyD} (h:wH w X wv cv vv rv mv H) (hf5:∀ i,i<4→(H.vu i).live=true→0<(H.vu i).fs.length) (t:oU) (h1:aF w t.ev 14 (t.es.map kE)) (h2:aF w t.dv 4 (t.ds.map rD)) (hc:t.es.length≤t.ec):Fn Tryz.prog 43 [.pointer (some ⟨X,0,none⟩),.agg (XA t).toArray].toArray w [] (fun u _=>u=.bool (gq t.es t.ds && t.es.all H.nM)):=by
 refine enter Tryz.func43 ?_
 refine run ?_
 intro Y T
 refine run ?_
 refine ak (fun wc hG=>yt t.es t.ds _ _ (h1.good hG) (h2.good hG) ⟨_,_,rfl,hc⟩) ?_
 refine aI ?_
 have hok:iH (decide ((bif gq t.es t.ds then (0:Int) else 1)=0)) true=true→∀ e∈t.es,e.may=true:=fun hg=>by
  cases hb:gq t.es t.ds with
  | true=>exact (oP hb).1
  | false=>rw [hb] at hg;cases hg
 refine dO (fun hg wc hG=>Ey (F:=92) (us:=[.pointer (some ⟨Y,0,none⟩)]) (fun e=>!H.nM e) t.es _ (h1.good hG) (fun e hm w' ha=>?_)) ?_
 ·obtain ⟨hp,hg'⟩:=ha
  exact V4 (h.good (hG.trans hg')) hf5 e (hok hg e hm) (hg'.cell bh3 be7)
 refine aI ?_
 refine fin1 ?_
 rw [← List.not_all_eq_any_not,Bool.not_not]
 cases gq t.es t.ds<;>rfl
theorem V6 {H:HyD} {i:Nat} (h:H.rY i=true) (hl:(H.vu i).live=true):0<(H.vu i).fs.length:=by
 unfold HyD.rY at h
 rw [hl] at h
 simp only [Bool.not_true,cond_false,Bool.and_eq_true,decide_eq_true_eq] at h
 omega
theorem V7 {w:World} {pv gv ov:Value} {P:PtD} (h:fD w pv gv ov P):Fn Tryz.prog 39 [.agg #[pv,gv,ov]].toArray w [] (fun u _=>u=.int .i64 (bif P.may then 0 else 1)):=by
 obtain ⟨p,pc,g,gc,o,oc,rfl,rfl,rfl,_⟩:=h.slices
 refine enter Tryz.func39 ?_
 refine run ?_
 intro B X
 refine ak (fun wc hG=>VO h hG mh) ?_
 refine run ?_
 refine ah _ rfl (fun hc=>?_) (fun hc=>?_)
 ·refine run ?_
  refine fin1 ?_
  simp at hc;rw [hc];rfl
 ·refine run ?_
  refine fin1 ?_
  simp at hc;rw [hc];rfl
theorem zT {w:World} {wv cv vv rv:Value} {H:HyD} (h:MX w wv cv vv rv H):Fn Tryz.prog 20 [.agg #[wv,cv,vv,rv]].toArray w [] (fun u _=>u=.int .i64 (bif H.ok then 0 else 1)):=by
 have h':=h
 obtain ⟨cs,vs,e1,e2,hcc,hH⟩:=h.ex
 have hcl:cs.length=H.cs.length:=by rw [← e1,List.length_map]
 obtain ⟨q,cap,rfl,hne,_⟩:=hH.ws.opened
 have JX:=hH.cs.rows.opened
 rw [hcl] at JX
 obtain ⟨q2,cap2,rfl,hne2,_⟩:=JX
 obtain ⟨q3,cap3,rfl,DC,_⟩:=hH.vs.rows.opened
 obtain ⟨q4,cap4,rfl,NC,_⟩:=hH.rs.opened
 unfold HyD.ok
 refine enter Tryz.func20 ?_
 refine run ?_
 intro B
 refine run ?_
 refine dJ (fun wc hG=>Pg (h'.good hG)) ?_
 intro u hn hu
 unfold JY at hu
 cases hL:H.kK with
 | false=>
  rw [hL,cond_false] at hu
  subst hu
  refine aP [] aj ?_
  refine run ?_
  refine ah _ rfl (fun hd=>?_) (fun hd=>absurd hd be6)
  refine run ?_
  exact fin1 rfl
 | true=>
  rw [hL,cond_true] at hu
  obtain ⟨X,mv,hx,rfl,hM,hX⟩:=hu
  have hS:=nN hL
  refine aP (⟨X,Hw (.slice q H.ws.length cap) (.slice q2 H.cs.length cap2) (.slice q3 vs.length cap3) (.slice q4 H.rs.length cap4) mv,99⟩::hx) (cnt1 hX) ?_
  refine run ?_
  refine ah _ rfl (fun hd=>absurd hd be6) (fun hd=>?_)
  clear hd
  refine run ?_
  have hAw:∀ wc hp,Good w [] hp wc→(∀ e∈⟨X,Hw (.slice q H.ws.length cap) (.slice q2 H.cs.length cap2) (.slice q3 vs.length cap3) (.slice q4 H.rs.length cap4) mv,99⟩::hx,e∈hp)→wH wc X (.slice q H.ws.length cap) (.slice q2 H.cs.length cap2) (.slice q3 vs.length cap3) (.slice q4 H.rs.length cap4) mv H:=fun wc hp hG hs=>FB (t:=99) (h'.good hG) hM hL (hG.lie hs)
  refine dJ (fun wc hG=>O8 (hAw wc _ hG (fun e he=>by simp at he ⊢;rcases he with he | he<;>simp [he]))) ?_
  rintro _ hn2 ⟨a1,a2,a3,k1,k2,k3,m1,m2,m3,rfl,hP⟩
  refine aP (⟨X,Hw (.slice q H.ws.length cap) (.slice q2 H.cs.length cap2) (.slice q3 vs.length cap3) (.slice q4 H.rs.length cap4) mv,99⟩::(hx++hn2)) aj ?_
  refine run ?_
  intro Q
  refine run ?_
  have hPw:∀ wc hp,Good w [] hp wc→(∀ e∈hn2,e∈hp)→fD wc (.slice a1 m1 k1) (.slice a2 m2 k2) (.slice a3 m3 k3) H.aQ:=fun wc hp hG hs=>hP _ (hG.lie hs)
  have hpo:∀ a∈H.aQ.pages,-1≤a.own∧a.own≤14:=fun a ha=>by
   obtain ⟨f,_,rfl⟩:=List.mem_map.1 ha
   have:=JV H f
   omega
  refine ak (fun wc hG=>V7 (hPw wc _ hG (fun e he=>by simp [he]))) ?_
  refine aI ?_
  refine dO (fun hg wc hG=>Vz (bg (k:=0) (n:=1) (hAw wc _ hG (fun e he=>by simp at he ⊢;rcases he with he | he<;>simp [he])).x rfl) (hH.ws.good hG) (by have:=hS.f;omega) H.aQ.pages (hPw wc _ hG (fun e he=>by simp [he])).pages hpo) ?_
  refine aI ?_
  refine dO (fun hg wc hG=>VV (hAw wc _ hG (fun e he=>by simp at he ⊢;rcases he with he | he<;>simp [he]))) ?_
  refine aI ?_
  have ak5:(!decide ((bif H.aQ.may then (0:Int) else 1)=0) || !Dq H.ws H.aQ.pages || !H.quiet)=!(H.aQ.may && Dq H.ws H.aQ.pages && H.quiet):=by
   cases H.aQ.may<;>cases Dq H.ws H.aQ.pages<;>cases H.quiet<;>rfl
  refine ah _ rfl (fun hd=>?_) (fun hd=>?_)
  ·replace hd:=ak5.symm.trans hd
   rw [Bool.not_eq_true'] at hd
   refine run ?_
   refine fin1 ?_
   rw [hd];rfl
  replace hd:=ak5.symm.trans hd
  rw [Bool.not_eq_false'] at hd
  rw [hd]
  have hmay:H.aQ.may=true:=by rw [Bool.and_eq_true,Bool.and_eq_true] at hd;exact hd.1.1
  have hok:=PtD.uh.1 hmay
  have hLen:H.aQ.Len:=⟨hok.n0,hok.n1,hok.g4,hok.o1,hok.o3⟩
  clear hd ak5
  refine run ?_
  refine aX (σ:=Nat) (fun k=>[(37,.int .i64 (k:Int))]) (fun _=>⟨Q,#[.slice a1 m1 k1,.slice a2 m2 k2,.slice a3 m3 k3],38⟩::⟨X,Hw (.slice q H.ws.length cap) (.slice q2 H.cs.length cap2) (.slice q3 vs.length cap3) (.slice q4 H.rs.length cap4) mv,99⟩::(hx++hn2)) (fun k=>k≤4∧∀ j,j<k→H.rY j=true) (fun k=>4 - k) 0 ⟨Nat.zero_le _,fun j hj=>absurd hj (Nat.not_lt_zero _)⟩ ?_
  rintro k m hm2 ⟨hk,hK⟩
  refine run ?_
  have hvl:vs.length=4:=by rw [← hS.v,← e2,List.length_map]
  refine ah _ rfl (fun hd=>?_) (fun hd=>?_)
  ·have hk4:k<4:=by have:=of_decide_eq_true hd;omega
   refine run ?_
   refine ak (fun wc hG=>NL (hAw wc _ hG (fun e he=>by simp at he ⊢;rcases he with he | he<;>simp [he])) (hPw wc _ hG (fun e he=>by simp [he])) hLen hmay k hk4) ?_
   refine run ?_
   refine ah _ rfl (fun hd2=>?_) (fun hd2=>?_)
   ·refine run ?_
    refine fin1 ?_
    rw [oI hk4 (by simpa using hd2)];rfl
   refine run ?_
   refine aK (k + 1) ⟨hk4,fun j hj=>?_⟩
   by_cases e:j=k
   ·subst e;simpa using hd2
   ·exact hK j be5
  have hk4:k=4:=by have:=of_decide_eq_false hd;omega
  subst hk4
  rw [kQ hK,Bool.true_and]
  have hf5:∀ i,i<4→(H.vu i).live=true→0<(H.vu i).fs.length:=fun i hi hl=>V6 (hK i hi) hl
  refine run ?_
  refine aX (σ:=Nat) (fun k=>[(52,.int .i64 (k:Int))]) (fun _=>⟨Q,#[.slice a1 m1 k1,.slice a2 m2 k2,.slice a3 m3 k3],38⟩::⟨X,Hw (.slice q H.ws.length cap) (.slice q2 H.cs.length cap2) (.slice q3 vs.length cap3) (.slice q4 H.rs.length cap4) mv,99⟩::(hx++hn2)) (fun k=>k≤H.cs.length∧∀ j,j<k→H.sound j=true) (fun k=>H.cs.length - k) 0 ⟨Nat.zero_le _,fun j hj=>absurd hj (Nat.not_lt_zero _)⟩ ?_
  rintro k3 m3 hm3 ⟨hk3,hK3⟩
  refine run ?_
  refine ah _ rfl (fun hd=>?_) (fun hd=>?_)
  ·have hlt:k3<H.cs.length:=by have:=of_decide_eq_true hd;omega
   obtain ⟨b3,o3,rfl⟩:=hne2 bi5
   have hr3:=hH.cs.rows.row (k:=k3) be5
   have hen:=hH.cs.en _ (getD_mem (l:=cs) (k:=k3) be5)
   have hiv:=hH.cs.iv _ (getD_mem (l:=cs) (k:=k3) be5)
   have hec:=hcc _ (getD_mem (l:=cs) (k:=k3) be5)
   have XF:=yj e1 k3
   have hsd:H.sound k3=(gq (cs.getD k3 default).t.es (cs.getD k3 default).t.ds && (cs.getD k3 default).t.es.all H.nM):=by unfold HyD.sound HyD.cu;rw [← XF];rfl
   generalize cs.getD k3 default=c at hr3 hen hiv hec hsd
   have hr4:w.rangeAt b3 (o3 + k3 * 19 + 17) [c.t.ev,c.t.dv]:=bg (k:=17) (n:=2) hr3 rfl
   refine run ?_
   refine ak (fun wc hG=>V5 (hAw wc _ hG (fun e he=>by simp at he ⊢;rcases he with he | he<;>simp [he])) hf5 c.t (hen.good hG) (hiv.good hG) hec) ?_
   rw [← hsd]
   refine run ?_
   refine ah _ rfl (fun hd2=>?_) (fun hd2=>?_)
   ·refine run ?_
    refine fin1 ?_
    rw [oI hlt (by simpa using hd2)];rfl
   refine run ?_
   refine aK (k3 + 1) ⟨hlt,fun j hj=>?_⟩
   by_cases e:j=k3
   ·subst e;simpa using hd2
   ·exact hK3 j be5
  have hkc:k3=H.cs.length:=by have:=of_decide_eq_false hd;omega
  subst hkc
  rw [kQ hK3]
  refine run ?_
  exact fin1 rfl
end
section
attribute [local irreducible] Hy St Ops DH dG je iI gJ DS gY
abbrev aw9 (p:Int × Int):List Value:=[.int .i64 p.1,.int .i64 p.2]
structure H7 (w:World) (nv wv cv mv rv lv:Value) (N:List (Int × Int)) (ms:List jH) (L:List Int):Prop where
 n:aF w nv 2 (N.map aw9)
 ms:Eo w mv ms
 l:aF w lv 1 (L.map dA)
 ws:∃ p n c,wv=.slice p n c
 cs:∃ p n c,cv=.slice p n c
 rs:∃ p n c,rv=.slice p n c
theorem H7.good {w w':World} {hp:Hp} {nv wv cv mv rv lv:Value} {N:List (Int × Int)} {ms:List jH} {L:List Int} (h:H7 w nv wv cv mv rv lv N ms L) (hG:Good w [] hp w'):H7 w' nv wv cv mv rv lv N ms L:=⟨h.n.good hG,h.ms.good hG,h.l.good hG,h.ws,h.cs,h.rs⟩
theorem Eo.first {w:World} {v:Value} {ms:List jH} (h:Eo w v ms) {k:Nat} (hk:k<ms.length) (h0:0<(ms.getD k default).fs.length):∃ b o,(ms.getD k default).fp=some ⟨b,o,none⟩∧w.rangeAt b o [.int .i64 ((ms.getD k default).fs.getD 0 0)]:=by
 have h1:=h.fs _ (getD_mem hk)
 generalize ms.getD k default=m at h1 h0 ⊢
 obtain ⟨live,dying,aO,fs,fp,fc,fr,rp,rc,vs,vp,vk⟩:=m
 dsimp only [jH.fv] at h1 h0 ⊢
 obtain ⟨q,c,e,hne,_⟩:=h1.opened
 injection e with e1 _ e3
 subst e1
 obtain ⟨b,o,rfl⟩:=hne (by intro e;rw [e] at h0;simp at h0)
 refine ⟨b,o,rfl,?_⟩
 have:=h1.row h0
 simpa [dA] using this
end
section
attribute [local irreducible] Hy St Ops DH dG je iI gJ DS gY mP
def Zm (xs:List jv) (u:Value) (hn:Hp):Prop:=∃ v h b,u=.tuple #[v,.bool b]∧(b=false→xs=[])∧Own 148 2 v h (xs.map dS)∧aC h hn
theorem Zm.of {r:Option (List jv)} {u:Value} {hn:Hp} (h:aw0 r u hn):Zm (r.getD []) u hn:=by
 cases r with
 | none=>exact ⟨_,[],false,h,fun _=>rfl,Own.nil _ _,by (exact aj)⟩
 | some xs=>
  obtain ⟨v,h1,e,hO,hle⟩:=h
  exact ⟨v,h1,true,e,(fun hf=>by cases hf),hO,hle⟩
theorem Zm.ex {xs:List jv} (h:xs.length≤4096):∃ u hn,Zm xs u hn:=by
 obtain ⟨v,h1,hO⟩:=dU (e:=148) (sz:=2) (xs:=xs.map dS) (fun c hc=>by obtain ⟨m,_,rfl⟩:=List.mem_map.1 hc;exact ⟨rfl,rfl⟩) be9
 exact ⟨_,h1,v,h1,true,rfl,(fun hf=>by cases hf),hO,aC.refl _⟩
structure V8 (w:World) (v:Value) (H:HyD):Prop where
 ex:∃ b o cap,∃ u:Nat→Value,v=.slice (some ⟨b,o,none⟩) 4 cap∧∀ i,i<4→w.rangeAt b (o + i * 1) [u i]∧aF w (u i) 2 ((H.JI i).map dS)
theorem V8.good {w w':World} {hp:Hp} {v:Value} {H:HyD} (h:V8 w v H) (hG:Good w [] hp w'):V8 w' v H:=by
 obtain ⟨b,o,cap,u,e,h5⟩:=h
 exact ⟨b,o,cap,u,e,fun i hi=>⟨hG.range (h5 i hi).1 be7,(h5 i hi).2.good hG⟩⟩
end
section
section
variable {n : Nat} {w0 : World} {mu : List Nat} {l : Fm} {hp : Hp} {Q : Exit → Fm → Hp → Prop} {all : Array Oper} {rest : List Oper} {ty : TypeId} {pos : String} {af : Array Edge}
end
attribute [local irreducible] Hy St Ops DH dG je iI gJ DS gY mP
theorem Good.off {w0 w:World} {hp:Hp} (h:Good w0 [] hp w) {b o:Nat} {v:Value} (hc:w0.cell? ⟨b,o,none⟩=some v):b ∉ hp.map (·.b):=fun hm=>by
 obtain ⟨e,he,rfl⟩:=List.mem_map.1 hm
 have h1:e.b<w0.heap.size:=block_lt_of_cell hc
 rcases h.own e he with h2 | h2
 ·cases h2
 ·omega
end
section
attribute [local irreducible] Hy St Ops DH dG
structure HtD where
 frame:Int
 mid:Int
 r:Bool
 w:Bool
 x:Bool
 af:Bool
 ng:Bool
 soft:Int
 level:Int
deriving DecidableEq
def aG':HtD:=⟨0,0,false,false,false,false,false,0,0⟩
instance : Inhabited HtD := ⟨aG'⟩
structure FtD where
 kind:Int
 stage:Int
 level:Int
 walk:Bool
 page:Int
deriving DecidableEq
def aH0:FtD:=⟨0,0,0,false,0⟩
instance : Inhabited FtD := ⟨aH0⟩
end
section
attribute [local irreducible] Hy St Ops DH dG je iI gJ DS gY mP
def HyD.Pm (H:HyD) (k:Nat):Bool:=decide (H.ws.getD k 0=(sK (H.ws.length / 8 * 8) (dW H.aQ.pages) 64).ws.getD k 0)
end
theorem FC (pages:List sF):∀ lv,lv<4→∀ tb,tb<jP lv→∀ a,a<8→(jI pages lv tb a).word 2 lv=iQ (dW pages) 64 ((lv + tb) * 8 + a):=by
 intro lv hl tb ht a ha
 unfold jP at ht
 have h64:decide ((64:Nat)=0)=false:=by decide
 by_cases h3:lv=3
 ·subst h3
  rw [if_pos rfl] at ht
  unfold jI iQ
  rw [decide_eq_true rfl,h64,decide_eq_false (show ¬ (3 + tb) * 8 + a=0 by omega),decide_eq_false (show ¬ (3 + tb) * 8 + a=8 by omega),decide_eq_false (show ¬ (16≤(3 + tb) * 8 + a∧(3 + tb) * 8 + a<24∧8 * ((3 + tb) * 8 + a - 16)<64) by omega),decide_eq_true (show 24≤(3 + tb) * 8 + a∧(3 + tb) * 8 + a<24 + 64 by omega)]
  simp only [cond_true,cond_false]
  rw [show (3 + tb) * 8 + a - 24=tb * 8 + a by omega]
 ·rw [if_neg h3] at ht
  obtain rfl:tb=0:=by omega
  unfold jI iQ
  rw [decide_eq_false h3,h64]
  simp only [cond_false,Nat.add_zero]
  by_cases h2:lv=2
  ·subst h2
   rw [decide_eq_true rfl,decide_eq_false (show ¬ 2 * 8 + a=0 by omega),decide_eq_false (show ¬ 2 * 8 + a=8 by omega),decide_eq_true (show 16≤2 * 8 + a∧2 * 8 + a<24∧8 * (2 * 8 + a - 16)<64 by omega)]
   simp only [cond_true,cond_false]
   rw [show 2 * 8 + a - 16=a by omega,← OX (3 + a) 2]
   congr 2
  ·rw [decide_eq_false h2]
   simp only [cond_false]
   have hw0:∀ l,l<2→dN.word 2 l=0:=by decide
   have hl2:lv=0∨lv=1:=by omega
   rcases hl2 with rfl | rfl
   ·by_cases h0:a=0
    ·subst h0;rfl
    ·rw [decide_eq_false h0,decide_eq_false (show ¬ 0 * 8 + a=0 by omega),decide_eq_false (show ¬ 0 * 8 + a=8 by omega),decide_eq_false (show ¬ (16≤0 * 8 + a∧0 * 8 + a<24∧8 * (0 * 8 + a - 16)<64) by omega),decide_eq_false (show ¬ (24≤0 * 8 + a∧0 * 8 + a<24 + 64) by omega)]
     exact hw0 0 be6
   ·by_cases h0:a=0
    ·subst h0;rfl
    ·rw [decide_eq_false h0,decide_eq_false (show ¬ 1 * 8 + a=0 by omega),decide_eq_false (show ¬ 1 * 8 + a=8 by omega),decide_eq_false (show ¬ (16≤1 * 8 + a∧1 * 8 + a<24∧8 * (1 * 8 + a - 16)<64) by omega),decide_eq_false (show ¬ (24≤1 * 8 + a∧1 * 8 + a<24 + 64) by omega)]
     exact hw0 1 be6
theorem host_eq {H:HyD} (hL:JU H):Dq H.ws H.aQ.pages=allB 88 H.Pm:=by
 have Au:=dh hL.m
 have hf:=hL.f
 have hK:∀ k,k<88→(sK (H.ws.length / 8 * 8) (dW H.aQ.pages) 64).ws.getD k 0=iQ (dW H.aQ.pages) 64 k:=fun k hk=>by
  rw [qy be5 _ 64 (Nat.le_refl _)]
  simp only [dI]
  rw [List.getD_eq_getElem?_getD,List.getElem?_map,List.getElem?_range be5];rfl
 rw [Bool.eq_iff_iff]
 constructor
 ·intro h
  refine bM.2 fun k hk=>?_
  unfold HyD.Pm
  rw [hK k hk]
  have hlv:∃ lv tb,lv<4∧tb<jP lv∧lv + tb=k / 8:=by
   by_cases h3:k / 8<3
   ·exact ⟨k / 8,0,by omega,by unfold jP;rw [if_neg be5];omega,rfl⟩
   ·exact ⟨3,k / 8 - 3,by omega,by unfold jP;rw [if_pos rfl];omega,by omega⟩
  obtain ⟨lv,tb,h1,h2,h3⟩:=hlv
  have:=JE h h1 h2 (Nat.mod_lt k (show 0<8 by decide))
  unfold qE at this
  rw [FC _ lv h1 tb h2 (k % 8) (Nat.mod_lt k be6),show (lv + tb) * 8 + k % 8=k by omega] at this
  exact this
 ·intro h
  refine Dt fun lv h1 tb h2 a ha=>?_
  have hk:(lv + tb) * 8 + a<88:=by
   unfold jP at h2
   split at h2<;>omega
  have:=bM.1 h _ hk
  unfold HyD.Pm at this
  rw [hK _ hk] at this
  unfold qE
  rw [FC _ lv h1 tb h2 a ha]
  exact this
section
theorem JZ {es:List iU} {ds:List jZ}:gq es ds=true↔(∀ e∈es,e.may=true)∧es.Nodup∧ds.all jZ.may=true∧es.length≤8∧ds.length≤8:=by
 constructor
 ·intro h
  have hm:=oP h
  simp only [gq,Bool.and_eq_true,decide_eq_true_eq] at h
  refine ⟨hm.1,?_,h.1.1.2,hm.2⟩
  rw [List.nodup_iff_pairwise_ne,List.pairwise_iff_getElem]
  intro i j hi hj hij
  have h1:=List.all_eq_true.1 h.1.1.1 j (List.mem_range.2 hj)
  simp only [JA,Bool.and_eq_true,Bool.not_eq_true',List.any_eq_false] at h1
  have h2:=h1.2 es[i] (List.mem_take_iff_getElem.2 ⟨i,by omega,rfl⟩)
  rw [List.getD_eq_getElem?_getD,List.getElem?_eq_getElem hj] at h2
  simpa using h2
 ·rintro ⟨h1,h2,h3,h4,h5⟩
  simp only [gq,Bool.and_eq_true,decide_eq_true_eq]
  refine ⟨⟨⟨List.all_eq_true.2 fun j hj=>?_,h3⟩,h4⟩,h5⟩
  rw [List.mem_range] at hj
  simp only [JA,Bool.and_eq_true,Bool.not_eq_true',List.any_eq_false]
  refine ⟨h1 _ (getD_mem hj),fun x hx=>?_⟩
  obtain ⟨i,hi,rfl⟩:=List.mem_take_iff_getElem.1 hx
  rw [List.nodup_iff_pairwise_ne,List.pairwise_iff_getElem] at h2
  have:=h2 i j be5 hj be5
  rw [List.getD_eq_getElem?_getD,List.getElem?_eq_getElem hj]
  simpa using this
theorem Ry {es:List iU} {ds:List jZ} (due:List jZ) (h:gq es ds=true):gq (lF es due) ds=true:=by
 obtain ⟨h1,h2,h3,h4,h5⟩:=JZ.1 h
 exact JZ.2 ⟨fun e he=>h1 e (List.mem_filter.1 he).1,h2.filter _,h3,Nat.le_trans (List.length_filter_le ..) h4,h5⟩
theorem Rz (ws:List Nat):dI ws.length (fun p=>ws.getD p 0)=ws:=by
 apply List.ext_getElem?
 intro i
 simp only [dI,List.getElem?_map]
 by_cases hl:i<ws.length
 ·simp [List.getElem?_range hl,List.getD_eq_getElem?_getD,List.getElem?_eq_getElem hl]
 ·simp [List.getElem?_eq_none (show (List.range ws.length).length≤i by simp;omega),List.getElem?_eq_none (show ws.length≤i by omega)]
theorem RD {ws:List Nat} {p q v:Nat}:(ws.set p v).getD q 0=bif decide (p=q∧q<ws.length) then v else ws.getD q 0:=by
 rw [List.getD_eq_getElem?_getD,List.getD_eq_getElem?_getD,List.getElem?_set]
 by_cases h:p=q
 ·subst h
  by_cases hl:p<ws.length
  ·simp [hl]
  ·simp [hl,List.getElem?_eq_none (show ws.length≤p by omega)]
 ·simp [h]
theorem zq {ws:List Nat} {p q v:Nat} (h:p ≠ q):(ws.set p v).getD q 0=ws.getD q 0:=by
 rw [RD,decide_eq_false (fun e=>h e.1)];rfl
structure HostT (ws:List Nat):Prop where
 n:128≤ws.length
 a:ws.getD 0 0=gW 1
 b:ws.getD 8 0=gW 2
 c:∀ j,j<8→ws.getD (16 + j) 0=gW (3 + j)
namespace HostT
variable {ws : List Nat} {k : Nat}
theorem way (h:HostT ws) (hk:k<64):bz ws 0 k 3=⟨[0,1,2,((3 + k / 8:Nat):Int)],kS ws (24 + k) 3,true⟩:=by
 have:=ai7 (g:=fun p=>ws.getD p 0) h.n hk h.a h.b (h.c _ be5)
 rw [Rz] at this
 exact this
theorem get (h:HostT ws) (hk:k<64):kJ ws 0 k=⟨kS ws (24 + k) 3,3,0⟩:=by
 unfold kJ
 rw [h.way hk];rfl
theorem put (h:HostT ws) (hk:k<64) (d:DsD):eG ws 0 k 3 d=⟨kH ws (24 + k) 3 d,[],0⟩:=by
 unfold eG
 rw [h.way hk]
 simp only [Bool.not_true,cond_false,uB.lv,List.length_cons,List.length_nil,uB.place]
 rw [show (0 + 1 + 1 + 1 + 1 - 1:Nat)=3 from rfl]
 simp only [decide_true,Bool.not_true,cond_false]
 rw [show ([0,1,2,((3 + k / 8:Nat):Int)]:List Int).getD 3 0=((3 + k / 8:Nat):Int) from rfl,Di k hk]
theorem set (h:HostT ws) {p:Nat} (hp:24≤p) (v:Nat):HostT (ws.set p v):=
 ⟨by rw [List.length_set];exact h.n,by rw [zq be5];exact h.a,by rw [zq be5];exact h.b,fun j hj=>by rw [zq be5];exact h.c j hj⟩
theorem two (h:HostT ws) (hk:k<64) (d:DsD):eG (eG ws 0 k 3 dN).ws 0 k 3 d=⟨kH ws (24 + k) 3 d,[],0⟩:=by
 rw [h.put hk]
 have h2:HostT (kH ws (24 + k) 3 dN):=h.set be5 _
 dsimp only
 rw [h2.put hk]
 unfold kH
 rw [List.set_set]
theorem of {H:HyD} (hL:JU H) (hw:Dq H.ws H.aQ.pages=true):HostT H.ws:=by
 have hf:=hL.f
 have Au:=dh hL.m
 rw [host_eq hL] at hw
 have hW:∀ p,p<88→H.ws.getD p 0=iQ (dW H.aQ.pages) 64 p:=fun k hk=>by
  have:=bM.1 hw k hk
  unfold HyD.Pm at this
  rw [decide_eq_true_eq] at this
  rw [this,qy be5 _ 64 (Nat.le_refl _)]
  exact Ju _ be5
 have he:=He (dd:=dW H.aQ.pages) (k:=64) be6
 refine ⟨by omega,by rw [hW 0 be6];exact he.1,by rw [hW 8 be6];exact he.2,fun j hj=>?_⟩
 rw [hW _ be5,yc be6 hj,decide_eq_true (show 8 * j<64 by omega)];rfl
end HostT
namespace HyD
def fgt (H:HyD) (aO mid:Int):HyD:={ H with cs:=H.cs.map fun c=>{ c with es:=lF c.es (rH aO mid) } }
def chg (H:HyD) (root aO:Int) (mid:Nat) (d:DsD):HyD:={ H.fgt aO mid with ws:=(eG (eG H.ws root mid 3 dN).ws root mid 3 d).ws }
def hst (H:HyD) (f:Nat) (d:DsD):HyD:={ H.fgt 0 f with ws:=kH H.ws (24 + f) 3 d }
structure kL (H:HyD):Prop where
 m:fK H.ws.length=true
 Jt:lu H.ws
 t:HostT H.ws
 c1:1≤H.cs.length
 c3:H.cs.length≤3
 r:H.rs.length=H.cs.length
 v:H.vs.length=4
 tl:∀ c∈H.cs,gq c.es c.ds=true
variable {H : HyD}
theorem Zn (h:HostT H.ws) {f:Nat} (hf:f<64) (d:DsD):H.chg 0 0 f d=H.hst f d:=by
 unfold chg hst
 rw [h.two hf]
theorem kL.cs (h:kL H) {cs:List qJ} (hl:cs.length=H.cs.length) (ht:∀ c∈cs,gq c.es c.ds=true):kL { H with cs:=cs }:=
 ⟨h.m,h.Jt,h.t,by rw [hl];exact h.c1,by rw [hl];exact h.c3,by rw [hl];exact h.r,h.v,ht⟩
theorem kL.fgt (h:kL H) (aO mid:Int):kL (H.fgt aO mid):=by
 refine h.cs (List.length_map ..) fun c hc=>?_
 obtain ⟨x,hx,rfl⟩:=List.mem_map.1 hc
 exact Ry _ (h.tl x hx)
theorem kL.ws (h:kL H) {ws:List Nat} (hl:ws.length=H.ws.length) (hw:lu ws) (ht:HostT ws):kL { H with ws:=ws }:=
 ⟨by rw [hl];exact h.m,hw,ht,h.c1,h.c3,h.r,h.v,h.tl⟩
theorem kL.hst (h:kL H) {f:Nat} (d:DsD):kL (H.hst f d):=(h.fgt 0 f).ws (jG ..) (h.Jt.kH _ _ _) (h.t.set be5 _)
end HyD
end
section
theorem getD_map {α β:Type} [Inhabited α] [Inhabited β] (f:α→β) (hd:f default=default) (l:List α) (k:Nat):(l.map f).getD k default=f (l.getD k default):=by
 rw [List.getD_eq_getElem?_getD,List.getD_eq_getElem?_getD,List.getElem?_map]
 cases l[k]? with
 | none=>exact hd.symm
 | some x=>rfl
theorem Pn {α β:Type} (f:α→β) (p:β→Bool):∀ (l:List α) (k:Nat),PtD.idx p (l.map f) k=PtD.idx (fun x=>p (f x)) l k
 | [],_=>rfl
 | x::l,k=>by
  rw [List.map_cons,PtD.idx,PtD.idx,Pn f p l (k + 1)]
def qK.bare (v:qK):qK:={ v with vs:=v.vs.map fun c=>⟨dK,c.on⟩ }
def qJ.bare (c:qJ):qJ:={ c with r:=dK }
namespace HyD
def bare (H:HyD):HyD:=⟨H.ws,H.cs.map qJ.bare,H.vs.map qK.bare,H.rs.map fun _=>dK⟩
variable (H : HyD)
theorem vz (i:Nat):H.bare.vu i=(H.vu i).bare:=getD_map qK.bare rfl H.vs i
theorem Zo (i:Nat):H.bare.cu i=(H.cu i).bare:=getD_map qJ.bare rfl H.cs i
theorem J3 (i:Nat):H.bare.JI i=H.JI i:=by unfold JI;rw [vz];rfl
theorem V9 (i:Nat):H.bare.msA i=H.msA i:=by unfold msA;rw [J3,vz];rfl
theorem We (f s:Int):H.bare.ry f s=H.ry f s:=by unfold ry;simp only [V9]
theorem RF (f:Nat):H.bare.kP f=H.kP f:=by unfold kP;simp only [We];rfl
theorem NM (i:Nat):H.bare.bW i=H.bW i:=by
 unfold bW
 rw [J3,vz]
 unfold qK.bare qK.root
 simp only [List.map_map]
 rfl
theorem zu:H.bare.aQ=H.aQ:=by
 unfold aQ
 rw [show H.bare.kP=H.kP from funext H.RF,show H.bare.bW=H.bW from funext H.NM]
 unfold bare
 simp only [List.map_map]
 rfl
theorem RG (i:Nat):H.bare.MW i=H.MW i:=by
 funext p d
 unfold MW
 rw [zu]
theorem RH (i:Nat):H.bare.rY i=H.rY i:=by
 unfold rY
 rw [RG,vz]
 rfl
theorem RI (v:Int):H.bare.Dx v=H.Dx v:=by
 unfold Dx
 rw [show H.bare.vs=H.vs.map qK.bare from rfl,Pn]
 rw [show (fun x:qK=>(qK.bare x).live && decide ((qK.bare x).aO=v))=fun x:qK=>x.live && decide (x.aO=v) from rfl]
 cases PtD.idx (fun x:qK=>x.live && decide (x.aO=v)) H.vs 0 with
 | none=>rfl
 | some i=>dsimp only;rw [vz];rfl
theorem J4 (e:iU):H.bare.nM e=H.nM e:=by
 unfold nM
 rw [RI]
 rfl
theorem NP (c:Nat):H.bare.sound c=H.sound c:=by
 unfold sound
 rw [Zo,show H.bare.nM=H.nM from funext H.J4]
 rfl
variable {H}
theorem Po (h:H.bare.ok=true) (h1:∀ i,i<4→(H.vu i).vs.all XC=true) (h2:∀ c,c<H.cs.length→H.cpQ c=true):H.ok=true:=by
 unfold ok at h ⊢
 rw [zu,show H.bare.rY=H.rY from funext H.RH,show H.bare.sound=H.sound from funext H.NP] at h
 have e1:H.bare.kK=H.kK:=by unfold kK bare;simp only [List.length_map]
 have e2:H.bare.cs.length=H.cs.length:=List.length_map ..
 rw [e1,e2,show H.bare.ws=H.ws from rfl] at h
 simp only [Bool.and_eq_true] at h ⊢
 obtain ⟨⟨⟨g1,⟨g2,g3⟩,g4⟩,g5⟩,g6⟩:=h
 refine ⟨⟨⟨g1,⟨g2,g3⟩,?_⟩,g5⟩,g6⟩
 unfold quiet at g4 ⊢
 rw [Bool.and_eq_true] at g4 ⊢
 refine ⟨kQ h2,kQ fun i hi=>?_⟩
 have g:=bM.1 g4.2 i hi
 unfold vmQ at g ⊢
 rw [vz] at g
 rw [show (H.vu i).bare.live=(H.vu i).live from rfl] at g
 cases hl:(H.vu i).live with
 | true=>
  rw [hl] at g
  simp only [cond_true,Bool.and_eq_true] at g ⊢
  refine ⟨⟨h1 i hi,g.1.2⟩,?_⟩
  have:=g.2
  rw [show H.bare.vs=H.vs.map qK.bare from rfl,← List.map_take,List.any_map] at this
  exact this
 | false=>
  rw [hl] at g
  simp only [cond_false,Bool.and_eq_true,decide_eq_true_eq] at g ⊢
  refine ⟨⟨⟨?_,g.1.1.2⟩,g.1.2⟩,g.2⟩
  exact List.map_eq_nil_iff.1 g.1.1.1
end HyD
end
end Go.Proofs.YtiaelhhmlbfkmaaGreat
