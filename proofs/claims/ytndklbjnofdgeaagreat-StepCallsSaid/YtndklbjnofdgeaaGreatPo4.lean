/- Texts of one's own, merged: the engine, what the functions do, plain laws. -/
import Derived.Test.YtndklbjnofdgeaaGreatPo3
namespace Go.Proofs.YtndklbjnofdgeaaGreat
open Go.RowKit
set_option linter.unusedVariables false
set_option linter.unusedSimpArgs false
set_option maxRecDepth 20000
section
section
variable {P : Program} {n : Nat} {w0 : World} {mu : List Nat} {l : Fm} {hp : Hp} {dd : Option Tmp} {ty : TypeId} {pos : String} {af : Array Edge} {gg : Option (Nat × Bool)} {t u : TypeId} {x y : Operand}
theorem Dt {p q:Int} (hx:ev l x=some (.int .i64 p)) (hy:ev l y=some (.int .i64 q)):Hy P n w0 mu l hp ⟨dd,.binOp .andNot t x y u,ty,pos,af,gg⟩ (.int .i64 (bits .andNot .i64 p q)):=
 bz fun ac w hk _=>by
  simp only [execOp,hk.ev hx,hk.ev hy]
  simp [eqGuard_andNot,binOp_andNot,intBits_andNot]
end
theorem Hg:∀ l:Nat,l<3→∀ p:Nat,p<4096→bits .andNot .i64 (p:Int) ((aP l:Nat) - 1:Int)=((kL l p:Nat):Int):=by decide +kernel
end
section
attribute [local irreducible] Hy St Ops DH gB
theorem Ns (m x:Int) (B:Nat) (w:World) (hB:w.cell? ⟨B,0,none⟩=some (.int .i64 m)):Fn Tryz.prog 160 ([]++[Value.int .i64 x]++[Value.pointer (some ⟨B,0,none⟩)]).toArray w [] (fun u _=>u=.bool (!PtD.bY x 0 m)):=by
 refine enter Tryz.func160 ?_
 refine az ?_
 refine fin1 ?_
 unfold PtD.bY
 rw [Bool.not_and]
 congr 1
 rw [← decide_not,← decide_not]
 congr 1<;>(rw [Bool.eq_iff_iff,decide_eq_true_eq,decide_eq_true_eq];omega)
theorem lD (m:Int) (xs:List Int) {w:World} {v:Value} (h:aB w v 1 (xs.map dH)):Fn Tryz.prog 131 [.int .i64 m,v].toArray w [] (fun u _=>u=.bool (xs.all fun x=>PtD.bY x 0 m)):=by
 refine enter Tryz.func131 ?_
 refine run ?_
 intro B
 refine run ?_
 refine ax (fun wc hG=>uN (us:=[.pointer (some ⟨B,0,none⟩)]) (fun x=>!PtD.bY x 0 m) xs _ (h.good hG) (fun x _ w' ha=>Ns m x B w' ?_)) ?_
 ·obtain ⟨hp,hg⟩:=ha
  exact hg.cell (by rw [cell_of_block (hG.here _ mh)];rfl) av4
 refine run ?_
 refine fin1 ?_
 rw [← List.not_all_eq_any_not,Bool.not_not]
theorem KL (level:Nat) (h0:1≤level) (h:level<4) (page:Nat) (hp:page≤4095) (w:World):Fn Tryz.prog 132 [.int .i64 (page:Int),.int .i64 (level:Int)].toArray w [] (fun u _=>u=.int .i64 (kL (level - 1) page:Int)):=by
 refine enter Tryz.func132 ?_
 refine run ?_
 have h9:=jc (show level - 1<4 by omega)
 have hc:=Hg (level - 1) au' page au'
 have e3:∀ l:Nat,l<4→1≤l→(1 <<< (3 * (4 - l)):Nat)=aP (l - 1):=by decide
 refine eH av2 (yP rfl rfl 1 (3 * (4 - level)) av2 au' au' (by rw [e3 level h h0];exact Nat.lt_of_le_of_lt h9.2.1 av1)) ?_
 rw [e3 level h h0]
 refine run ?_
 refine eH av2 (Dt rfl rfl) ?_
 rw [hc]
 refine run ?_
 exact fin1 rfl
theorem KN (e:bg) (w:World):Fn Tryz.prog 99 [.agg (bI e).toArray].toArray w [] (fun u _=>u=.bool e.may):=by
 have e1:jg false false=true:=rfl
 refine enter Tryz.func99 ?_
 refine run ?_
 intro B Z
 refine ax (fun wc hG=>lD 15 [e.jm,e.ku] (dL (xs:=[dH e.jm,dH e.ku]) (hG.here ⟨Z,#[.int .i64 e.jm,.int .i64 e.ku],3⟩ mh) ax3 av4)) ?_
 refine az ?_
 cases hq:([e.jm,e.ku].all fun x=>PtD.bY x 0 15) with
 | false=>
  simp only [List.all_cons,List.all_nil,Bool.and_true] at hq
  refine VL (v:=.slice none 0 0) (hy:=fun hg=>by cases hg) (h:=?_)
  refine az ?_
  refine aj _ rfl (fun hc=>?_) (fun hc=>by cases hc)
  refine run ?_
  refine fin1 ?_
  unfold bg.may bg.nums
  rw [hq];simp
 | true=>
  simp only [List.all_cons,List.all_nil,Bool.and_true] at hq
  simp only [Bool.not_true,e1,bZ]
  refine xR ?_ rfl
  refine az ?_
  intro Z2
  refine aZ (fun hg wc hG=>lD 4095 [e.page,e.frame,e.mid] (dL (xs:=[dH e.page,dH e.frame,dH e.mid]) (hG.here ⟨Z2,#[.int .i64 e.page,.int .i64 e.frame,.int .i64 e.mid],3⟩ mh) ax3 av4)) ?_
  refine az ?_
  have hnn:(false || !([e.page,e.frame,e.mid].all fun x=>PtD.bY x 0 4095) || !decide (e.soft=0))=!e.nums:=by
   unfold bg.nums
   rw [hq]
   simp [Bool.and_assoc,Bool.or_assoc]
  rw [hnn]
  refine aj _ rfl (fun hn=>?_) (fun hn=>?_)
  ·refine run ?_
   refine fin1 ?_
   have hn':e.nums=false:=by simpa using hn
   simp [bg.may,hn']
  have hn':e.nums=true:=by simpa using hn
  clear hnn
  have hb:=hn'
  simp only [bg.nums,Bool.and_eq_true,decide_eq_true_eq] at hb
  have hpz:=oJ hb.1.1.1.2
  refine run ?_
  refine aj _ rfl (fun hk=>?_) (fun hk=>?_)
  ·refine run ?_
   refine fin1 ?_
   simp [bg.may,hn',hk]
  refine run ?_
  refine aj _ rfl (fun hk2=>?_) (fun hk2=>?_)
  ·refine az ?_
   refine fin1 ?_
   simp [bg.may,hn',hk,hk2]
  refine run ?_
  refine aj _ rfl (fun hk3=>?_) (fun hk3=>?_)
  ·refine az ?_
   refine iV 36 ?_
   refine iU ?_
   refine kS (b:=decide (1≤e.level) && decide (e.level<4)) (want:=true) (v:=.int .i64 (kL (e.level.toNat - 1) e.page.toNat:Int)) (fun hg wc hG=>by
    simp [jg] at hg
    have h5:=KL e.level.toNat au' au' e.page.toNat hpz.2 wc
    rw [hpz.1,show ((e.level.toNat:Nat):Int)=e.level by omega] at h5
    exact h5) ?_
   refine iU ?_
   refine run ?_
   refine fin1 ?_
   have hz:decide (e.page=((kL (e.level.toNat - 1) e.page.toNat:Nat):Int))=decide (kL (e.level.toNat - 1) e.page.toNat=e.page.toNat):=by
    rw [Bool.eq_iff_iff,decide_eq_true_eq,decide_eq_true_eq]
    have:=hpz.1
    omega
   have hl4:decide (e.level<4)=decide (e.level≤3):=by rw [Bool.eq_iff_iff,decide_eq_true_eq,decide_eq_true_eq];omega
   rw [hz,hl4]
   simp only [bg.may,hn',hk3,show decide (e.kind=1)=false by simpa using hk,show decide (e.kind=2)=false by simpa using hk2,cond_false,cond_true,Bool.true_and,PtD.bY,bg.bare,bF,nH]
   cases e.r<;>cases e.w<;>cases e.x<;>cases e.af<;>cases e.ng<;>simp
  ·refine run ?_
   refine fin1 ?_
   simp [bg.may,hn',hk,hk2,hk3]
theorem Zt (i:dB) (w:World):Fn Tryz.prog 103 [.agg (dJ i).toArray].toArray w [] (fun u _=>u=.bool i.may):=by
 have e1:jg true true=true:=rfl
 refine enter Tryz.func103 ?_
 refine run ?_
 intro B
 refine az ?_
 cases hq:(decide (1≤i.kind) && decide (i.kind≤6)) with
 | false=>
  refine VL (v:=.slice none 0 0) (hy:=fun hg=>by cases hg) (h:=?_)
  refine az ?_
  refine fin1 ?_
  simp only [dB.may,PtD.bY,hq,Bool.false_and]
 | true=>
  simp only [e1,bZ]
  refine xR ?_ rfl
  refine az ?_
  intro Z
  refine aZ (fun hg wc hG=>lD 15 [i.jm,i.ku] (dL (xs:=[dH i.jm,dH i.ku]) (hG.here ⟨Z,#[.int .i64 i.jm,.int .i64 i.ku],3⟩ mh) ax3 av4)) ?_
  refine az ?_
  simp only [Bool.true_and]
  refine az ?_
  cases hq2:([i.jm,i.ku].all fun x=>PtD.bY x 0 15) with
  | false=>
   refine VL (v:=.slice none 0 0) (hy:=fun hg=>by cases hg) (h:=?_)
   refine az ?_
   refine fin1 ?_
   simp only [List.all_cons,List.all_nil,Bool.and_true] at hq2
   unfold dB.may
   rw [Bool.and_assoc (PtD.bY i.kind 1 6),hq2]
   simp
  | true=>
   simp only [e1,bZ]
   refine xR ?_ rfl
   refine az ?_
   intro Z2
   refine aZ (fun hg wc hG=>lD 4095 [i.page] (dL (xs:=[dH i.page]) (hG.here ⟨Z2,#[.int .i64 i.page],3⟩ mh) ax3 av4)) ?_
   refine az ?_
   refine fin1 ?_
   simp only [List.all_cons,List.all_nil,Bool.and_true] at hq2
   unfold dB.may
   rw [Bool.and_assoc (PtD.bY i.kind 1 6),show PtD.bY i.kind 1 6=true from hq,hq2]
   simp
theorem QJ (i:dB) (w:World):Fn Tryz.prog 102 ([]++[Value.agg (dJ i).toArray]++[]).toArray w [] (fun u _=>u=.bool (!i.may)):=by
 refine enter Tryz.func102 ?_
 refine run ?_
 intro B
 refine ax (fun wc hG=>Zt i wc) ?_
 refine run ?_
 exact fin1 rfl
theorem kP {w:World} (es:List bg) (ds:List dB) (v u:Value) (h:aB w v 14 (es.map bI)) (hd:aB w u 4 (ds.map dJ)) (hcap:∃ q c,v=.slice q es.length c∧es.length≤c):
  Fn Tryz.prog 64 [.agg #[v,u]].toArray w [] (fun r _=>r=.int .i64 (bif bK es ds then 0 else 1)):=by
 obtain ⟨q,cap,rfl,hne,hle⟩:=h.opened
 obtain ⟨q2,cap2,rfl,hne2,hle2⟩:=hd.opened
 replace hcap:es.length≤cap:=by
  obtain ⟨_,_,e,hc⟩:=hcap
  injection e with _ _ e
  rw [e];exact hc
 refine enter Tryz.func64 ?_
 refine run ?_
 intro B
 refine az ?_
 refine aj _ rfl (fun hc=>?_) (fun hc=>?_)
 ·refine run ?_
  refine fin1 ?_
  have:bK es ds=false:=by
   unfold bK
   simp only [Bool.or_eq_true,decide_eq_true_eq] at hc
   have h2:(decide (es.length≤8) && decide (ds.length≤8))=false:=by
    rcases hc with hc | hc
    ·rw [decide_eq_false (p:=es.length≤8) au',Bool.false_and]
    ·rw [decide_eq_false (p:=ds.length≤8) au',Bool.and_false]
   rw [Bool.and_assoc,h2,Bool.and_false]
  rw [this];rfl
 have h8:es.length≤8∧ds.length≤8:=by
  simp at hc;omega
 refine run ?_
 refine cO (σ:=Nat) (fun k=>[(18,.int .i64 (k:Int))]) (fun _=>[⟨B,#[.slice q es.length cap,.slice q2 ds.length cap2],77⟩]) (fun k=>k≤es.length∧∀ j,j<k→xU es j=true) (fun k=>es.length - k) 0 ⟨Nat.zero_le _,fun j hj=>absurd hj au'⟩ ?_
 rintro k m rfl ⟨hk,hno⟩
 refine run ?_
 refine aj _ rfl (fun hc=>?_) (fun hc=>?_)
 ·have hlt:k<es.length:=by simpa using hc
  obtain ⟨b,o,rfl⟩:=hne av5
  have hr:=h.row hlt
  refine run ?_
  intro X
  refine run ?_
  refine eU ?_
  refine cu ?_
  refine jY (fun wc hG=>KN (es.getD k default) wc) ?_
  refine iU ?_
  refine MC (v:=.slice (some ⟨b,o,none⟩) k cap) (hy:=fun hg=>xH ay aw3 aw3 av2 au' au' (m':=k) av4 (.inr ⟨_,_,rfl⟩)) (h:=?_)
  refine iU ?_
  refine kS (fun hg wc hG=>yc (es.getD k default) (es.take k) _ ((h.good hG).takeN au')) ?_
  refine iU ?_
  refine run ?_
  have he:(!(es.getD k default).may || (es.take k).any fun t=>decide (t=es.getD k default))=!xU es k:=by
   unfold xU
   rw [Bool.not_and,Bool.not_not]
  rw [he]
  refine aj _ rfl (fun hp=>?_) (fun hp=>?_)
  ·refine run ?_
   refine fin1 ?_
   rw [KF hlt (by simpa using hp)];rfl
  ·refine run ?_
   refine bH (k + 1) ⟨hlt,fun j hj=>?_⟩
   rcases Nat.lt_succ_iff_lt_or_eq.1 hj with hj | rfl
   ·exact hno j hj
   ·simpa using hp
 ·have hge:k=es.length:=by simp at hc;omega
  subst hge
  refine run ?_
  refine ax (fun wc hG=>qj (us:=[]) (fun x=>!x.may) ds _ (hd.good hG) (fun x _ w' ha=>QJ x w')) ?_
  refine run ?_
  have he:(ds.any fun x=>!x.may)=!ds.all dB.may:=by rw [List.not_all_eq_any_not]
  rw [he]
  refine aj _ rfl (fun hp=>?_) (fun hp=>?_)
  ·refine run ?_
   refine fin1 ?_
   have:bK es ds=false:=by
    unfold bK
    rw [show ds.all dB.may=false by simpa using hp];simp
   rw [this];rfl
  ·refine run ?_
   refine fin1 ?_
   have:bK es ds=true:=by
    unfold bK
    rw [xW hno,show ds.all dB.may=true by simpa using hp,decide_eq_true h8.1,decide_eq_true h8.2];rfl
   rw [this];rfl
end
def bg.stage (e:bg):Bool:=decide (e.kind=1) || decide (e.kind=3)
def dB.at_ (i:dB) (e:bg):Bool:=decide (e.page=bif decide (e.kind=3) then ((kL (e.level.toNat - 1) i.page.toNat:Nat):Int) else i.page)
def dB.takes (i:dB) (e:bg):Bool:=
 bif decide (i.kind=1) then true else bif !decide (i.jm=e.jm) then false
 else bif decide (i.kind=2) then true
 else bif decide (i.kind=3) then e.stage
 else bif decide (i.kind=4) then e.stage && !e.all && decide (e.ku=i.ku)
 else bif decide (i.kind=5) then e.stage && i.at_ e && (e.all || decide (e.ku=i.ku))
 else decide (e.kind=2) && i.at_ e
theorem Nu (i:dB):bK [] [i]=i.may:=by simp [bK]
theorem kC {xs:List bg}:∀ c∈xs.map bI,c.length=14∧c.all (·.oneCell')=true:=by
 intro c hc
 obtain ⟨x,_,rfl⟩:=List.mem_map.1 hc
 exact ⟨rfl,rfl⟩
theorem yX {xs:List dB}:∀ c∈xs.map dJ,c.length=4∧c.all (·.oneCell')=true:=by
 intro c hc
 obtain ⟨x,_,rfl⟩:=List.mem_map.1 hc
 exact ⟨rfl,rfl⟩
section
attribute [local irreducible] Hy St Ops DH gB iH iq fK DS fA
theorem XB (i:dB) (w:World):Fn Tryz.prog 171 ([]++[Value.agg (dJ i).toArray]++[]).toArray w [] (fun u _=>u=.bool (!i.may)):=by
 refine enter Tryz.func171 ?_
 refine run ?_
 intro B Z
 refine run ?_
 refine ax (fun wc hG=>kP [] [i] (.slice none 0 0) (.slice (some ⟨Z,0,none⟩) 1 1) ((Own.nil 114 14).lie (fun b hb=>by cases hb) av1) (dL (xs:=[dJ i]) (hG.here ⟨Z,(dJ i).toArray,121⟩ mh) av4 av4) ⟨_,_,rfl,Nat.le_refl _⟩) ?_
 refine run ?_
 refine fin1 ?_
 rw [Nu]
 cases i.may<;>rfl
theorem QK (ds:List dB) {w:World} {v:Value} (h:aB w v 4 (ds.map dJ)):Fn Tryz.prog 145 [v].toArray w [] (fun u _=>u=.bool (ds.all dB.may)):=by
 refine enter Tryz.func145 ?_
 refine run ?_
 refine ax (fun wc hG=>qj (us:=[]) (fun x=>!x.may) ds _ (h.good hG) (fun x _ w' ha=>XB x w')) ?_
 refine run ?_
 refine fin1 ?_
 rw [← List.not_all_eq_any_not,Bool.not_not]
theorem ET (e:bg) (w:World):Fn Tryz.prog 203 [.agg (bI e).toArray].toArray w [] (fun u _=>u=.bool e.stage):=by
 refine enter Tryz.func203 ?_
 refine run ?_
 intro B
 refine az ?_
 refine fin1 ?_
 rfl
theorem KO (i:dB) (e:bg) (hi:i.may=true) (he:e.may=true) (w:World):Fn Tryz.prog 204 [.agg (dJ i).toArray,.agg (bI e).toArray].toArray w [] (fun u _=>u=.bool (i.at_ e)):=by
 refine enter Tryz.func204 ?_
 refine run ?_
 intro B C
 refine run ?_
 refine aj _ rfl (fun hk=>?_) (fun hk=>?_)
 ·have hk3:e.kind=3:=by simpa using hk
  have hl:1≤e.level∧e.level≤3:=by
   simp [bg.may,hk3,PtD.bY] at he
   exact he.2.1.1.1
  have hp:0≤i.page∧i.page≤4095:=by
   simp only [dB.may,PtD.bY,Bool.and_eq_true,decide_eq_true_eq] at hi
   exact hi.2
  obtain ⟨lv,hlv⟩:∃ lv:Nat,e.level=(lv:Int):=⟨e.level.toNat,by omega⟩
  obtain ⟨pg,hpg⟩:∃ pg:Nat,i.page=(pg:Int):=⟨i.page.toNat,by omega⟩
  have h9:=jc (show lv - 1<4 by omega)
  have hc:=Hg (lv - 1) au' pg au'
  have e3:∀ l:Nat,l<4→1≤l→(1 <<< (3 * (4 - l)):Nat)=aP (l - 1):=by decide
  refine run ?_
  rw [hlv,hpg]
  refine eH av2 (yP rfl rfl 1 (3 * (4 - lv)) av2 au' au' (by rw [e3 lv au' au'];exact Nat.lt_of_le_of_lt h9.2.1 av1)) ?_
  rw [e3 lv au' au']
  refine run ?_
  refine eH av2 (Dt rfl rfl) ?_
  rw [hc]
  refine run ?_
  refine fin1 ?_
  simp [dB.at_,hk3,hlv,hpg]
 ·refine run ?_
  refine fin1 ?_
  have hk3:decide (e.kind=3)=false:=by simpa using hk
  simp [dB.at_,hk3]
theorem UA (i:dB) (e:bg) (hi:i.may=true) (he:e.may=true) (w:World):Fn Tryz.prog 175 [.agg (dJ i).toArray,.agg (bI e).toArray].toArray w [] (fun u _=>u=.bool (i.takes e)):=by
 refine enter Tryz.func175 ?_
 refine run ?_
 intro B C
 refine run ?_
 refine aj _ rfl (fun h1=>?_) (fun h1=>?_)
 ·refine run ?_
  refine fin1 ?_
  simp [dB.takes,h1]
 refine run ?_
 refine aj _ rfl (fun hv=>?_) (fun hv=>?_)
 ·refine run ?_
  refine fin1 ?_
  simp [dB.takes,h1,hv]
 have hv':decide (i.jm=e.jm)=true:=by simpa using hv
 have h1':decide (i.kind=1)=false:=by simpa using h1
 refine run ?_
 refine aj _ rfl (fun h2=>?_) (fun h2=>?_)
 ·refine run ?_
  refine fin1 ?_
  simp [dB.takes,h1',hv',h2]
 have h2':decide (i.kind=2)=false:=by simpa using h2
 refine run ?_
 refine aj _ rfl (fun h3=>?_) (fun h3=>?_)
 ·refine run ?_
  refine ax (fun wc hG=>ET e wc) ?_
  refine run ?_
  refine fin1 ?_
  simp [dB.takes,h1',hv',h2',h3]
 have h3':decide (i.kind=3)=false:=by simpa using h3
 refine run ?_
 refine aj _ rfl (fun h4=>?_) (fun h4=>?_)
 ·refine run ?_
  refine ax (fun wc hG=>ET e wc) ?_
  refine az ?_
  refine fin1 ?_
  simp [dB.takes,h1',hv',h2',h3',h4]
 have h4':decide (i.kind=4)=false:=by simpa using h4
 refine run ?_
 refine aj _ rfl (fun h5=>?_) (fun h5=>?_)
 ·refine run ?_
  refine ax (fun wc hG=>ET e wc) ?_
  refine az ?_
  refine aZ (fun _ wc hG=>KO i e hi he wc) ?_
  refine az ?_
  refine fin1 ?_
  simp [dB.takes,h1',hv',h2',h3',h4',h5]
 have h5':decide (i.kind=5)=false:=by simpa using h5
 refine az ?_
 refine aZ (fun _ wc hG=>KO i e hi he wc) ?_
 refine az ?_
 refine fin1 ?_
 simp [dB.takes,h1',hv',h2',h3',h4',h5']
theorem oL {w:World} (es:List bg) (ds:List dB) (v u:Value) (h:aB w v 14 (es.map bI)) (hd:aB w u 4 (ds.map dJ)) (hl:es.length<1000000) (hl2:ds.length<1000000):
  Fn Tryz.prog 39 [.agg #[v,u]].toArray w [] (fun r hn=>∃ v1 h1 v2 h2,r=.agg #[v1,v2]∧Own 114 14 v1 h1 (es.map bI)∧Own 121 4 v2 h2 (ds.map dJ)∧aF (h1++h2) hn):=by
 refine enter Tryz.func39 ?_
 refine run ?_
 intro B
 refine run ?_
 intro C
 refine run ?_
 refine oV 8 7 [0,1,3,4] [2,5] [6,7] [⟨B,#[v,u],77⟩] ?_
 refine dh ?_
 refine iW (fun wc hG=>uO v (es.map bI) (h.good hG) kC (by simpa using hl)) (uO v (es.map bI) h kC (by simpa using hl)).some ?_
 refine iW (fun wc hG=>vT u (ds.map dJ) (hd.good hG) yX (by simpa using hl2)) (vT u (ds.map dJ) hd yX (by simpa using hl2)).some ?_
 refine gZ ?_
 intro v2 hn2 hO2 v1 hn1 sO
 simp only [DN,List.cons_append,List.nil_append,List.append_nil]
 obtain ⟨p1,c1,rfl⟩:=sO.opened
 obtain ⟨p2,c2,rfl⟩:=hO2.opened
 rw [List.length_map] at sO hO2 ⊢
 rw [List.length_map]
 refine Ew ?_
 refine qg (b:=C) (cs:=#[.slice none 0 0,.slice none 0 0]) (tb:=77) (hp':=hn2++hn1++[⟨B,#[v,u],77⟩]) (hperm:=(List.perm_middle (l₁:=hn2++hn1)).symm) ?_
 refine aH ?_
 refine di ?_
 refine run ?_
 refine gK (cs:=#[.slice p1 es.length c1,.slice p2 ds.length c2]) ?_
 exact ⟨_,hn1,_,hn2,rfl,sO,hO2,by (exact ak)⟩
end
structure dP (w:World) (mu:List Nat) (v:Value) (sz:Nat) (xs:List (List Value)):Prop where
 at_:aB w v sz xs
 off:∀ (i:Nat) (c:List Value),xs[i]?=some c→c ≠ []→∀ b o n k,v=.slice (some ⟨b,o,none⟩) n k→b ∉ mu
theorem dP.old {w:World} {v:Value} {sz:Nat} {xs:List (List Value)} (h:aB w v sz xs):dP w [] v sz xs:=⟨h,fun _ _ _ _ _ _ _ _ _=>by simp⟩
theorem dP.good {w w':World} {mu:List Nat} {hp:Hp} {v:Value} {sz:Nat} {xs:List (List Value)} (h:dP w mu v sz xs) (hG:Good w mu hp w'):aB w' v sz xs:=by
 obtain ⟨⟨⟨p,c,rfl,hp⟩,hl⟩,ho⟩:=h
 refine ⟨⟨p,c,rfl,fun hne=>?_⟩,hl⟩
 obtain ⟨b,off,rfl,hr⟩:=hp hne
 refine ⟨b,off,rfl,fun i c hc j u hj=>?_⟩
 exact hG.cell (hr i c hc j u hj) (ho i c hc (by intro e;subst e;simp at hj) _ _ _ _ rfl)
theorem dP.next {w w':World} {mu mu':List Nat} {hp:Hp} {v:Value} {sz:Nat} {xs:List (List Value)} (h:dP w mu v sz xs) (hG:Good w mu hp w') (hs:∀ b∈mu',∃ e∈hp,e.b=b):dP w' mu' v sz xs:=by
 refine ⟨h.good hG,fun i c hc hcn b o n k e hm=>?_⟩
 subst e
 have hnm:=h.off i c hc hcn b o n k rfl
 obtain ⟨⟨p,c',e,hp'⟩,hl⟩:=h.at_
 injection e with e1 _ e3
 subst e1
 obtain ⟨b',off',e,hr⟩:=hp' (by intro e;subst e;simp at hc)
 injection e with e
 injection e with e1 e2 _
 subst e1 e2
 obtain ⟨x,hx,rfl⟩:=hs b hm
 rcases hG.own x hx with h5 | h5
 ·exact hnm h5
 ·match c,hcn with
  | u::r,_=>
   have h3:=hr i (u::r) hc 0 u rfl
   have h9:x.b<w.heap.size:=block_lt_of_cell h3
   omega
section
attribute [local irreducible] Hy St Ops DH gB iH iq fK DS fA
abbrev Sl (c:kW) (mv ev dv rv:Value):Array Value:=#[mv,ev,dv,.bool c.one.on,.int .i64 c.one.frame,.int .i64 c.one.tag,.bool c.two.on,.int .i64 c.two.frame,.int .i64 c.two.tag,.int .i64 c.pk.cpu,.bool c.pk.fill,.bool c.pk.aO,.bool c.pk.walk,.int .i64 c.pk.drop,.bool c.pk.use,rv]
theorem JB {fn:Func} {R:Value→Hp→Prop} {l:Fm} {hp:Hp} {s0 a t b a2 t2 b2:Nat} {cs cs2:Array Value} {tb tb2:TypeId} {v:Value} (h:R (.tuple #[v,.agg cs,.agg cs2]) hp) (hr:fn.results=#[.tmp s0,.cell a t,.cell a2 t2]:=by rfl) (h0:look l s0=some v:=by rfl) (hv:look l a=some (.pointer (some ⟨b,0,none⟩)):=by rfl) (hw:look l a2=some (.pointer (some ⟨b2,0,none⟩)):=by rfl) (hag:mem Tb.ag t=true:=by rfl) (hm:(⟨b,cs,tb⟩:aI)∈hp:=by (first | (with_reducible apply mh) | (focus ((repeat (first | (with_reducible apply mh) | (with_reducible apply mt) | (with_reducible apply List.mem_append_right)));done)))) (hz:lk Tb.sz t=some cs.size:=by rfl) (wF:mem Tb.ag t2=true:=by rfl) (hm2:(⟨b2,cs2,tb2⟩:aI)∈hp:=by (first | (with_reducible apply mh) | (focus ((repeat (first | (with_reducible apply mh) | (with_reducible apply mt) | (with_reducible apply List.mem_append_right)));done)))) (hz2:lk Tb.sz t2=some cs2.size:=by rfl):Fin Tryz.prog fn R .ret l hp:=
 ⟨.inl rfl,[v,.agg cs,.agg cs2],by rw [hr];exact ⟨h0,⟨⟨b,cs,tb⟩,hm,hv,.inr ⟨ay.zH hag,ay.tH hz,rfl⟩⟩,⟨⟨b2,cs2,tb2⟩,hm2,hw,.inr ⟨ay.zH wF,ay.tH hz2,rfl⟩⟩,trivial⟩,h⟩
theorem KP {α:Type} {P:α→Prop} {c:Bool} {a b:α} (ha:P a) (hb:P b):P (bif c then a else b):=by cases c<;>assumption
theorem XC {ws:List Nat} {stage:Int} {page:Nat}:∀ (k level:Nat) (f:Int) (rd:List Int),(G6 ws stage page k level f rd).rd.length≤rd.length + k:=by
 intro k
 induction k with
 | zero=>intro level f rd;exact Nat.le_refl _
 | succ k ih=>
  intro level f rd
  rw [G6]
  refine KP (P:=fun x:Og=>x.rd.length≤rd.length + (k + 1)) (KP (P:=fun x:Og=>x.rd.length≤rd.length + (k + 1)) ?_ ?_) (by simp only;omega)
  ·have:=ih (level + 1) (Cc ws stage (sK f level page) level).frame (rd++[f])
   simp only [List.length_append,List.length_singleton] at this
   omega
  ·unfold rU
   refine KP (P:=fun x:Og=>x.rd.length≤rd.length + (k + 1)) ay1 (KP (P:=fun x:Og=>x.rd.length≤rd.length + (k + 1)) ay1 ay1)
theorem EU (ws:List Nat) (frame:Int) (mid:Nat) (acc:Int):(jo ws true frame mid acc).rd.length≤4:=by
 have h:=XC (ws:=ws) (stage:=2) (page:=mid) 4 0 frame []
 simp only [jo,Bool.not_true,cond_false,Jw]
 cases (!decide ((vG (jA ws 2 frame mid) mid acc).kind=0))<;>exact h
theorem KQ {l c:List Value} {o n j:Nat} {v:Value} (h:(l.drop o).take n=c) (hv:nth c j=some v):nth l (o + j)=some v:=by
 rw [pX] at hv ⊢
 subst h
 simp only [List.getElem?_toArray] at hv ⊢
 rw [List.getElem?_take] at hv
 split at hv
 ·rwa [List.getElem?_drop] at hv
 ·cases hv
theorem UB {l c:List Value} {o n j m:Nat} (h:(l.drop o).take n=c) (hm:j + m≤n):(l.drop (o + j)).take m=(c.drop j).take m:=by
 subst h
 rw [List.drop_take,List.take_take,List.drop_drop,Nat.min_eq_left au']
theorem KR {α:Type} [Inhabited α] (p:α→Bool) (l:List α):-1≤fM p l∧fM p l<(l.length:Int):=by
 have h:=G7 p l
 cases ha:l.any p with
 | false=>
  have:fM p l=-1:=fO fun j hj=>by
   rw [List.any_eq_false] at ha
   have:=ha _ (getD_mem hj)
   simpa using this
  rw [this];omega
 | true=>
  obtain ⟨x,hx,hp⟩:=List.any_eq_true.1 ha
  obtain ⟨j,hj,rfl⟩:=List.getElem_of_mem hx
  have hjp:p (l.getD j default)=true:=by rw [List.getD_eq_getElem?_getD,List.getElem?_eq_getElem hj];exact hp
  obtain ⟨j0,h0,h1,h2⟩:=oK p l j hjp
  rw [iM (k:=j0) au' h1 h2]
  omega
theorem Nv {e:bg} (h:e.may=true):e.soft=0:=by
 simp only [bg.may,bg.nums,Bool.and_eq_true,decide_eq_true_eq] at h
 exact h.1.2
theorem Du (r w x af ng:Bool) (soft:Int) (W:World):Fn Tryz.prog 183 [.agg #[.bool r,.bool w,.bool x,.bool af,.bool ng,.int .i64 soft]].toArray W [] (fun u _=>u=.agg #[.bool r,.bool w,.bool x,.bool af,.bool ng,.int .i64 0]):=by
 refine enter Tryz.func183 ?_
 refine run ?_
 intro B C
 exact gK (cs:=#[.bool r,.bool w,.bool x,.bool af,.bool ng,.int .i64 0]) rfl
theorem Bh (c:kW) (hw:tu c.ws) (hn:dQ c.ws.length=true) (hon:c.two.on=true) (hfr:0≤c.two.frame) {w:World} {Wb:Nat} {mv ev dv rv:Value} {he hd hr:Hp} (s:qx) (ds:List dB) (mid:Nat) (hmid:mid≤4095) (acc:Int) (hE:gU c.ws.length s.es ds) (hrl:s.rd.length<100000)
  (hm:dP w (Wb::(he++hd++hr).map (·.b)) mv 1 (c.ws.map uV)) (h1:Own 114 14 ev he (s.es.map bI)) (h2:Own 121 4 dv hd (ds.map dJ)) (h3:Own 3 1 rv hr (s.rd.map dH)) (hN:eP (⟨Wb,Sl c mv ev dv rv,215⟩::(he++hd++hr)) w):
  Fn Tryz.prog 153 [.pointer (some ⟨Wb,0,none⟩),.int .i64 (mid:Int),.int .i64 acc].toArray w (Wb::(he++hd++hr).map (·.b)) (fun u hn=>∃ ev' rZ rv' he' hd' hr',u=.tuple #[.int .i64 (dV c s mid acc).n,.agg (Zl (dV c s mid acc).a).toArray,xZ (dV c s mid acc).f]∧Own 114 14 ev' he' ((dV c s mid acc).s.es.map bI)∧Own 121 4 rZ hd' (ds.map dJ)∧Own 3 1 rv' hr' ((dV c s mid acc).s.rd.map dH)∧aF (⟨Wb,Sl c mv ev' rZ rv',215⟩::(he'++hd'++hr')) hn):=by
 have hm':=hm
 obtain ⟨qm,cm,rfl,_,_⟩:=hm.at_.opened
 obtain ⟨qe,ce,ee⟩:=h1.opened
 obtain ⟨qd,cd,ed⟩:=h2.opened
 obtain ⟨qr,cr,er⟩:=h3.opened
 rw [List.length_map] at ee ed er
 subst ee ed er
 simp only [Sl] at hN ⊢
 have BV:=bD hn
 have hem:=hE.may
 refine eF _ hN Tryz.func153 ?_
 refine run ?_
 intro R1 R2
 refine dX (σ:=Unit) (fun _=>[]) (fun _=>⟨R2,#[.int .i64 0,.int .i64 0,.int .i64 0,.bool false,.int .i64 0],43⟩::⟨R1,#[.bool false,.bool false,.bool false,.bool false,.bool false,.int .i64 0],112⟩::⟨Wb,#[.slice qm c.ws.length cm,.slice qe s.es.length ce,.slice qd ds.length cd,.bool c.one.on,.int .i64 c.one.frame,.int .i64 c.one.tag,.bool c.two.on,.int .i64 c.two.frame,.int .i64 c.two.tag,.int .i64 c.pk.cpu,.bool c.pk.fill,.bool c.pk.aO,.bool c.pk.walk,.int .i64 c.pk.drop,.bool c.pk.use,.slice qr s.rd.length cr],215⟩::(he++hd++hr)) (fun _=>(c.pk.use && decide (0≤nN c s mid acc))=false) ?_ ?_
 ·refine aj _ rfl (fun hc=>?_) (fun hc=>?_)
  ·refine run ?_
   refine iV 12 ?_
   refine cu ?_
   refine jY (fun wc hG=>Xq s.es c.two.tag (mid:Int) acc _ _ (h1.lie (fun b hb=>hG.here b aw9) av3) ⟨_,_,_,rfl⟩) ?_
   refine cu ?_
   refine run ?_
   refine aj _ rfl (fun hc2=>?_) (fun hc2=>?_)
   ·have h0:0≤nN c s mid acc:=by simp only [nN];simpa using hc2
    have hlt:(nN c s mid acc).toNat<s.es.length:=by
     have:=(KR (rV c.two.tag mid acc) s.es).2
     simp only [nN] at h0 ⊢;omega
    have hso:=Nv (hem.1 _ (getD_mem hlt))
    obtain ⟨g,cg,cur,eg,rfl,hrow⟩:=h1.row (n:=s.es.length) (by rw [List.length_map]) au'
    injection eg with eq1 _ eq3
    subst eq1 eq3
    have XD:dV c s mid acc=⟨s,(s.es.getD (nN c s mid acc).toNat default).frame,Zm (s.es.getD (nN c s mid acc).toNat default),jQ⟩:=by simp only [dV,hc,h0,decide_true,Bool.and_self,cond_true]
    have hcut:(cur.toList.drop ((nN c s mid acc).toNat * 14)).take 14=bI (s.es.getD (nN c s mid acc).toNat default):=hrow.cut (fun c hc=>(kC c hc).1) (by rw [List.getElem?_map,List.getElem?_eq_getElem hlt,List.getD_eq_getElem?_getD,List.getElem?_eq_getElem hlt];rfl)
    rw [show fM (rV c.two.tag mid acc) s.es=nN c s mid acc from rfl]
    rw [XD]
    dsimp only
    generalize s.es.getD (nN c s mid acc).toNat default=e at hcut hso ⊢
    generalize nN c s mid acc=z at h0 hlt hcut ⊢
    have hf6:nth cur.toList (z.toNat * 14 + 6)=some (.int .i64 e.frame):=KQ hcut rfl
    have hf8:(cur.toList.drop (z.toNat * 14 + 8)).take 6=Zl (Zm e):=by
     rw [UB hcut av1]
     show ([.bool e.r,.bool e.w,.bool e.x,.bool e.af,.bool e.ng,.int .i64 e.soft]:List Value)=_
     rw [hso];rfl
    simp only [Zl,Zm] at hf8 ⊢
    simp only [List.cons_append,List.nil_append]
    refine run ?_
    refine iw 6 ?_
    refine dN 22 20 [0,1,2,3,4,5,6,7,8,9,10,11,12,13,14,15,16,17,18,19] [20,21] (⟨Wb,#[.slice qm c.ws.length cm,.slice (some ⟨g,0,none⟩) s.es.length ce,.slice qd ds.length cd,.bool c.one.on,.int .i64 c.one.frame,.int .i64 c.one.tag,.bool c.two.on,.int .i64 c.two.frame,.int .i64 c.two.tag,.int .i64 c.pk.cpu,.bool c.pk.fill,.bool c.pk.aO,.bool c.pk.walk,.int .i64 c.pk.drop,.bool c.pk.use,.slice qr s.rd.length cr],215⟩::(⟨g,cur,114⟩::(hd++hr))) ?_
    refine dh ?_
    refine aV (b:=R1) (tb:=112) (cs:=#[.bool false,.bool false,.bool false,.bool false,.bool false,.int .i64 0]) (cs':=#[.bool e.r,.bool e.w,.bool e.x,.bool e.af,.bool e.ng,.int .i64 0]) (hp':=⟨R2,#[.int .i64 0,.int .i64 0,.int .i64 0,.bool false,.int .i64 0],43⟩::⟨Wb,#[.slice qm c.ws.length cm,.slice (some ⟨g,0,none⟩) s.es.length ce,.slice qd ds.length cd,.bool c.one.on,.int .i64 c.one.frame,.int .i64 c.one.tag,.bool c.two.on,.int .i64 c.two.frame,.int .i64 c.two.tag,.int .i64 c.pk.cpu,.bool c.pk.fill,.bool c.pk.aO,.bool c.pk.walk,.int .i64 c.pk.drop,.bool c.pk.use,.slice qr s.rd.length cr],215⟩::(⟨g,cur,114⟩::(hd++hr))) ?_ au
    refine aV (b:=R2) (tb:=43) (cs:=#[.int .i64 0,.int .i64 0,.int .i64 0,.bool false,.int .i64 0]) (cs':=#[.int .i64 0,.int .i64 0,.int .i64 0,.bool false,.int .i64 0]) (hp':=⟨R1,#[.bool e.r,.bool e.w,.bool e.x,.bool e.af,.bool e.ng,.int .i64 0],112⟩::⟨Wb,#[.slice qm c.ws.length cm,.slice (some ⟨g,0,none⟩) s.es.length ce,.slice qd ds.length cd,.bool c.one.on,.int .i64 c.one.frame,.int .i64 c.one.tag,.bool c.two.on,.int .i64 c.two.frame,.int .i64 c.two.tag,.int .i64 c.pk.cpu,.bool c.pk.fill,.bool c.pk.aO,.bool c.pk.walk,.int .i64 c.pk.drop,.bool c.pk.use,.slice qr s.rd.length cr],215⟩::(⟨g,cur,114⟩::(hd++hr))) ?_ au
    refine aH ?_
    refine di ?_
    refine run ?_
    exact JB (cs:=#[.bool e.r,.bool e.w,.bool e.x,.bool e.af,.bool e.ng,.int .i64 0]) (cs2:=#[.int .i64 0,.int .i64 0,.int .i64 0,.bool false,.int .i64 0]) ⟨_,_,_,[⟨g,cur,114⟩],hd,hr,rfl,h1,h2,h3,by (exact ak)⟩
   ·refine run ?_
    exact dA () (by rw [show nN c s mid acc=fM (rV c.two.tag mid acc) s.es from rfl];simp at hc2 ⊢;omega)
  ·refine run ?_
   exact dA () (by rw [hc];rfl)
 rintro ⟨⟩ hcut
 have XD:dV c s mid acc=vH c s mid (jo c.ws true c.two.frame mid acc):=by simp only [dV,hcut,cond_false]
 rw [XD]
 refine run ?_
 have hcl:=fun {wc:World} (h:aB wc (.slice qm c.ws.length cm) 1 (c.ws.map uV))=>Xo c.ws hw h au' c.two.on c.two.frame c.two.tag hfr mid hmid acc
 rw [hon] at hcl
 refine iR 17 [0,1,2,3,4,5,6,7,8,9] [10,15,16] [11,12,13,14] [19] [17,18] ?_
 refine fB ?_
 rw [hon]
 refine iW (fun wc hG=>hcl (hm'.good hG)) (hcl hm'.at_).some ?_
 refine dR ?_
 refine dR ?_
 refine gZ ?_
 rintro _ _ ⟨F,rfl,rfl⟩ _ _ ⟨H,rfl,rfl⟩ u hn2 ⟨v2,h2',rfl,hO,hle2⟩
 have hL4:=EU c.ws c.two.frame mid acc
 have QL:=EO (ws:=c.ws) (frame:=c.two.frame) (mid:=mid) (acc:=acc)
 generalize jo c.ws true c.two.frame mid acc=L at hO hL4 QL ⊢
 obtain ⟨q2,c2,e2⟩:=hO.opened
 rw [List.length_map] at e2
 subst e2
 refine ni ?_
 refine aS ?_
 refine aS ?_
 refine aS ?_
 refine fC ?_
 refine iE ?_
 refine fC ?_
 simp only [DN,List.cons_append,List.nil_append,List.append_nil]
 refine aV (b:=H) (tb:=234) (cs:=#[.int .i64 0,.int .i64 0,.bool false,.bool false,.bool false,.bool false,.bool false,.int .i64 0,.int .i64 0]) (cs':=#[.int .i64 L.h.frame,.int .i64 L.h.mid,.bool L.h.r,.bool L.h.w,.bool L.h.x,.bool L.h.af,.bool L.h.ng,.int .i64 L.h.soft,.int .i64 L.h.level]) (hp':=⟨F,#[.int .i64 0,.int .i64 0,.int .i64 0,.bool false,.int .i64 0],43⟩::(hn2++(⟨R2,#[.int .i64 0,.int .i64 0,.int .i64 0,.bool false,.int .i64 0],43⟩::⟨R1,#[.bool false,.bool false,.bool false,.bool false,.bool false,.int .i64 0],112⟩::⟨Wb,#[.slice qm c.ws.length cm,.slice qe s.es.length ce,.slice qd ds.length cd,.bool c.one.on,.int .i64 c.one.frame,.int .i64 c.one.tag,.bool true,.int .i64 c.two.frame,.int .i64 c.two.tag,.int .i64 c.pk.cpu,.bool c.pk.fill,.bool c.pk.aO,.bool c.pk.walk,.int .i64 c.pk.drop,.bool c.pk.use,.slice qr s.rd.length cr],215⟩::(he++hd++hr)))) ?_ au
 refine aV (b:=F) (tb:=43) (cs:=#[.int .i64 0,.int .i64 0,.int .i64 0,.bool false,.int .i64 0]) (cs':=#[.int .i64 L.f.kind,.int .i64 L.f.stage,.int .i64 L.f.level,.bool L.f.walk,.int .i64 L.f.page]) (hp':=⟨H,#[.int .i64 L.h.frame,.int .i64 L.h.mid,.bool L.h.r,.bool L.h.w,.bool L.h.x,.bool L.h.af,.bool L.h.ng,.int .i64 L.h.soft,.int .i64 L.h.level],234⟩::(hn2++(⟨R2,#[.int .i64 0,.int .i64 0,.int .i64 0,.bool false,.int .i64 0],43⟩::⟨R1,#[.bool false,.bool false,.bool false,.bool false,.bool false,.int .i64 0],112⟩::⟨Wb,#[.slice qm c.ws.length cm,.slice qe s.es.length ce,.slice qd ds.length cd,.bool c.one.on,.int .i64 c.one.frame,.int .i64 c.one.tag,.bool true,.int .i64 c.two.frame,.int .i64 c.two.tag,.int .i64 c.pk.cpu,.bool c.pk.fill,.bool c.pk.aO,.bool c.pk.walk,.int .i64 c.pk.drop,.bool c.pk.use,.slice qr s.rd.length cr],215⟩::(he++hd++hr)))) ?_ au
 refine aH ?_
 refine di ?_
 refine aJ (⟨F,#[.int .i64 L.f.kind,.int .i64 L.f.stage,.int .i64 L.f.level,.bool L.f.walk,.int .i64 L.f.page],43⟩::⟨H,#[.int .i64 L.h.frame,.int .i64 L.h.mid,.bool L.h.r,.bool L.h.w,.bool L.h.x,.bool L.h.af,.bool L.h.ng,.int .i64 L.h.soft,.int .i64 L.h.level],234⟩::⟨R2,#[.int .i64 0,.int .i64 0,.int .i64 0,.bool false,.int .i64 0],43⟩::⟨R1,#[.bool false,.bool false,.bool false,.bool false,.bool false,.int .i64 0],112⟩::⟨Wb,#[.slice qm c.ws.length cm,.slice qe s.es.length ce,.slice qd ds.length cd,.bool c.one.on,.int .i64 c.one.frame,.int .i64 c.one.tag,.bool true,.int .i64 c.two.frame,.int .i64 c.two.tag,.int .i64 c.pk.cpu,.bool c.pk.fill,.bool c.pk.aO,.bool c.pk.walk,.int .i64 c.pk.drop,.bool c.pk.use,.slice qr s.rd.length cr],215⟩::(he++hd++hr++h2')) (cnt1 hle2) ?_
 refine run ?_
 refine pM (L.rd.map dH) (⟨F,#[.int .i64 L.f.kind,.int .i64 L.f.stage,.int .i64 L.f.level,.bool L.f.walk,.int .i64 L.f.page],43⟩::⟨H,#[.int .i64 L.h.frame,.int .i64 L.h.mid,.bool L.h.r,.bool L.h.w,.bool L.h.x,.bool L.h.af,.bool L.h.ng,.int .i64 L.h.soft,.int .i64 L.h.level],234⟩::⟨R2,#[.int .i64 0,.int .i64 0,.int .i64 0,.bool false,.int .i64 0],43⟩::⟨R1,#[.bool false,.bool false,.bool false,.bool false,.bool false,.int .i64 0],112⟩::⟨Wb,#[.slice qm c.ws.length cm,.slice qe s.es.length ce,.slice qd ds.length cd,.bool c.one.on,.int .i64 c.one.frame,.int .i64 c.one.tag,.bool true,.int .i64 c.two.frame,.int .i64 c.two.tag,.int .i64 c.pk.cpu,.bool c.pk.fill,.bool c.pk.aO,.bool c.pk.walk,.int .i64 c.pk.drop,.bool c.pk.use,.slice qr s.rd.length cr],215⟩::(he++hd++h2')) h3 (uH.own hO ak) (fun v4 h4 hO4=>?_) (by simp only [List.length_map];omega) (fun c hc=>by obtain ⟨x,_,rfl⟩:=List.mem_map.1 hc;exact ⟨rfl,rfl⟩) (hperm:=by (exact au))
 rw [← List.map_append] at hO4
 obtain ⟨q4,c4,e4⟩:=hO4.opened
 rw [List.length_map] at e4
 subst e4
 refine aJ (⟨Wb,#[.slice qm c.ws.length cm,.slice qe s.es.length ce,.slice qd ds.length cd,.bool c.one.on,.int .i64 c.one.frame,.int .i64 c.one.tag,.bool true,.int .i64 c.two.frame,.int .i64 c.two.tag,.int .i64 c.pk.cpu,.bool c.pk.fill,.bool c.pk.aO,.bool c.pk.walk,.int .i64 c.pk.drop,.bool c.pk.use,.slice qr s.rd.length cr],215⟩::⟨F,#[.int .i64 L.f.kind,.int .i64 L.f.stage,.int .i64 L.f.level,.bool L.f.walk,.int .i64 L.f.page],43⟩::⟨H,#[.int .i64 L.h.frame,.int .i64 L.h.mid,.bool L.h.r,.bool L.h.w,.bool L.h.x,.bool L.h.af,.bool L.h.ng,.int .i64 L.h.soft,.int .i64 L.h.level],234⟩::⟨R2,#[.int .i64 0,.int .i64 0,.int .i64 0,.bool false,.int .i64 0],43⟩::⟨R1,#[.bool false,.bool false,.bool false,.bool false,.bool false,.int .i64 0],112⟩::(he++hd++h4)) ak ?_
 refine run ?_
 refine aj _ rfl (fun hc=>?_) (fun hc=>?_)
 ·have hm2:vH c s mid L=⟨⟨s.es,s.rd++L.rd⟩,0,EN,L.f⟩:=by simp only [vH,hc,cond_true]
  rw [hm2]
  refine run ?_
  refine iw 6 ?_
  refine dN 5 3 [0,1,2] [3,4] (⟨Wb,#[.slice qm c.ws.length cm,.slice qe s.es.length ce,.slice qd ds.length cd,.bool c.one.on,.int .i64 c.one.frame,.int .i64 c.one.tag,.bool true,.int .i64 c.two.frame,.int .i64 c.two.tag,.int .i64 c.pk.cpu,.bool c.pk.fill,.bool c.pk.aO,.bool c.pk.walk,.int .i64 c.pk.drop,.bool c.pk.use,.slice q4 (s.rd++L.rd).length c4],215⟩::⟨F,#[.int .i64 L.f.kind,.int .i64 L.f.stage,.int .i64 L.f.level,.bool L.f.walk,.int .i64 L.f.page],43⟩::⟨H,#[.int .i64 L.h.frame,.int .i64 L.h.mid,.bool L.h.r,.bool L.h.w,.bool L.h.x,.bool L.h.af,.bool L.h.ng,.int .i64 L.h.soft,.int .i64 L.h.level],234⟩::(he++hd++h4)) ?_
  refine dh ?_
  refine aV (b:=R1) (tb:=112) (cs:=#[.bool false,.bool false,.bool false,.bool false,.bool false,.int .i64 0]) (cs':=#[.bool false,.bool false,.bool false,.bool false,.bool false,.int .i64 0]) (hp':=⟨R2,#[.int .i64 0,.int .i64 0,.int .i64 0,.bool false,.int .i64 0],43⟩::⟨Wb,#[.slice qm c.ws.length cm,.slice qe s.es.length ce,.slice qd ds.length cd,.bool c.one.on,.int .i64 c.one.frame,.int .i64 c.one.tag,.bool true,.int .i64 c.two.frame,.int .i64 c.two.tag,.int .i64 c.pk.cpu,.bool c.pk.fill,.bool c.pk.aO,.bool c.pk.walk,.int .i64 c.pk.drop,.bool c.pk.use,.slice q4 (s.rd++L.rd).length c4],215⟩::⟨F,#[.int .i64 L.f.kind,.int .i64 L.f.stage,.int .i64 L.f.level,.bool L.f.walk,.int .i64 L.f.page],43⟩::⟨H,#[.int .i64 L.h.frame,.int .i64 L.h.mid,.bool L.h.r,.bool L.h.w,.bool L.h.x,.bool L.h.af,.bool L.h.ng,.int .i64 L.h.soft,.int .i64 L.h.level],234⟩::(he++hd++h4)) ?_ au
  refine aV (b:=R2) (tb:=43) (cs:=#[.int .i64 0,.int .i64 0,.int .i64 0,.bool false,.int .i64 0]) (cs':=#[.int .i64 L.f.kind,.int .i64 L.f.stage,.int .i64 L.f.level,.bool L.f.walk,.int .i64 L.f.page]) (hp':=⟨R1,#[.bool false,.bool false,.bool false,.bool false,.bool false,.int .i64 0],112⟩::⟨Wb,#[.slice qm c.ws.length cm,.slice qe s.es.length ce,.slice qd ds.length cd,.bool c.one.on,.int .i64 c.one.frame,.int .i64 c.one.tag,.bool true,.int .i64 c.two.frame,.int .i64 c.two.tag,.int .i64 c.pk.cpu,.bool c.pk.fill,.bool c.pk.aO,.bool c.pk.walk,.int .i64 c.pk.drop,.bool c.pk.use,.slice q4 (s.rd++L.rd).length c4],215⟩::⟨F,#[.int .i64 L.f.kind,.int .i64 L.f.stage,.int .i64 L.f.level,.bool L.f.walk,.int .i64 L.f.page],43⟩::⟨H,#[.int .i64 L.h.frame,.int .i64 L.h.mid,.bool L.h.r,.bool L.h.w,.bool L.h.x,.bool L.h.af,.bool L.h.ng,.int .i64 L.h.soft,.int .i64 L.h.level],234⟩::(he++hd++h4)) ?_ au
  refine aH ?_
  refine di ?_
  refine run ?_
  exact JB (cs:=#[.bool false,.bool false,.bool false,.bool false,.bool false,.int .i64 0]) (cs2:=#[.int .i64 L.f.kind,.int .i64 L.f.stage,.int .i64 L.f.level,.bool L.f.walk,.int .i64 L.f.page]) ⟨_,_,_,he,hd,h4,rfl,h1,h2,hO4,by (exact ak)⟩
 have hm2:vH c s mid L=⟨⟨bif c.pk.aO then fG s.es (uJ c.two.tag mid L.h) else s.es,s.rd++L.rd⟩,L.h.frame,⟨L.h.r,L.h.w,L.h.x,L.h.af,L.h.ng⟩,L.f⟩:=by simp only [vH,hc,cond_false]
 rw [hm2]
 obtain ⟨hLf,hLn,hLg⟩:=QL aA0
 refine run ?_
 refine dX (σ:=Option Addr × Nat × Hp × Option Addr × Nat × Hp) (fun _=>[]) (fun z=>⟨Wb,#[.slice qm c.ws.length cm,.slice z.1 (bif c.pk.aO then fG s.es (uJ c.two.tag mid L.h) else s.es).length z.2.1,.slice z.2.2.2.1 ds.length z.2.2.2.2.1,.bool c.one.on,.int .i64 c.one.frame,.int .i64 c.one.tag,.bool true,.int .i64 c.two.frame,.int .i64 c.two.tag,.int .i64 c.pk.cpu,.bool c.pk.fill,.bool c.pk.aO,.bool c.pk.walk,.int .i64 c.pk.drop,.bool c.pk.use,.slice q4 (s.rd++L.rd).length c4],215⟩::⟨F,#[.int .i64 L.f.kind,.int .i64 L.f.stage,.int .i64 L.f.level,.bool L.f.walk,.int .i64 L.f.page],43⟩::⟨H,#[.int .i64 L.h.frame,.int .i64 L.h.mid,.bool L.h.r,.bool L.h.w,.bool L.h.x,.bool L.h.af,.bool L.h.ng,.int .i64 L.h.soft,.int .i64 L.h.level],234⟩::⟨R2,#[.int .i64 0,.int .i64 0,.int .i64 0,.bool false,.int .i64 0],43⟩::⟨R1,#[.bool false,.bool false,.bool false,.bool false,.bool false,.int .i64 0],112⟩::(z.2.2.1++z.2.2.2.2.2++h4)) (fun z=>Own 114 14 (.slice z.1 (bif c.pk.aO then fG s.es (uJ c.two.tag mid L.h) else s.es).length z.2.1) z.2.2.1 ((bif c.pk.aO then fG s.es (uJ c.two.tag mid L.h) else s.es).map bI)∧Own 121 4 (.slice z.2.2.2.1 ds.length z.2.2.2.2.1) z.2.2.2.2.2 (ds.map dJ)) ?_ ?_
 ·refine aj _ rfl (fun hc2=>?_) (fun hc2=>?_)
  ·rw [hc2,cond_true]
   refine run ?_
   have hfl:=fun {wc:World} (ha:aB wc (.slice qe s.es.length ce) 14 (s.es.map bI)) (hb:aB wc (.slice qd ds.length cd) 4 (ds.map dJ))=>EM s.es ds (uJ c.two.tag mid L.h) _ _ ha hb au' au'
   refine iR 18 [0,1,2,3,4,5,6,7,8,9,10,11,12,13,14,15,16] [17] [] [18,19] [20] ?_
   refine fB ?_
   refine AZ (fun wc hx hG=>Du L.h.r L.h.w L.h.x L.h.af L.h.ng L.h.soft wc) ?_
   refine fB ?_
   refine iW (fun wc hG=>hfl (h1.lie (fun b hb=>hG.here b aw9) av3) (h2.lie (fun b hb=>hG.here b aw9) av3)) (hfl (h1.lie (fun b hb=>hN.here b aw9) av3) (h2.lie (fun b hb=>hN.here b aw9) av3)).some ?_
   refine gZ ?_
   rintro u5 Sm ⟨v5,h5,v6,h6,rfl,A8,EW,wH⟩
   obtain ⟨q5,c5,e5⟩:=A8.own.opened
   rw [List.length_map] at e5
   subst e5
   obtain ⟨q6,c6,e6⟩:=EW.own.opened
   rw [List.length_map] at e6
   subst e6
   refine fC ?_
   refine jU ?_
   refine rP ?_
   refine fC ?_
   simp only [DN,List.cons_append,List.nil_append,List.append_nil]
   refine aV (b:=Wb) (tb:=215) (cs:=#[.slice qm c.ws.length cm,.slice qe s.es.length ce,.slice qd ds.length cd,.bool c.one.on,.int .i64 c.one.frame,.int .i64 c.one.tag,.bool true,.int .i64 c.two.frame,.int .i64 c.two.tag,.int .i64 c.pk.cpu,.bool c.pk.fill,.bool true,.bool c.pk.walk,.int .i64 c.pk.drop,.bool c.pk.use,.slice q4 (s.rd++L.rd).length c4]) (cs':=#[.slice qm c.ws.length cm,.slice q5 (fG s.es (uJ c.two.tag mid L.h)).length c5,.slice q6 ds.length c6,.bool c.one.on,.int .i64 c.one.frame,.int .i64 c.one.tag,.bool true,.int .i64 c.two.frame,.int .i64 c.two.tag,.int .i64 c.pk.cpu,.bool c.pk.fill,.bool true,.bool c.pk.walk,.int .i64 c.pk.drop,.bool c.pk.use,.slice q4 (s.rd++L.rd).length c4]) (hp':=Sm++(⟨F,#[.int .i64 L.f.kind,.int .i64 L.f.stage,.int .i64 L.f.level,.bool L.f.walk,.int .i64 L.f.page],43⟩::⟨H,#[.int .i64 L.h.frame,.int .i64 L.h.mid,.bool L.h.r,.bool L.h.w,.bool L.h.x,.bool L.h.af,.bool L.h.ng,.int .i64 L.h.soft,.int .i64 L.h.level],234⟩::⟨R2,#[.int .i64 0,.int .i64 0,.int .i64 0,.bool false,.int .i64 0],43⟩::⟨R1,#[.bool false,.bool false,.bool false,.bool false,.bool false,.int .i64 0],112⟩::(he++hd++h4))) ?_ au
   refine aH ?_
   refine di ?_
   refine run ?_
   exact dA (q5,c5,h5,q6,c6,h6) ⟨A8.own,EW.own⟩ (h2:=by (exact cnt1 wH))
  ·rw [hc2,cond_false]
   refine run ?_
   exact dA (qe,ce,he,qd,cd,hd) ⟨h1,h2⟩ (h2:=by (exact ak))
 rintro ⟨qe2,ce2,he2,qd2,cd2,hd2⟩ ⟨h1',Hl⟩
 dsimp only at h1' Hl ⊢
 refine run ?_
 refine iw 6 ?_
 refine dN 9 7 [0,1,2,3,4,5,6] [7,8] (⟨Wb,#[.slice qm c.ws.length cm,.slice qe2 (bif c.pk.aO then fG s.es (uJ c.two.tag mid L.h) else s.es).length ce2,.slice qd2 ds.length cd2,.bool c.one.on,.int .i64 c.one.frame,.int .i64 c.one.tag,.bool true,.int .i64 c.two.frame,.int .i64 c.two.tag,.int .i64 c.pk.cpu,.bool c.pk.fill,.bool c.pk.aO,.bool c.pk.walk,.int .i64 c.pk.drop,.bool c.pk.use,.slice q4 (s.rd++L.rd).length c4],215⟩::⟨F,#[.int .i64 L.f.kind,.int .i64 L.f.stage,.int .i64 L.f.level,.bool L.f.walk,.int .i64 L.f.page],43⟩::⟨H,#[.int .i64 L.h.frame,.int .i64 L.h.mid,.bool L.h.r,.bool L.h.w,.bool L.h.x,.bool L.h.af,.bool L.h.ng,.int .i64 L.h.soft,.int .i64 L.h.level],234⟩::(he2++hd2++h4)) ?_
 refine dh ?_
 refine kU (fun wc hx hG=>Du L.h.r L.h.w L.h.x L.h.af L.h.ng L.h.soft wc) ?_
 refine dh ?_
 refine aV (b:=R1) (tb:=112) (cs:=#[.bool false,.bool false,.bool false,.bool false,.bool false,.int .i64 0]) (cs':=#[.bool L.h.r,.bool L.h.w,.bool L.h.x,.bool L.h.af,.bool L.h.ng,.int .i64 0]) (hp':=⟨R2,#[.int .i64 0,.int .i64 0,.int .i64 0,.bool false,.int .i64 0],43⟩::⟨Wb,#[.slice qm c.ws.length cm,.slice qe2 (bif c.pk.aO then fG s.es (uJ c.two.tag mid L.h) else s.es).length ce2,.slice qd2 ds.length cd2,.bool c.one.on,.int .i64 c.one.frame,.int .i64 c.one.tag,.bool true,.int .i64 c.two.frame,.int .i64 c.two.tag,.int .i64 c.pk.cpu,.bool c.pk.fill,.bool c.pk.aO,.bool c.pk.walk,.int .i64 c.pk.drop,.bool c.pk.use,.slice q4 (s.rd++L.rd).length c4],215⟩::⟨F,#[.int .i64 L.f.kind,.int .i64 L.f.stage,.int .i64 L.f.level,.bool L.f.walk,.int .i64 L.f.page],43⟩::⟨H,#[.int .i64 L.h.frame,.int .i64 L.h.mid,.bool L.h.r,.bool L.h.w,.bool L.h.x,.bool L.h.af,.bool L.h.ng,.int .i64 L.h.soft,.int .i64 L.h.level],234⟩::(he2++hd2++h4)) ?_ au
 refine aV (b:=R2) (tb:=43) (cs:=#[.int .i64 0,.int .i64 0,.int .i64 0,.bool false,.int .i64 0]) (cs':=#[.int .i64 L.f.kind,.int .i64 L.f.stage,.int .i64 L.f.level,.bool L.f.walk,.int .i64 L.f.page]) (hp':=⟨R1,#[.bool L.h.r,.bool L.h.w,.bool L.h.x,.bool L.h.af,.bool L.h.ng,.int .i64 0],112⟩::⟨Wb,#[.slice qm c.ws.length cm,.slice qe2 (bif c.pk.aO then fG s.es (uJ c.two.tag mid L.h) else s.es).length ce2,.slice qd2 ds.length cd2,.bool c.one.on,.int .i64 c.one.frame,.int .i64 c.one.tag,.bool true,.int .i64 c.two.frame,.int .i64 c.two.tag,.int .i64 c.pk.cpu,.bool c.pk.fill,.bool c.pk.aO,.bool c.pk.walk,.int .i64 c.pk.drop,.bool c.pk.use,.slice q4 (s.rd++L.rd).length c4],215⟩::⟨F,#[.int .i64 L.f.kind,.int .i64 L.f.stage,.int .i64 L.f.level,.bool L.f.walk,.int .i64 L.f.page],43⟩::⟨H,#[.int .i64 L.h.frame,.int .i64 L.h.mid,.bool L.h.r,.bool L.h.w,.bool L.h.x,.bool L.h.af,.bool L.h.ng,.int .i64 L.h.soft,.int .i64 L.h.level],234⟩::(he2++hd2++h4)) ?_ au
 refine aH ?_
 refine di ?_
 refine run ?_
 exact JB (cs:=#[.bool L.h.r,.bool L.h.w,.bool L.h.x,.bool L.h.af,.bool L.h.ng,.int .i64 0]) (cs2:=#[.int .i64 L.f.kind,.int .i64 L.f.stage,.int .i64 L.f.level,.bool L.f.walk,.int .i64 L.f.page]) ⟨_,_,_,he2,hd2,h4,rfl,h1',Hl,hO4,by (exact ak)⟩
end
structure kX (c:kW):Prop where
 uZ:tu c.ws
 mem:dQ c.ws.length=true
 one:c.one.may=true
 two:c.two.may=true
 on:c.two.on=true
 page:c.page≤4095
theorem bQ.iF {r:bQ} (h:r.may=true):(0≤r.frame∧r.frame≤4095)∧0≤r.tag∧r.tag≤15:=by
 simpa only [bQ.may,PtD.bY,Bool.and_eq_true,decide_eq_true_eq] using h
theorem EX {n:Nat} {f:Int} (hn:dQ n=true) (h:dS n f=true):0≤f∧f≤63:=by
 have h1:=bD hn
 have h2:=jy h
 omega
theorem Nw {l p:Nat}:kL l (kL l p)=kL l p:=by
 unfold kL
 have:(p - p % aP l) % aP l=0:=by
  have h:=Nat.div_add_mod p (aP l)
  rw [show p - p % aP l=aP l * (p / aP l) by omega]
  exact Nat.mul_mod_right ..
 omega
theorem QM (l p:Nat):kL l p≤p:=by unfold kL;omega
theorem lV {z:Int} {a b:Int} (h:a≤z) (h2:z≤b):PtD.bY z a b=true:=by simp [PtD.bY,h,h2]
theorem Ho {c:kW} (hk:kX c) {mid:Nat} (hm:mid≤4095) {h:kV} (hf:dS c.ws.length h.frame=true) (hg:h.ng=false):(uJ c.two.tag mid h).may=true:=by
 have h1:=bQ.iF hk.two
 have h2:=EX hk.mem hf
 have e1:(uJ c.two.tag mid h).nums=true:=by
  simp only [bg.nums,uJ,decide_true,Bool.and_true,Bool.and_eq_true]
  exact ⟨⟨⟨⟨lV au' au',lV au' au'⟩,lV au' au'⟩,lV au' au'⟩,lV au' au'⟩
 rw [bg.may,e1]
 simp [uJ,hg]
theorem Bi {c:kW} (hk:kX c) {level:Nat} (h0:0<level) (h3:level≤3) {n:Int} (hf:dS c.ws.length n=true):(x8 c level n).may=true:=by
 have h1:=bQ.iF hk.two
 have h4:=bQ.iF hk.one
 have h2:=EX hk.mem hf
 have h5:=hk.page
 have h6:=QM (level - 1) c.page
 have e1:(x8 c level n).nums=true:=by
  simp only [bg.nums,x8,decide_true,Bool.and_true,Bool.and_eq_true]
  exact ⟨⟨⟨⟨lV au' au',lV au' au'⟩,lV au' au'⟩,lV au' au'⟩,lV au' au'⟩
 have e2:PtD.bY (x8 c level n).level 1 3=true:=lV (by simp only [x8];omega) (by simp only [x8];omega)
 rw [bg.may,e1,e2]
 simp [x8,bg.bare,Nw]
theorem Hq {c:kW} (hk:kX c) {n:Int} {mid:Nat} (hm:mid≤4095) {d:DsD} {a:AtD} (hf:dS c.ws.length n=true):(yU c n mid d a).may=true:=by
 have h1:=bQ.iF hk.two
 have h4:=bQ.iF hk.one
 have h2:=EX hk.mem hf
 have h5:=hk.page
 have e1:(yU c n mid d a).nums=true:=by
  simp only [bg.nums,yU,decide_true,Bool.and_true,Bool.and_eq_true]
  exact ⟨⟨⟨⟨lV au' au',lV au' au'⟩,lV au' au'⟩,lV au' au'⟩,lV au' au'⟩
 rw [bg.may,e1]
 simp [yU]
structure EY (n:Nat) (ds:List dB) (k:Nat) (s:qx) (x:qx):Prop where
 es:gU n x.es ds
 rd:x.rd.length≤s.rd.length + k
theorem gU.JC {n:Nat} {es:List bg} {ds:List dB} (h:gU n es ds) {i:Nat} (hi:i<es.length):(es.getD i default).may=true∧dS n (es.getD i default).frame=true:=⟨h.may.1 _ (getD_mem hi),h.held _ (getD_mem hi)⟩
theorem UC {e:bg} (h:e.may=true) (hk:e.kind=2):e.ng=false:=by
 simp only [bg.may,hk,decide_true,show decide ((2:Int)=1)=false from rfl,cond_true,cond_false,Bool.and_eq_true,Bool.not_eq_true'] at h
 exact h.2.2
theorem Bj {α:Type} [Inhabited α] {p:α→Bool} {l:List α} (h:0≤fM p l):(fM p l).toNat<l.length∧p (l.getD (fM p l).toNat default)=true:=by
 have h1:=(KR p l).2
 refine ⟨by omega,?_⟩
 cases ha:l.any p with
 | false=>
  have:fM p l=-1:=fO fun j hj=>by
   rw [List.any_eq_false] at ha
   have:=ha _ (getD_mem hj)
   simpa using this
  omega
 | true=>
  obtain ⟨x,hx,hp⟩:=List.any_eq_true.1 ha
  obtain ⟨j,hj,rfl⟩:=List.getElem_of_mem hx
  have hjp:p (l.getD j default)=true:=by rw [List.getD_eq_getElem?_getD,List.getElem?_eq_getElem hj];exact hp
  obtain ⟨j0,h0,h2,h3⟩:=oK p l j hjp
  rw [iM (k:=j0) au' h2 h3]
  simpa using h2
theorem UD {c:kW} (hk:kX c) {ds:List dB} {s:qx} (hE:gU c.ws.length s.es ds) {mid:Nat} (hm:mid≤4095) (acc:Int):EY c.ws.length ds 4 s (vH c s mid (jo c.ws true c.two.frame mid acc)).s∧((vH c s mid (jo c.ws true c.two.frame mid acc)).f.kind=0→dS c.ws.length (vH c s mid (jo c.ws true c.two.frame mid acc)).n=true∧(vH c s mid (jo c.ws true c.two.frame mid acc)).f=jQ∧(vH c s mid (jo c.ws true c.two.frame mid acc)).a.ng=false):=by
 have h4:=EU c.ws c.two.frame mid acc
 have h5:=EO (ws:=c.ws) (frame:=c.two.frame) (mid:=mid) (acc:=acc)
 generalize jo c.ws true c.two.frame mid acc=L at h4 h5 ⊢
 unfold vH
 cases hc:decide (L.f.kind=0) with
 | false=>
  simp only [Bool.not_false,cond_true]
  refine ⟨⟨hE,by simp only [List.length_append];omega⟩,fun h=>?_⟩
  simp [h] at hc
 | true=>
  obtain ⟨h6,h7,h8⟩:=h5 (of_decide_eq_true hc)
  simp only [Bool.not_true,cond_false]
  refine ⟨⟨?_,by simp only [List.length_append];omega⟩,fun h=>⟨h6,h7,h8⟩⟩
  cases c.pk.aO with
  | false=>exact hE
  | true=>exact zY hE (Ho hk hm h6 h8) h6
theorem pO {c:kW} (hk:kX c) {ds:List dB} {s:qx} (hE:gU c.ws.length s.es ds) {mid:Nat} (hm:mid≤4095) (acc:Int):EY c.ws.length ds 4 s (dV c s mid acc).s∧((dV c s mid acc).f.kind=0→dS c.ws.length (dV c s mid acc).n=true∧(dV c s mid acc).f=jQ∧(dV c s mid acc).a.ng=false):=by
 unfold dV
 cases hc:(c.pk.use && decide (0≤nN c s mid acc)) with
 | false=>exact UD hk hE hm acc
 | true=>
  rw [Bool.and_eq_true,decide_eq_true_eq] at hc
  simp only [cond_true]
  obtain ⟨h1,h2⟩:=Bj (p:=rV c.two.tag mid acc) (l:=s.es) hc.2
  have h3:=hE.JC h1
  refine ⟨⟨hE,by omega⟩,fun _=>⟨h3.2,by first | rfl | trivial,?_⟩⟩
  simp only [rV,Bool.and_eq_true,decide_eq_true_eq] at h2
  exact UC h3.1 h2.1.1.1
theorem su {c:kW} (hk:kX c) {ds:List dB} {s:qx} (hE:gU c.ws.length s.es ds) {mid level:Nat} (hm:mid≤4095) (hl:level≤3):EY c.ws.length ds 4 s (jH c s mid level).s∧((jH c s mid level).f.kind=0→dS c.ws.length (jH c s mid level).n=true):=by
 obtain ⟨h1,h2⟩:=pO hk hE hm 0
 unfold jH
 generalize dV c s mid 0=M at h1 h2 ⊢
 cases hc:decide (M.f.kind=0) with
 | false=>
  simp only [Bool.not_false,cond_true]
  refine ⟨h1,fun h=>?_⟩
  simp [h] at hc
 | true=>
  obtain ⟨h3,h4,_⟩:=h2 (of_decide_eq_true hc)
  simp only [Bool.not_true,cond_false]
  refine ⟨⟨?_,h1.rd⟩,fun _=>h3⟩
  cases hw:(decide (0<level) && c.pk.walk) with
  | false=>exact h1.es
  | true=>
   rw [Bool.and_eq_true,decide_eq_true_eq] at hw
   exact zY h1.es (Bi hk hw.1 hl h3) h3
theorem qL {stage:Int} {level:Nat} {d:DsD} (hd:d.may stage level=true) (hk:d.kind=2) (hl:level<4) (page:Nat):d.frame.toNat + page % aP level≤4095∧((d.frame.toNat:Nat):Int)=d.frame:=by
 obtain ⟨_,_,_,h2⟩:=jT hd
 obtain ⟨h3,h4,h5,_,h6⟩:=h2 hk
 have hp:level=1∨level=2∨level=3:=by omega
 have hc:=Ji hl
 rcases hp with rfl | rfl | rfl<;>simp at hc<;>rw [hc] at h6 ⊢<;>omega
theorem Hr {c:kW} (hk:kX c) {ds:List dB} {s:qx} (hE:gU c.ws.length s.es ds) {level:Nat} {d:DsD} (hm:iG c level d≤4095):EY c.ws.length ds 4 s (vO c s level d).s∧((vO c s level d).f.kind=0→dS c.ws.length (vO c s level d).n=true):=by
 obtain ⟨h1,h2⟩:=pO hk hE hm c.acc
 unfold vO
 generalize dV c s (iG c level d) c.acc=M at h1 h2 ⊢
 generalize gQ d.r d.w d.x d.af c.acc 1 level c.page=F
 cases hc:decide (F.kind=0) with
 | false=>
  simp only [Bool.not_false,cond_true]
  refine ⟨⟨hE,by omega⟩,fun h=>?_⟩
  simp [h] at hc
 | true=>
  simp only [Bool.not_true,cond_false]
  cases hc2:decide (M.f.kind=0) with
  | false=>
   simp only [Bool.not_false,cond_true]
   refine ⟨h1,fun h=>?_⟩
   simp [h] at hc2
  | true=>
   obtain ⟨h3,h4,_⟩:=h2 (of_decide_eq_true hc2)
   simp only [Bool.not_true,cond_false]
   refine ⟨⟨?_,h1.rd⟩,fun _=>h3⟩
   cases c.pk.fill with
   | false=>exact h1.es
   | true=>exact zY h1.es (Hq hk hm h3) h3
def Zu (c:kW) (k level:Nat) (mid:Nat) (s:qx):zD:=bif !decide ((jH c s mid level).f.kind=0) then ⟨(jH c s mid level).s,0,(jH c s mid level).f⟩ else rX c k level (jH c s mid level).n (jH c s mid level).s
theorem KT {c:kW} (hk:kX c) {ds:List dB}:∀ (k level:Nat) (f:Int) (s:qx),level + k=4→gU c.ws.length s.es ds→EY c.ws.length ds (5 * k) s (rX c k level f s).s:=by
 intro k
 induction k with
 | zero=>intro level f s hl hE;exact ⟨hE,Nat.le_refl _⟩
 | succ k ih=>
  intro level f s hl hE
  rw [rX]
  have hmay:=rQ c.ws 1 (sK f level c.page) level
  generalize Cc c.ws 1 (sK f level c.page) level=d at hmay ⊢
  obtain ⟨hkk,hk0,hk1,hk2⟩:=jT hmay
  cases h1:decide (d.kind=1) with
  | true=>
   obtain ⟨g1,g2,g3,g4⟩:=hk1 (of_decide_eq_true h1)
   obtain ⟨h2,h3⟩:=su hk (s:=⟨s.es,s.rd++[f]⟩) hE (mid:=d.frame.toNat) (level:=level + 1) au' au'
   have h4:=h2.rd
   simp only [List.length_append,List.length_singleton] at h4
   simp only [cond_true]
   generalize jH c ⟨s.es,s.rd++[f]⟩ d.frame.toNat (level + 1)=T at h2 h3 h4 ⊢
   cases hc:decide (T.f.kind=0) with
   | false=>simp only [Bool.not_false,cond_true];exact ⟨h2.es,by omega⟩
   | true=>
    simp only [Bool.not_true,cond_false]
    have:=ih (level + 1) T.n T.s au' h2.es
    exact ⟨this.es,by have:=this.rd;omega⟩
  | false=>
   simp only [cond_false]
   cases h0:decide (d.kind=0) with
   | true=>simp only [cond_true];exact ⟨hE,by simp only [List.length_append,List.length_singleton];omega⟩
   | false=>
    simp only [cond_false]
    have hd2:d.kind=2:=by simp at h1 h0;omega
    have:=(Hr hk (s:=⟨s.es,s.rd++[f]⟩) hE (d:=d) (level:=level) (qL hmay hd2 au' c.page).1).1
    exact ⟨this.es,by have:=this.rd;simp only [List.length_append,List.length_singleton] at this;omega⟩
theorem QN {c:kW} (hk:kX c) {ds:List dB} {s:qx} (hE:gU c.ws.length s.es ds):EY c.ws.length ds 24 s (vP c s).s:=by
 have h1:=bQ.iF hk.one
 obtain ⟨h2,h3⟩:=su hk hE (mid:=c.one.frame.toNat) (level:=0) au' au'
 unfold vP
 generalize jH c s c.one.frame.toNat 0=T at h2 h3 ⊢
 cases hc:decide (T.f.kind=0) with
 | false=>simp only [Bool.not_false,cond_true];exact ⟨h2.es,by have:=h2.rd;omega⟩
 | true=>
  simp only [Bool.not_true,cond_false]
  have:=KT hk 4 0 T.n T.s rfl h2.es
  exact ⟨this.es,by have:=this.rd;have:=h2.rd;omega⟩
theorem Ht {es:List bg} {q:bg→Bool}:∀ k,0≤eX es q k→q (es.getD (eX es q k).toNat default)=true:=by
 intro k
 induction k with
 | zero=>intro h;rw [eX] at h;omega
 | succ k ih=>
  intro h
  rw [eX] at h ⊢
  cases hc:(q (es.getD k default) && (decide (eX es q k<0) || decide ((es.getD (eX es q k).toNat default).level<(es.getD k default).level))) with
  | true=>rw [Bool.and_eq_true] at hc;simpa using hc.1
  | false=>rw [hc] at h;exact ih h
theorem EZ {e:bg} (h:e.may=true) (hk:e.kind=3):1≤e.level∧e.level≤3:=by
 simp only [bg.may,hk,decide_true,show decide ((3:Int)=1)=false from rfl,show decide ((3:Int)=2)=false from rfl,cond_true,cond_false,Bool.and_eq_true,PtD.bY,decide_eq_true_eq] at h
 exact h.2.1.1.1
theorem yf {c:kW} {ds:List dB} {es:List bg} (hE:gU c.ws.length es ds) (h:0≤fD c es):(fD c es).toNat<es.length∧1≤(es.getD (fD c es).toNat default).level∧(es.getD (fD c es).toNat default).level≤3∧dS c.ws.length (es.getD (fD c es).toNat default).frame=true:=by
 have h1:=(uI (es:=es) (q:=oC c.two.tag c.one.tag c.page) es.length).2
 have h2:=Ht (es:=es) (q:=oC c.two.tag c.one.tag c.page) es.length h
 have h3:(fD c es).toNat<es.length:=by simp only [fD] at h ⊢;omega
 have h4:=hE.JC h3
 simp only [oC,Bool.and_eq_true,decide_eq_true_eq] at h2
 have h5:=EZ h4.1 h2.1.1
 exact ⟨h3,h5.1,h5.2,h4.2⟩
theorem QO {c:kW} (hk:kX c) {ds:List dB} {es:List bg} (hE:gU c.ws.length es ds):EY c.ws.length ds 24 ⟨es,[]⟩ (lX c es).s:=by
 unfold lX
 cases c.one.on with
 | false=>
  simp only [Bool.not_false,cond_true]
  obtain ⟨h1,_⟩:=pO hk (s:=⟨es,[]⟩) hE hk.page c.acc
  exact ⟨h1.es,by have:=h1.rd;omega⟩
 | true=>
  simp only [Bool.not_true,cond_false]
  cases hc:(c.pk.use && decide (0≤iD c es)) with
  | true=>simp only [cond_true];exact ⟨hE,by simp⟩
  | false=>
   simp only [cond_false]
   unfold vS
   cases hc2:(c.pk.use && decide (0≤fD c es)) with
   | true=>
    rw [Bool.and_eq_true,decide_eq_true_eq] at hc2
    obtain ⟨h1,h2,h3,h4⟩:=yf hE hc2.2
    simp only [cond_true]
    have:=KT hk (ds:=ds) (4 - (es.getD (fD c es).toNat default).level.toNat) (es.getD (fD c es).toNat default).level.toNat (es.getD (fD c es).toNat default).frame ⟨es,[]⟩ au' hE
    exact ⟨this.es,by have:=this.rd;omega⟩
   | false=>
    simp only [cond_false]
    have:=QN hk (s:=⟨es,[]⟩) hE
    exact ⟨this.es,by have:=this.rd;omega⟩
theorem Bl {c:kW} (hk:kX c) {ds:List dB} {es:List bg} (hE:gU c.ws.length es ds):EY c.ws.length ds 24 ⟨es,[]⟩ (nX c es).s:=by
 have:=QO hk (zZ hE c.pk.drop)
 exact ⟨this.es,this.rd⟩
section
section
variable {P : Program} {n : Nat} {w0 : World} {mu : List Nat} {l : Fm} {h0 hp hc : Hp} {Q : Exit → Fm → Hp → Prop} {all : Array Oper} {ds : List (Nat × Nat)} {t0 : Nat} {i d : Nat} {iv fr : Fm} {rest : List Oper} {op : Op} {ty : TypeId} {pos : String} {af : Array Edge} {j : Nat} {want : Bool} {dj : Nat} {b : Bool}
theorem XE {v:Value} (hlk:lk ds i=some d) (hwt:Region.waitsFor .any all t0 i=true) (hj:(all[j]?).bind (·.dst)=some dj) (hb:look (aA ds iv af.toList++l) dj=some (.bool b)) (hdj:Nat.blt dj n=true)
  (hy:jg b want=true→Hy P n w0 mu (aA ds iv af.toList++l) hp ⟨some d,op,ty,pos,af,some (j,want)⟩ v)
  (h:jX P n w0 mu all ds l h0 hp t0 Q (i + 1) rest ((i,gv (jg b want) v)::iv) ((d,gv (jg b want) v)::fr) hc):jX P n w0 mu all ds l h0 hp t0 Q i (⟨some d,op,ty,pos,af,some (j,want)⟩::rest) iv fr hc:=
 fun e=>⟨_,fun hx=>by rw [hwt];exact ⟨dj,true,b,v,hj,hb,hdj,fun _=>hy,rfl⟩,h (jh hlk e)⟩
theorem XF {v:Value} (hlk:lk ds i=some d) (hwt:Region.waitsFor .any all t0 i=false) (hj:(all[j]?).bind (·.dst)=some dj) (hb:look (aA ds iv af.toList++l) dj=some (.bool b)) (hdj:Nat.blt dj n=true)
  (hy:∀ hx,jg b want=true→Hy P n w0 mu (aA ds iv af.toList++l) (hx++h0) ⟨some d,op,ty,pos,af,some (j,want)⟩ v)
  (h:jX P n w0 mu all ds l h0 hp t0 Q (i + 1) rest ((i,gv (jg b want) v)::iv) ((d,gv (jg b want) v)::fr) hc):jX P n w0 mu all ds l h0 hp t0 Q i (⟨some d,op,ty,pos,af,some (j,want)⟩::rest) iv fr hc:=
 fun e=>⟨_,fun hx=>by rw [hwt];exact ⟨dj,true,b,v,hj,hb,hdj,fun _=>hy hx,rfl⟩,h (jh hlk e)⟩
end
section
variable {n : Nat} {w0 : World} {mu : List Nat} {l : Fm} {hp : Hp} {dd : Option Tmp} {ty : TypeId} {pos : String} {af : Array Edge} {gg : Option (Nat × Bool)}
theorem E5 {t:TypeId} {x:Operand} {b off:Nat} {v:Value} (hs:mem Tb.sc t=true) (hx:ev l x=some (.pointer (some ⟨b,off,none⟩))) (hc:∀ w,Good w0 mu hp w→w.cell? ⟨b,off,none⟩=some v):Hy Tryz.prog n w0 mu l hp ⟨dd,.load t x,ty,pos,af,gg⟩ v:=
 bz fun a w hk hG=>by
  simp only [execOp,hk.ev hx]
  simp [tJ (ay.gsc hs) (hc w hG)]
end
section
variable {n : Nat} {w0 : World} {mu : List Nat} {l : Fm} {h0 hp hc : Hp} {all : Array Oper} {iv aG aN : Fm} {i d : Nat} {ds : List (Nat × Nat)} {r : List Nat} {Y : Fm → Hp → Prop} {ty : TypeId} {pos : String} {af : Array Edge}
theorem Zv {t:TypeId} {x:Operand} {v:Value} {cs:List Value} (h:∀ b,fA Tryz.prog n w0 mu all ds l h0 aG Y r ((i,.pointer (some ⟨b,0,none⟩))::aN) (⟨b,cs.toArray,t⟩::hc)) (ho:all[i]?=some ⟨some d,.box t x,ty,pos,af,none⟩:=by rfl) (hx:ev (aA ds (aN++aG) af.toList++l) x=some v:=by rfl) (hcs:v.cells=cs.toArray:=by (first | ((simp only [Value.cells])<;>rfl) | rfl)):fA Tryz.prog n w0 mu all ds l h0 aG Y (i::r) aN hc:=
 TN ho (WH hx hcs) (by rintro _ _ ⟨b,rfl,rfl⟩;exact h b)
end
attribute [local irreducible] Hy St Ops DH gB iH iq fK DS fA jX
theorem KU {G R:Prop} (k:R) (h:uh R→G:=by (intro kJ;(repeat (first | (with_reducible apply Kq) | ((with_reducible apply Kr);rfl;decide +kernel;(first | exact Md)) | ((with_reducible apply Kt);rfl;decide +kernel;(intro Yj;(first | exact Md))) | ((with_reducible apply VI ay);rfl;rfl;(exact jL);rfl;rfl;(exact wB);(exact Ja);(exact Jb);(exact pY);(refine bU fun a=>?_;simp only [dZ,bJ,kK];omega)) | ((with_reducible apply XE);rfl;decide +kernel;rfl;rfl;rfl;(intro hg1;(try simp only [hg1,bZ,Bool.true_and]);(first | exact VJ))) | ((with_reducible apply XF);rfl;decide +kernel;rfl;rfl;rfl;(intro Yj;intro hg1;(try simp only [hg1,bZ,Bool.true_and]);(first | exact VJ)))));exact kJ.get)):G:=h ⟨k⟩
end
section
attribute [local irreducible] Hy St Ops DH gB iH iq fK DS fA
abbrev Sr (a:AtD × Int):List Value:=[.bool a.1.r,.bool a.1.w,.bool a.1.x,.bool a.1.af,.bool a.1.ng,.int .i64 a.2]
def lZ (a b:AtD):AtD:=⟨a.r && b.r,a.w && b.w,a.x && b.x,a.af && b.af,a.ng || b.ng⟩
theorem QS {e sz:Nat} (xs:List (List Value)) (hx:∀ c∈xs,c.length=sz∧c.all (·.oneCell')=true) (hl:xs.length<65536):∃ v h,Acc e sz v h xs:=by
 by_cases h0:xs=[]
 ·subst h0;exact ⟨_,_,Acc.nil e sz⟩
 ·have hfl:∀ ys:List (List Value),(∀ c∈ys,c.length=sz∧c.all (·.oneCell')=true)→ys.flatten.length=ys.length * sz:=by
   intro ys
   induction ys with
   | nil=>intro _;simp
   | cons y r ih=>intro h;rw [List.flatten_cons,List.length_append,ih (fun c hc=>h c (List.mem_cons_of_mem _ hc)),(h y (List.mem_cons_self ..)).1,List.length_cons,Nat.succ_mul,Nat.add_comm]
  refine ⟨.slice (some ⟨0,0,none⟩) xs.length xs.length,[⟨0,xs.flatten.toArray,e⟩],hx,.inr ⟨h0,0,xs.length,_,rfl,rfl,⟨hfl xs hx,Nat.le_refl _,by unfold maxLen;omega,by simp only [List.size_toArray];rw [hfl xs hx],?_⟩⟩⟩
  rw [List.take_of_length_le (by simp only;rw [hfl xs hx];exact Nat.le_refl _)]
theorem KW (c:dB):(dJ c).length=4∧(dJ c).all (·.oneCell')=true:=⟨rfl,rfl⟩
theorem KX (c:bg):(bI c).length=14∧(bI c).all (·.oneCell')=true:=⟨rfl,rfl⟩
theorem KY (es:List bg) (ds:List dB) (h1:es.length≤8) (h2:ds.length≤8):∃ r hn v1 h1 v2 h2,r=Value.agg #[v1,v2]∧Acc 114 14 v1 h1 (es.map bI)∧Acc 121 4 v2 h2 (ds.map dJ)∧aF (h1++h2) hn:=by
 obtain ⟨v,h,hA⟩:=QS (e:=114) (es.map bI) (fun c hc=>by obtain ⟨x,_,rfl⟩:=List.mem_map.1 hc;exact KX x) av3
 obtain ⟨v2,h2,hA2⟩:=QS (e:=121) (ds.map dJ) (fun c hc=>by obtain ⟨x,_,rfl⟩:=List.mem_map.1 hc;exact KW x) av3
 exact ⟨_,_,v,h,v2,h2,rfl,hA,hA2,aF.refl _⟩
theorem Dv (es:List bg) (e:bg) (h:es.length≤8):(fG es e).length≤8:=by
 unfold fG
 cases hc:(!(es.any fun t=>decide (t=e)) && decide (es.length<8)) with
 | false=>exact h
 | true=>rw [Bool.and_eq_true,decide_eq_true_eq] at hc;simp;omega
theorem vU {fn:Func} {R:Value→Hp→Prop} {l:Fm} {hp:Hp} {s0 a t b:Nat} {cs:Array Value} {tb:TypeId} {v:Value} (h:R (.tuple #[v,.agg cs]) hp) (hr:fn.results=#[.tmp s0,.cell a t]:=by rfl) (h0:look l s0=some v:=by rfl) (hv:look l a=some (.pointer (some ⟨b,0,none⟩)):=by rfl) (hag:mem Tb.ag t=true:=by rfl) (hm:(⟨b,cs,tb⟩:aI)∈hp:=by (first | (with_reducible apply mh) | (focus ((repeat (first | (with_reducible apply mh) | (with_reducible apply mt) | (with_reducible apply List.mem_append_right)));done)))) (hz:lk Tb.sz t=some cs.size:=by rfl):Fin Tryz.prog fn R .ret l hp:=
 ⟨.inl rfl,[v,.agg cs],by rw [hr];exact ⟨h0,⟨⟨b,cs,tb⟩,hm,hv,.inr ⟨ay.zH hag,ay.tH hz,rfl⟩⟩,trivial⟩,h⟩
theorem dP.into {w wc:World} {mu:List Nat} {hi rest:Hp} {v:Value} {sz:Nat} {xs:List (List Value)} (h:dP w mu v sz xs) (hG:Good w mu (hi++rest) wc):dP wc (hi.map (·.b)) v sz xs:=
 h.next hG fun b hb=>by obtain ⟨x,hx,rfl⟩:=List.mem_map.1 hb;exact ⟨x,List.mem_append_left _ hx,rfl⟩
instance : Inhabited AtD := ⟨EN⟩
theorem UE (a b:AtD) (sa sb:Int) {w:World} {v:Value} (h:aB w v 6 ([(a,sa),(b,sb)].map Sr)):Fn Tryz.prog 189 [v].toArray w [] (fun u _=>u=.agg (Zl (lZ a b)).toArray):=by
 obtain ⟨q,cap,rfl,hne,hle⟩:=h.opened
 obtain ⟨b0,o0,rfl⟩:=hne av4
 rw [show ([(a,sa),(b,sb)]:List (AtD × Int)).length=2 from rfl] at h ⊢
 have r0:=h.row (k:=0) (by decide:0<2)
 have r1:=h.row (k:=1) (by decide:1<2)
 refine enter Tryz.func189 ?_
 refine run ?_
 intro R X
 refine cO (σ:=Nat × AtD) (fun z=>[(4,.int .i64 (z.1:Int))]) (fun z=>[⟨R,#[.bool false,.bool false,.bool false,.bool false,.bool false,.int .i64 0],112⟩,⟨X,#[.bool z.2.r,.bool z.2.w,.bool z.2.x,.bool z.2.af,.bool z.2.ng,.int .i64 0],112⟩]) (fun z=>z.1=0∧z.2=⟨true,true,true,true,false⟩∨z.1=1∧z.2=a∨z.1=2∧z.2=lZ a b) (fun z=>2 - z.1) (0,⟨true,true,true,true,false⟩) (.inl ⟨rfl,rfl⟩) ?_
 rintro ⟨k,x⟩ m hm hk
 dsimp only at hm hk ⊢
 rcases hk with ⟨e0,rfl⟩ | ⟨e0,rfl⟩ | ⟨e0,rfl⟩
 ·have hlt:k<2:=by omega
  have hr:w.rangeAt b0 (o0 + k * 6) (Sr (a,sa)):=by rw [e0];exact r0
  refine run ?_
  refine aj _ rfl (fun hc=>?_) (fun hc=>absurd hc aw0)
  refine aX ?_
  intro A
  refine aX ?_
  refine Az 31 [⟨R,#[.bool false,.bool false,.bool false,.bool false,.bool false,.int .i64 0],112⟩,⟨A,#[.bool a.r,.bool a.w,.bool a.x,.bool a.af,.bool a.ng,.int .i64 sa],112⟩] ?_
  refine KU ?_
  refine run ?_
  exact bH (k + 1,⟨true && a.r,true && a.w,true && a.x,true && a.af,false || a.ng⟩) (.inr (.inl ⟨by dsimp only;omega,by simp⟩)) (hm:=by dsimp only;omega) (h2:=by (exact ak))
 ·have hlt:k<2:=by omega
  have hr:w.rangeAt b0 (o0 + k * 6) (Sr (b,sb)):=by rw [e0];exact r1
  refine run ?_
  refine aj _ rfl (fun hc=>?_) (fun hc=>absurd hc aw0)
  refine aX ?_
  intro A
  refine aX ?_
  refine Az 31 [⟨R,#[.bool false,.bool false,.bool false,.bool false,.bool false,.int .i64 0],112⟩,⟨A,#[.bool b.r,.bool b.w,.bool b.x,.bool b.af,.bool b.ng,.int .i64 sb],112⟩] ?_
  refine KU ?_
  refine run ?_
  exact bH (k + 1,⟨x.r && b.r,x.w && b.w,x.x && b.x,x.af && b.af,x.ng || b.ng⟩) (.inr (.inr ⟨by dsimp only;omega,rfl⟩)) (hm:=by dsimp only;omega) (h2:=by (exact ak))
 ·refine run ?_
  refine aj _ rfl (fun hc=>absurd hc aw0) (fun hc=>?_)
  refine run ?_
  exact gK (cs:=#[.bool (lZ a b).r,.bool (lZ a b).w,.bool (lZ a b).x,.bool (lZ a b).af,.bool (lZ a b).ng,.int .i64 0]) rfl
theorem QT (c:kW) (hk:kX c) {w:World} {Wb:Nat} {mv ev dv rv:Value} {he hd hr:Hp} (s:qx) (ds:List dB) (level:Nat) (hlv:level<4) (fr:Int) (hfr:fr=-1∧level=0∨dS c.ws.length fr=true) (hE:gU c.ws.length s.es ds) (hrl:s.rd.length<1000)
  (hm:dP w (Wb::(he++hd++hr).map (·.b)) mv 1 (c.ws.map uV)) (h1:Own 114 14 ev he (s.es.map bI)) (h2:Own 121 4 dv hd (ds.map dJ)) (h3:Own 3 1 rv hr (s.rd.map dH)) (hN:eP (⟨Wb,Sl c mv ev dv rv,215⟩::(he++hd++hr)) w):
  Fn Tryz.prog 156 [.pointer (some ⟨Wb,0,none⟩),.int .i64 (level:Int),.int .i64 fr,.int .i64 (c.page:Int),.int .i64 c.acc].toArray w (Wb::(he++hd++hr).map (·.b)) (fun u hn=>∃ X:zD,X=(bif decide (fr<0) then vP c s else rX c (4 - level) level fr s)∧∃ ev' rZ rv' he' hd' hr',u=.tuple #[.int .i64 X.n,xZ X.f]∧Own 114 14 ev' he' (X.s.es.map bI)∧Own 121 4 rZ hd' (ds.map dJ)∧Own 3 1 rv' hr' (X.s.rd.map dH)∧aF (⟨Wb,Sl c mv ev' rZ rv',215⟩::(he'++hd'++hr')) hn):=by
 have hm':=hm
 obtain ⟨qm,cm,rfl,_,_⟩:=hm.at_.opened
 obtain ⟨qe,ce,ee⟩:=h1.opened
 obtain ⟨qd,cd,ed⟩:=h2.opened
 obtain ⟨qr,cr,er⟩:=h3.opened
 rw [List.length_map] at ee ed er
 subst ee ed er
 simp only [Sl] at hN ⊢
 have BV:=bD hk.mem
 have hem:=hE.may
 refine eF _ hN Tryz.func156 ?_
 refine run ?_
 intro R
 refine cO (σ:=Nat × Int × Int × qx × Value × Value × Value × Hp × Hp × Hp) (fun z=>[(1,.int .i64 (z.1:Int)),(2,.int .i64 z.2.1),(12,.int .i64 z.2.2.1)]) (fun z=>⟨R,#[.int .i64 0,.int .i64 0,.int .i64 0,.bool false,.int .i64 0],43⟩::⟨Wb,#[.slice qm c.ws.length cm,z.2.2.2.2.1,z.2.2.2.2.2.1,.bool c.one.on,.int .i64 c.one.frame,.int .i64 c.one.tag,.bool c.two.on,.int .i64 c.two.frame,.int .i64 c.two.tag,.int .i64 c.pk.cpu,.bool c.pk.fill,.bool c.pk.aO,.bool c.pk.walk,.int .i64 c.pk.drop,.bool c.pk.use,z.2.2.2.2.2.2.1],215⟩::(z.2.2.2.2.2.2.2.1++z.2.2.2.2.2.2.2.2.1++z.2.2.2.2.2.2.2.2.2)) (fun z=>z.1<4∧(z.2.1=-1∧0≤z.2.2.1∧z.2.2.1≤4095∨dS c.ws.length z.2.1=true)∧gU c.ws.length z.2.2.2.1.es ds∧z.2.2.2.1.rd.length + 5 * (4 - z.1)≤1100∧(bif decide (z.2.1<0) then Zu c (4 - z.1) z.1 z.2.2.1.toNat z.2.2.2.1 else rX c (4 - z.1) z.1 z.2.1 z.2.2.2.1)=(bif decide (fr<0) then vP c s else rX c (4 - level) level fr s)∧Own 114 14 z.2.2.2.2.1 z.2.2.2.2.2.2.2.1 (z.2.2.2.1.es.map bI)∧Own 121 4 z.2.2.2.2.2.1 z.2.2.2.2.2.2.2.2.1 (ds.map dJ)∧Own 3 1 z.2.2.2.2.2.2.1 z.2.2.2.2.2.2.2.2.2 (z.2.2.2.1.rd.map dH)) (fun z=>4 - z.1) (level,fr,c.one.frame,s,_,_,_,he,hd,hr) ⟨hlv,?_,hE,by dsimp only;omega,?_,h1,h2,h3⟩ ?_
 ·dsimp only
  rcases hfr with ⟨e,e2⟩ | h
  ·exact .inl ⟨e,(bQ.iF hk.one).1⟩
  ·exact .inr h
 ·dsimp only
  cases hf0:decide (fr<0) with
  | false=>rfl
  | true=>
   rcases hfr with ⟨e,rfl⟩ | h
   ·rfl
   ·have:=jy h
    simp at hf0;omega
 rintro ⟨lv,f0,md,S,ev,dv,rv,he,hd,hr⟩ m hm ⟨hl,hf0,yx,hrd,hwk,h1,h2,h3⟩
 dsimp only at hm hl hf0 yx hrd hwk h1 h2 h3 ⊢
 generalize (bif decide (fr<0) then vP c s else rX c (4 - level) level fr s)=X at hwk ⊢
 refine run ?_
 refine aj _ rfl (fun hc=>?_) (fun hc=>absurd hc aw0)
 refine run ?_
 refine dX (σ:=Int × qx × Value × Value × Value × Hp × Hp × Hp) (fun z=>[(2,.int .i64 z.1)]) (fun z=>⟨R,#[.int .i64 0,.int .i64 0,.int .i64 0,.bool false,.int .i64 0],43⟩::⟨Wb,#[.slice qm c.ws.length cm,z.2.2.1,z.2.2.2.1,.bool c.one.on,.int .i64 c.one.frame,.int .i64 c.one.tag,.bool c.two.on,.int .i64 c.two.frame,.int .i64 c.two.tag,.int .i64 c.pk.cpu,.bool c.pk.fill,.bool c.pk.aO,.bool c.pk.walk,.int .i64 c.pk.drop,.bool c.pk.use,z.2.2.2.2.1],215⟩::(z.2.2.2.2.2.1++z.2.2.2.2.2.2.1++z.2.2.2.2.2.2.2)) (fun z=>dS c.ws.length z.1=true∧gU c.ws.length z.2.1.es ds∧z.2.1.rd.length + 5 * (4 - lv)≤1104∧rX c (4 - lv) lv z.1 z.2.1=X∧Own 114 14 z.2.2.1 z.2.2.2.2.2.1 (z.2.1.es.map bI)∧Own 121 4 z.2.2.2.1 z.2.2.2.2.2.2.1 (ds.map dJ)∧Own 3 1 z.2.2.2.2.1 z.2.2.2.2.2.2.2 (z.2.1.rd.map dH)) ?_ ?_
 ·refine aj _ rfl (fun hc1=>?_) (fun hc1=>?_)
  ·obtain ⟨rfl,ao0,ao1⟩:f0=-1∧0≤md∧md≤4095:=by
    rcases hf0 with h | h
    ·exact h
    ·have:=jy h;simp at hc1;omega
   obtain ⟨M,rfl⟩:∃ M:Nat,md=(M:Int):=⟨md.toNat,by omega⟩
   simp only [show decide ((-1:Int)<0)=true from rfl,cond_true,Int.toNat_natCast] at hwk
   refine run ?_
   refine dK (⟨Wb,#[.slice qm c.ws.length cm,ev,dv,.bool c.one.on,.int .i64 c.one.frame,.int .i64 c.one.tag,.bool c.two.on,.int .i64 c.two.frame,.int .i64 c.two.tag,.int .i64 c.pk.cpu,.bool c.pk.fill,.bool c.pk.aO,.bool c.pk.walk,.int .i64 c.pk.drop,.bool c.pk.use,rv],215⟩::(he++hd++hr)) [⟨R,#[.int .i64 0,.int .i64 0,.int .i64 0,.bool false,.int .i64 0],43⟩] (fun wc hG=>Bh c hk.uZ hk.mem hk.on (bQ.iF hk.two).1.1 S ds M au' 0 yx au' (hm'.into hG) h1 h2 h3 hG.dG) ?_ au
   rintro u1 hn1 ⟨ev1,o6,pR,he1,hd1,hr1,rfl,h11,h21,h31,hle1⟩
   simp only [Sl] at hle1
   obtain ⟨hMs,VY⟩:=pO hk yx (mid:=M) au' 0
   have hMr:=hMs.rd
   rw [Zu,jH] at hwk
   generalize dV c S M 0=Y at h11 h31 hMs VY hMr hwk ⊢
   refine aJ (⟨R,#[.int .i64 0,.int .i64 0,.int .i64 0,.bool false,.int .i64 0],43⟩::⟨Wb,#[.slice qm c.ws.length cm,ev1,o6,.bool c.one.on,.int .i64 c.one.frame,.int .i64 c.one.tag,.bool c.two.on,.int .i64 c.two.frame,.int .i64 c.two.tag,.int .i64 c.pk.cpu,.bool c.pk.fill,.bool c.pk.aO,.bool c.pk.walk,.int .i64 c.pk.drop,.bool c.pk.use,pR],215⟩::(he1++hd1++hr1)) (cnt1 hle1) ?_
   refine run ?_
   intro F1 F2
   refine aj _ rfl (fun hc2=>?_) (fun hc2=>?_)
   ·refine run ?_
    rw [hc2,cond_true] at hwk
    refine iw 10 ?_
    refine dN 3 2 [0,1] [2] (aI.mk F2 #[.int .i64 Y.f.kind,.int .i64 Y.f.stage,.int .i64 Y.f.level,.bool true,.int .i64 Y.f.page] 43::aI.mk F1 #[.bool Y.a.r,.bool Y.a.w,.bool Y.a.x,.bool Y.a.af,.bool Y.a.ng,.int .i64 0] 112::⟨Wb,#[.slice qm c.ws.length cm,ev1,o6,.bool c.one.on,.int .i64 c.one.frame,.int .i64 c.one.tag,.bool c.two.on,.int .i64 c.two.frame,.int .i64 c.two.tag,.int .i64 c.pk.cpu,.bool c.pk.fill,.bool c.pk.aO,.bool c.pk.walk,.int .i64 c.pk.drop,.bool c.pk.use,pR],215⟩::(he1++hd1++hr1)) ?_
    refine dh ?_
    refine aV (b:=R) (tb:=43) (cs:=#[.int .i64 0,.int .i64 0,.int .i64 0,.bool false,.int .i64 0]) (cs':=#[.int .i64 Y.f.kind,.int .i64 Y.f.stage,.int .i64 Y.f.level,.bool true,.int .i64 Y.f.page]) (hp':=aI.mk F2 #[.int .i64 Y.f.kind,.int .i64 Y.f.stage,.int .i64 Y.f.level,.bool true,.int .i64 Y.f.page] 43::aI.mk F1 #[.bool Y.a.r,.bool Y.a.w,.bool Y.a.x,.bool Y.a.af,.bool Y.a.ng,.int .i64 0] 112::⟨Wb,#[.slice qm c.ws.length cm,ev1,o6,.bool c.one.on,.int .i64 c.one.frame,.int .i64 c.one.tag,.bool c.two.on,.int .i64 c.two.frame,.int .i64 c.two.tag,.int .i64 c.pk.cpu,.bool c.pk.fill,.bool c.pk.aO,.bool c.pk.walk,.int .i64 c.pk.drop,.bool c.pk.use,pR],215⟩::(he1++hd1++hr1)) ?_ au
    refine aH ?_
    refine di ?_
    refine run ?_
    rw [show (!decide (({ Y.f with walk:=true }:nD).kind=0))=true from hc2,cond_true] at hwk
    exact vU (cs:=#[.int .i64 Y.f.kind,.int .i64 Y.f.stage,.int .i64 Y.f.level,.bool true,.int .i64 Y.f.page]) ⟨_,rfl,ev1,o6,pR,he1,hd1,hr1,by rw [← hwk],by rw [← hwk];exact h11,h21,by rw [← hwk];exact h31,by (exact ak)⟩
   ·rw [hc2,cond_false] at hwk
    obtain ⟨JD,XG,Zw⟩:=VY (by simpa using hc2)
    rw [show decide (0<lv)=decide ((0:Int)<(lv:Int)) by rw [Bool.eq_iff_iff];simp] at hwk
    refine az ?_
    refine aj _ rfl (fun hc3=>?_) (fun hc3=>?_)
    ·rw [hc3,cond_true] at hwk
     refine run ?_
     have ag1:0<lv:=by rw [Bool.and_eq_true] at hc3;simpa using hc3.1
     have hcut:∀ wc,Fn Tryz.prog 177 [.int .i64 ((lv:Int) - 1),.int .i64 (c.page:Int)].toArray wc [] (fun u _=>u=.int .i64 (kL (lv - 1) c.page:Int)):=fun wc=>by
      rw [show (lv:Int) - 1=((lv - 1:Nat):Int) by omega]
      exact VP (lv - 1) au' c.page hk.page wc
     have hfl:=fun {wc:World} (ha:aB wc ev1 14 (Y.s.es.map bI)) (hb:aB wc o6 4 (ds.map dJ))=>EM Y.s.es ds (x8 c lv Y.n) _ _ ha hb aA3 au'
     refine iR 23 [0,1,2,3,4,5,6,7,8,9,10,11,12,13,14,15,16,17,18,19,20,21] [22] [] [23,24] [25] ?_
     refine fB ?_
     refine AZ (fun wc hx hG=>hcut wc) ?_
     refine fB ?_
     refine iW (fun wc hG=>hfl (h11.lie (fun b hb=>hG.here b aw9) (by have:=hMs.es.may;rw [List.length_map];omega)) (h21.lie (fun b hb=>hG.here b aw9) av3)) (KY _ ds (Dv _ _ aA3) au') ?_
     refine gZ ?_
     rintro u5 Sm ⟨v5,h5,v6,h6,rfl,A8,EW,wH⟩
     obtain ⟨q5,c5,e5⟩:=A8.own.opened
     rw [List.length_map] at e5
     subst e5
     obtain ⟨q6,c6,e6⟩:=EW.own.opened
     rw [List.length_map] at e6
     subst e6
     refine fC ?_
     refine jU ?_
     refine rP ?_
     refine fC ?_
     simp only [DN,List.cons_append,List.nil_append,List.append_nil]
     refine aV (b:=Wb) (tb:=215) (cs:=#[.slice qm c.ws.length cm,ev1,o6,.bool c.one.on,.int .i64 c.one.frame,.int .i64 c.one.tag,.bool c.two.on,.int .i64 c.two.frame,.int .i64 c.two.tag,.int .i64 c.pk.cpu,.bool c.pk.fill,.bool c.pk.aO,.bool c.pk.walk,.int .i64 c.pk.drop,.bool c.pk.use,pR]) (cs':=#[.slice qm c.ws.length cm,.slice q5 (fG Y.s.es (x8 c lv Y.n)).length c5,.slice q6 ds.length c6,.bool c.one.on,.int .i64 c.one.frame,.int .i64 c.one.tag,.bool c.two.on,.int .i64 c.two.frame,.int .i64 c.two.tag,.int .i64 c.pk.cpu,.bool c.pk.fill,.bool c.pk.aO,.bool c.pk.walk,.int .i64 c.pk.drop,.bool c.pk.use,pR]) (hp':=Sm++(⟨F2,#[.int .i64 Y.f.kind,.int .i64 Y.f.stage,.int .i64 Y.f.level,.bool Y.f.walk,.int .i64 Y.f.page],43⟩::aI.mk F1 #[.bool Y.a.r,.bool Y.a.w,.bool Y.a.x,.bool Y.a.af,.bool Y.a.ng,.int .i64 0] 112::⟨R,#[.int .i64 0,.int .i64 0,.int .i64 0,.bool false,.int .i64 0],43⟩::(he1++hd1++hr1))) ?_ au
     refine aH ?_
     refine di ?_
     refine run ?_
     exact dA (Y.n,⟨fG Y.s.es (x8 c lv Y.n),Y.s.rd⟩,.slice q5 (fG Y.s.es (x8 c lv Y.n)).length c5,.slice q6 ds.length c6,pR,h5,h6,hr1) ⟨JD,zY hMs.es (Bi hk ag1 au' JD) JD,by dsimp only;omega,hwk,A8.own,EW.own,h31⟩ (h2:=by (exact cnt1 wH))
    ·refine run ?_
     rw [hc3,cond_false] at hwk
     exact dA (Y.n,Y.s,ev1,o6,pR,he1,hd1,hr1) ⟨JD,hMs.es,by dsimp only;omega,hwk,h11,h21,h31⟩ (h2:=by (exact ak))
  ·refine run ?_
   have VZ:dS c.ws.length f0=true:=by
    rcases hf0 with ⟨e,_⟩ | h
    ·rw [e] at hc1;simp at hc1
    ·exact h
   exact dA (f0,S,ev,dv,rv,he,hd,hr) ⟨VZ,yx,by dsimp only;omega,by rw [← hwk,hc1];rfl,h1,h2,h3⟩
 rintro ⟨f1,S1,ev1,o6,pR,he1,hd1,hr1⟩ ⟨VZ,UF,XH,kD,h1',h2',h3'⟩
 dsimp only at VZ UF XH kD h1' h2' h3' ⊢
 clear hwk h1 h2 h3 yx hrd hf0
 have ao2:=XH
 refine run ?_
 intro T
 refine xI (c:=dH f1) (⟨T,#[.int .i64 f1],3⟩::⟨R,#[.int .i64 0,.int .i64 0,.int .i64 0,.bool false,.int .i64 0],43⟩::⟨Wb,#[.slice qm c.ws.length cm,ev1,o6,.bool c.one.on,.int .i64 c.one.frame,.int .i64 c.one.tag,.bool c.two.on,.int .i64 c.two.frame,.int .i64 c.two.tag,.int .i64 c.pk.cpu,.bool c.pk.fill,.bool c.pk.aO,.bool c.pk.walk,.int .i64 c.pk.drop,.bool c.pk.use,pR],215⟩::(he1++hd1)) h3' (fun v' ha' hA'=>?_) aw0 (bT (m:=1) mh rfl) (hperm:=by (exact au))
 rw [show S1.rd.map dH++[dH f1]=(S1.rd++[f1]).map dH by simp] at hA'
 obtain ⟨q4,c4,e4⟩:=hA'.opened
 rw [List.length_map] at e4
 subst e4
 refine aJ (⟨R,#[.int .i64 0,.int .i64 0,.int .i64 0,.bool false,.int .i64 0],43⟩::⟨Wb,#[.slice qm c.ws.length cm,ev1,o6,.bool c.one.on,.int .i64 c.one.frame,.int .i64 c.one.tag,.bool c.two.on,.int .i64 c.two.frame,.int .i64 c.two.tag,.int .i64 c.pk.cpu,.bool c.pk.fill,.bool c.pk.aO,.bool c.pk.walk,.int .i64 c.pk.drop,.bool c.pk.use,pR],215⟩::(he1++hd1++ha')) ak ?_
 refine run ?_
 refine ax (fun wc hG=>GV c.ws hk.uZ (hm'.good hG) 1 (.inl rfl) lv hl f1 VZ c.page hk.page au') ?_
 rw [show Jk 1 lv (c.ws.getD (sK f1 lv c.page) 0)=Cc c.ws 1 (sK f1 lv c.page) lv from rfl]
 rw [show 4 - lv=(3 - lv) + 1 by omega,rX] at kD
 have hmay:=rQ c.ws 1 (sK f1 lv c.page) lv
 generalize Cc c.ws 1 (sK f1 lv c.page) lv=d at kD hmay ⊢
 obtain ⟨hkk,hk0,hk1,hk2⟩:=jT hmay
 refine run ?_
 intro D
 refine run ?_
 refine aj _ rfl (fun hc2=>?_) (fun hc2=>?_)
 ·have UG:d.kind=1:=by simpa using hc2
  obtain ⟨k1,k2,k3,k4⟩:=hk1 UG
  rw [hc2,cond_true] at kD
  refine run ?_
  refine bH (lv + 1,-1,d.frame,⟨S1.es,S1.rd++[f1]⟩,ev1,o6,.slice q4 (S1.rd++[f1]).length c4,he1,hd1,ha') ⟨by dsimp only;omega,.inl ⟨rfl,k2,k3⟩,UF,by dsimp only;simp only [List.length_append,List.length_singleton];omega,?_,h1',h2',hA'⟩ (hm:=by dsimp only;omega) (h2:=by (exact ak))
  rw [← kD,show 4 - (lv + 1)=3 - lv by omega]
  rfl
 rw [hc2,cond_false] at kD
 refine run ?_
 refine aj _ rfl (fun hc3=>?_) (fun hc3=>?_)
 ·rw [hc3,cond_true] at kD
  refine run ?_
  exact vU (cs:=#[.int .i64 2,.int .i64 1,.int .i64 (lv:Int),.bool false,.int .i64 (c.page:Int)]) ⟨_,rfl,ev1,o6,.slice q4 (S1.rd++[f1]).length c4,he1,hd1,ha',by rw [← kD],by rw [← kD];exact h1',h2',by rw [← kD];exact hA',by (exact ak)⟩
 rw [hc3,cond_false] at kD
 have Ny:d.kind=2:=by simp at hc2 hc3;omega
 obtain ⟨k1,k2,k3,k4,k5⟩:=hk2 Ny
 obtain ⟨hlf,Py⟩:=qL hmay Ny hl c.page
 have hcv:=jc hl
 have hmod:=Nat.mod_lt c.page (show 0<aP lv by omega)
 rw [vO] at kD
 refine run ?_
 refine ax (fun wc hG=>KG d.r d.w d.x d.af d.ng d.soft c.acc 1 lv c.page wc) ?_
 generalize gQ d.r d.w d.x d.af c.acc 1 lv c.page=G at kD ⊢
 refine run ?_
 intro F
 refine aj _ rfl (fun hc4=>?_) (fun hc4=>?_)
 ·rw [hc4,cond_true] at kD
  refine run ?_
  refine iw 10 ?_
  refine dN 3 2 [0,1] [2] (⟨F,#[.int .i64 G.kind,.int .i64 G.stage,.int .i64 G.level,.bool G.walk,.int .i64 G.page],43⟩::⟨D,#[.int .i64 d.kind,.int .i64 d.frame,.bool d.r,.bool d.w,.bool d.x,.bool d.af,.bool d.ng,.int .i64 d.soft,.int .i64 d.note],258⟩::⟨Wb,#[.slice qm c.ws.length cm,ev1,o6,.bool c.one.on,.int .i64 c.one.frame,.int .i64 c.one.tag,.bool c.two.on,.int .i64 c.two.frame,.int .i64 c.two.tag,.int .i64 c.pk.cpu,.bool c.pk.fill,.bool c.pk.aO,.bool c.pk.walk,.int .i64 c.pk.drop,.bool c.pk.use,.slice q4 (S1.rd++[f1]).length c4],215⟩::(he1++hd1++ha')) ?_
  refine dh ?_
  refine aV (b:=R) (tb:=43) (cs:=#[.int .i64 0,.int .i64 0,.int .i64 0,.bool false,.int .i64 0]) (cs':=#[.int .i64 G.kind,.int .i64 G.stage,.int .i64 G.level,.bool G.walk,.int .i64 G.page]) (hp':=⟨F,#[.int .i64 G.kind,.int .i64 G.stage,.int .i64 G.level,.bool G.walk,.int .i64 G.page],43⟩::⟨D,#[.int .i64 d.kind,.int .i64 d.frame,.bool d.r,.bool d.w,.bool d.x,.bool d.af,.bool d.ng,.int .i64 d.soft,.int .i64 d.note],258⟩::⟨Wb,#[.slice qm c.ws.length cm,ev1,o6,.bool c.one.on,.int .i64 c.one.frame,.int .i64 c.one.tag,.bool c.two.on,.int .i64 c.two.frame,.int .i64 c.two.tag,.int .i64 c.pk.cpu,.bool c.pk.fill,.bool c.pk.aO,.bool c.pk.walk,.int .i64 c.pk.drop,.bool c.pk.use,.slice q4 (S1.rd++[f1]).length c4],215⟩::(he1++hd1++ha')) ?_ au
  refine aH ?_
  refine di ?_
  refine run ?_
  exact vU (cs:=#[.int .i64 G.kind,.int .i64 G.stage,.int .i64 G.level,.bool G.walk,.int .i64 G.page]) ⟨_,rfl,ev1,o6,.slice q4 (S1.rd++[f1]).length c4,he1,hd1,ha',by rw [← kD],by rw [← kD];exact h1',h2',by rw [← kD];exact hA',by (exact ak)⟩
 rw [hc4,cond_false] at kD
 refine run ?_
 refine iw 12 ?_
 refine eU ?_
 refine cu ?_
 refine jY (fun wc hG=>qG lv hl wc) ?_
 refine qo (fP rfl rfl c.page (aP lv) rfl rfl au') ?_
 refine cu ?_
 refine run ?_
 rw [show d.frame + ((c.page % aP lv:Nat):Int)=((iG c lv d:Nat):Int) by unfold iG;omega]
 have hlm:iG c lv d≤4095:=hlf
 generalize iG c lv d=M at kD hlm ⊢
 refine dK (⟨Wb,#[.slice qm c.ws.length cm,ev1,o6,.bool c.one.on,.int .i64 c.one.frame,.int .i64 c.one.tag,.bool c.two.on,.int .i64 c.two.frame,.int .i64 c.two.tag,.int .i64 c.pk.cpu,.bool c.pk.fill,.bool c.pk.aO,.bool c.pk.walk,.int .i64 c.pk.drop,.bool c.pk.use,.slice q4 (S1.rd++[f1]).length c4],215⟩::(he1++hd1++ha')) [⟨F,#[.int .i64 G.kind,.int .i64 G.stage,.int .i64 G.level,.bool G.walk,.int .i64 G.page],43⟩,⟨D,#[.int .i64 d.kind,.int .i64 d.frame,.bool d.r,.bool d.w,.bool d.x,.bool d.af,.bool d.ng,.int .i64 d.soft,.int .i64 d.note],258⟩,⟨R,#[.int .i64 0,.int .i64 0,.int .i64 0,.bool false,.int .i64 0],43⟩] (fun wc hG=>Bh c hk.uZ hk.mem hk.on (bQ.iF hk.two).1.1 ⟨S1.es,S1.rd++[f1]⟩ ds M au' c.acc UF ax5 (hm'.into hG) h1' h2' hA' hG.dG) ?_ au
 rintro u1 hn1 ⟨wM,yY,E8,he2,hd2,hr2,rfl,h11,h21,h31,hle1⟩
 simp only [Sl] at hle1
 obtain ⟨hMs,VY⟩:=pO hk (s:=⟨S1.es,S1.rd++[f1]⟩) UF (mid:=M) au' c.acc
 generalize dV c ⟨S1.es,S1.rd++[f1]⟩ M c.acc=Y at h11 h31 hMs VY kD ⊢
 refine aJ (⟨F,#[.int .i64 G.kind,.int .i64 G.stage,.int .i64 G.level,.bool G.walk,.int .i64 G.page],43⟩::⟨D,#[.int .i64 d.kind,.int .i64 d.frame,.bool d.r,.bool d.w,.bool d.x,.bool d.af,.bool d.ng,.int .i64 d.soft,.int .i64 d.note],258⟩::⟨R,#[.int .i64 0,.int .i64 0,.int .i64 0,.bool false,.int .i64 0],43⟩::⟨Wb,#[.slice qm c.ws.length cm,wM,yY,.bool c.one.on,.int .i64 c.one.frame,.int .i64 c.one.tag,.bool c.two.on,.int .i64 c.two.frame,.int .i64 c.two.tag,.int .i64 c.pk.cpu,.bool c.pk.fill,.bool c.pk.aO,.bool c.pk.walk,.int .i64 c.pk.drop,.bool c.pk.use,E8],215⟩::(he2++hd2++hr2)) (cnt1 hle1) ?_
 refine run ?_
 intro A
 refine aj _ rfl (fun hc5=>?_) (fun hc5=>?_)
 ·rw [hc5,cond_true] at kD
  refine run ?_
  refine iw 10 ?_
  refine dN 3 2 [0,1] [2] (⟨F,#[.int .i64 Y.f.kind,.int .i64 Y.f.stage,.int .i64 Y.f.level,.bool Y.f.walk,.int .i64 Y.f.page],43⟩::⟨D,#[.int .i64 d.kind,.int .i64 d.frame,.bool d.r,.bool d.w,.bool d.x,.bool d.af,.bool d.ng,.int .i64 d.soft,.int .i64 d.note],258⟩::⟨Wb,#[.slice qm c.ws.length cm,wM,yY,.bool c.one.on,.int .i64 c.one.frame,.int .i64 c.one.tag,.bool c.two.on,.int .i64 c.two.frame,.int .i64 c.two.tag,.int .i64 c.pk.cpu,.bool c.pk.fill,.bool c.pk.aO,.bool c.pk.walk,.int .i64 c.pk.drop,.bool c.pk.use,E8],215⟩::(he2++hd2++hr2)) ?_
  refine dh ?_
  refine aV (b:=R) (tb:=43) (cs:=#[.int .i64 0,.int .i64 0,.int .i64 0,.bool false,.int .i64 0]) (cs':=#[.int .i64 Y.f.kind,.int .i64 Y.f.stage,.int .i64 Y.f.level,.bool Y.f.walk,.int .i64 Y.f.page]) (hp':=⟨F,#[.int .i64 Y.f.kind,.int .i64 Y.f.stage,.int .i64 Y.f.level,.bool Y.f.walk,.int .i64 Y.f.page],43⟩::aI.mk A #[.bool Y.a.r,.bool Y.a.w,.bool Y.a.x,.bool Y.a.af,.bool Y.a.ng,.int .i64 0] 112::⟨D,#[.int .i64 d.kind,.int .i64 d.frame,.bool d.r,.bool d.w,.bool d.x,.bool d.af,.bool d.ng,.int .i64 d.soft,.int .i64 d.note],258⟩::⟨Wb,#[.slice qm c.ws.length cm,wM,yY,.bool c.one.on,.int .i64 c.one.frame,.int .i64 c.one.tag,.bool c.two.on,.int .i64 c.two.frame,.int .i64 c.two.tag,.int .i64 c.pk.cpu,.bool c.pk.fill,.bool c.pk.aO,.bool c.pk.walk,.int .i64 c.pk.drop,.bool c.pk.use,E8],215⟩::(he2++hd2++hr2)) ?_ au
  refine aH ?_
  refine di ?_
  refine run ?_
  exact vU (cs:=#[.int .i64 Y.f.kind,.int .i64 Y.f.stage,.int .i64 Y.f.level,.bool Y.f.walk,.int .i64 Y.f.page]) ⟨_,rfl,wM,yY,E8,he2,hd2,hr2,by rw [← kD],by rw [← kD];exact h11,h21,by rw [← kD];exact h31,by (exact ak)⟩
 rw [hc5,cond_false] at kD
 obtain ⟨JD,XG,Zw⟩:=VY (by simpa using hc5)
 refine run ?_
 refine aj _ rfl (fun hc6=>?_) (fun hc6=>?_)
 ·rw [hc6,cond_true] at kD
  refine run ?_
  intro Z
  refine ax (fun wc hG=>UE ⟨d.r,d.w,d.x,d.af,d.ng⟩ Y.a d.soft 0 (dL (xs:=([((⟨d.r,d.w,d.x,d.af,d.ng⟩:AtD),d.soft),(Y.a,(0:Int))].map Sr)) (hG.here ⟨Z,#[.bool d.r,.bool d.w,.bool d.x,.bool d.af,.bool d.ng,.int .i64 d.soft,.bool Y.a.r,.bool Y.a.w,.bool Y.a.x,.bool Y.a.af,.bool Y.a.ng,.int .i64 0],112⟩ mh) (by simp [Sr]) av4)) ?_
  simp only [lZ]
  refine run ?_
  intro B
  have hfl:=fun {wc:World} (ha:aB wc wM 14 (Y.s.es.map bI)) (hb:aB wc yY 4 (ds.map dJ))=>EM Y.s.es ds (yU c Y.n M d Y.a) _ _ ha hb aA3 au'
  refine iR 24 [0,1,2,3,4,5,6,7,8,9,10,11,12,13,14,15,16,17,18,19,20,21,22] [23] [] [24,25] [26] ?_
  refine fB ?_
  refine iW (fun wc hG=>hfl (h11.lie (fun b hb=>hG.here b aw9) (by have:=hMs.es.may;rw [List.length_map];omega)) (h21.lie (fun b hb=>hG.here b aw9) av3)) (KY _ ds (Dv _ _ aA3) au') ?_
  refine gZ ?_
  rintro u5 Sm ⟨v5,h5,v6,h6,rfl,A8,EW,wH⟩
  obtain ⟨q5,c5,e5⟩:=A8.own.opened
  rw [List.length_map] at e5
  subst e5
  obtain ⟨q6,c6,e6⟩:=EW.own.opened
  rw [List.length_map] at e6
  subst e6
  refine fC ?_
  refine jU ?_
  refine rP ?_
  refine fC ?_
  simp only [DN,List.cons_append,List.nil_append,List.append_nil]
  refine aV (b:=Wb) (tb:=215) (cs:=#[.slice qm c.ws.length cm,wM,yY,.bool c.one.on,.int .i64 c.one.frame,.int .i64 c.one.tag,.bool c.two.on,.int .i64 c.two.frame,.int .i64 c.two.tag,.int .i64 c.pk.cpu,.bool c.pk.fill,.bool c.pk.aO,.bool c.pk.walk,.int .i64 c.pk.drop,.bool c.pk.use,E8]) (cs':=#[.slice qm c.ws.length cm,.slice q5 (fG Y.s.es (yU c Y.n M d Y.a)).length c5,.slice q6 ds.length c6,.bool c.one.on,.int .i64 c.one.frame,.int .i64 c.one.tag,.bool c.two.on,.int .i64 c.two.frame,.int .i64 c.two.tag,.int .i64 c.pk.cpu,.bool c.pk.fill,.bool c.pk.aO,.bool c.pk.walk,.int .i64 c.pk.drop,.bool c.pk.use,E8]) (hp':=Sm++(aI.mk B #[.bool (d.r && Y.a.r),.bool (d.w && Y.a.w),.bool (d.x && Y.a.x),.bool (d.af && Y.a.af),.bool (d.ng || Y.a.ng),.int .i64 0] 112::aI.mk Z #[.bool d.r,.bool d.w,.bool d.x,.bool d.af,.bool d.ng,.int .i64 d.soft,.bool Y.a.r,.bool Y.a.w,.bool Y.a.x,.bool Y.a.af,.bool Y.a.ng,.int .i64 0] 112::⟨F,#[.int .i64 Y.f.kind,.int .i64 Y.f.stage,.int .i64 Y.f.level,.bool Y.f.walk,.int .i64 Y.f.page],43⟩::aI.mk A #[.bool Y.a.r,.bool Y.a.w,.bool Y.a.x,.bool Y.a.af,.bool Y.a.ng,.int .i64 0] 112::⟨D,#[.int .i64 d.kind,.int .i64 d.frame,.bool d.r,.bool d.w,.bool d.x,.bool d.af,.bool d.ng,.int .i64 d.soft,.int .i64 d.note],258⟩::⟨R,#[.int .i64 0,.int .i64 0,.int .i64 0,.bool false,.int .i64 0],43⟩::(he2++hd2++hr2))) ?_ au
  refine aH ?_
  refine di ?_
  refine aJ (⟨R,#[.int .i64 0,.int .i64 0,.int .i64 0,.bool false,.int .i64 0],43⟩::⟨Wb,#[.slice qm c.ws.length cm,.slice q5 (fG Y.s.es (yU c Y.n M d Y.a)).length c5,.slice q6 ds.length c6,.bool c.one.on,.int .i64 c.one.frame,.int .i64 c.one.tag,.bool c.two.on,.int .i64 c.two.frame,.int .i64 c.two.tag,.int .i64 c.pk.cpu,.bool c.pk.fill,.bool c.pk.aO,.bool c.pk.walk,.int .i64 c.pk.drop,.bool c.pk.use,E8],215⟩::(h5++h6++hr2)) (cnt1 wH) ?_
  refine run ?_
  exact vU (cs:=#[.int .i64 0,.int .i64 0,.int .i64 0,.bool false,.int .i64 0]) ⟨_,rfl,.slice q5 (fG Y.s.es (yU c Y.n M d Y.a)).length c5,.slice q6 ds.length c6,E8,h5,h6,hr2,by rw [← kD];rfl,by rw [← kD];exact A8.own,EW.own,by rw [← kD];exact h31,by (exact ak)⟩
 ·rw [hc6,cond_false] at kD
  refine run ?_
  exact vU (cs:=#[.int .i64 0,.int .i64 0,.int .i64 0,.bool false,.int .i64 0]) ⟨_,rfl,wM,yY,E8,he2,hd2,hr2,by rw [← kD];rfl,by rw [← kD];exact h11,h21,by rw [← kD];exact h31,by (exact ak)⟩
end
section
attribute [local irreducible] Hy St Ops DH gB iH iq fK DS fA jX
theorem Fa {fn:Func} {R:Value→Hp→Prop} {l:Fm} {hp:Hp} {s0 s2 a t b a2 t2 b2:Nat} {cs cs2:Array Value} {tb tb2:TypeId} {v v2:Value} (h:R (.tuple #[v,.agg cs,.agg cs2,v2]) hp) (hr:fn.results=#[.tmp s0,.cell a t,.cell a2 t2,.tmp s2]:=by rfl) (h0:look l s0=some v:=by rfl) (hv:look l a=some (.pointer (some ⟨b,0,none⟩)):=by rfl) (hw:look l a2=some (.pointer (some ⟨b2,0,none⟩)):=by rfl) (h3:look l s2=some v2:=by rfl) (hag:mem Tb.ag t=true:=by rfl) (hm:(⟨b,cs,tb⟩:aI)∈hp:=by (first | (with_reducible apply mh) | (focus ((repeat (first | (with_reducible apply mh) | (with_reducible apply mt) | (with_reducible apply List.mem_append_right)));done)))) (hz:lk Tb.sz t=some cs.size:=by rfl) (wF:mem Tb.ag t2=true:=by rfl) (hm2:(⟨b2,cs2,tb2⟩:aI)∈hp:=by (first | (with_reducible apply mh) | (focus ((repeat (first | (with_reducible apply mh) | (with_reducible apply mt) | (with_reducible apply List.mem_append_right)));done)))) (hz2:lk Tb.sz t2=some cs2.size:=by rfl):Fin Tryz.prog fn R .ret l hp:=
 ⟨.inl rfl,[v,.agg cs,.agg cs2,v2],by rw [hr];exact ⟨h0,⟨⟨b,cs,tb⟩,hm,hv,.inr ⟨ay.zH hag,ay.tH hz,rfl⟩⟩,⟨⟨b2,cs2,tb2⟩,hm2,hw,.inr ⟨ay.zH wF,ay.tH hz2,rfl⟩⟩,h3,trivial⟩,h⟩
theorem Own.ptr {e sz:Nat} {xs:List (List Value)} {p:Option Addr} {n cp:Nat} {hb:Hp} (hA:Own e sz (.slice p n cp) hb xs) (h:xs ≠ []):∃ b o,p=some ⟨b,o,none⟩:=by
 rcases hA.2 with ⟨e1,_,_⟩ | ⟨g,cap,cur,e1,_,_⟩
 ·exact absurd e1 h
 ·injection e1 with e1 _ _
  exact ⟨g,0,e1⟩
def Ce (w0:World) (mu:List Nat) (hb:Hp) (v:Value) (sz:Nat) (xs:List (List Value)):Prop:=∀ hp w,(∀ b∈hb,b∈hp)→Good w0 mu hp w→aB w v sz xs
theorem Ce.old {w0:World} {v:Value} {sz:Nat} {xs:List (List Value)} (h:aB w0 v sz xs):Ce w0 [] [] v sz xs:=fun hp w _ hG=>(dP.old h).good hG
theorem Ce.own {w0:World} {mu:List Nat} {e sz:Nat} {v:Value} {hb:Hp} {xs:List (List Value)} (hA:Own e sz v hb xs) (hl:xs.length≤1000000):Ce w0 mu hb v sz xs:=fun hp w hb' hG=>hA.lie (fun b hb=>hG.here b (hb' b hb)) au'
set_option maxHeartbeats 2000000 in
theorem Nz (c:kW) (hk:kX c) {w:World} {mv tv dv:Value} (es:List bg) (ds:List dB) (hE:gU c.ws.length es ds) (hm:aB w mv 1 (c.ws.map uV)) (ht:aB w tv 14 (es.map bI)) (hcap:∃ q cp,tv=.slice q es.length cp∧es.length≤cp) (hd:aB w dv 4 (ds.map dJ)):
  Fn Tryz.prog 127 [.agg #[mv],.agg #[tv,dv],.agg (iK c.one).toArray,.agg (iK c.two).toArray,.int .i64 (c.page:Int),.int .i64 c.acc,.agg (mM c.pk).toArray].toArray w [] (fun u hn=>∃ X:zD,X=nX c es∧∃ ev' rZ rv' he' hd' hr',u=.tuple #[.int .i64 X.n,xZ X.f,.agg #[ev',rZ],rv']∧Own 114 14 ev' he' (X.s.es.map bI)∧Own 121 4 rZ hd' (ds.map dJ)∧Own 3 1 rv' hr' (X.s.rd.map dH)∧aF (he'++hd'++hr') hn):=by
 have hm':=hm
 have ht':=ht
 have hd1:=hd
 have hcap':=hcap
 obtain ⟨qm,cm,rfl,_,_⟩:=hm.opened
 obtain ⟨qe,ce,rfl,hle⟩:=hcap
 obtain ⟨qd,cd,rfl,_,_⟩:=hd.opened
 have hTp:es ≠ []→∃ b o,qe=some ⟨b,o,none⟩:=by
  obtain ⟨q',c',e',h',_⟩:=ht.opened
  injection e' with e1 _ _
  subst e1
  exact h'
 have BV:=bD hk.mem
 have hem:=hE.may
 refine enter Tryz.func127 ?_
 refine run ?_
 intro B
 refine az ?_
 intro C
 refine az ?_
 intro D E F G H
 refine az ?_
 have hE':=zZ hE c.pk.drop
 have hAc:nX c es=lX c (kN es c.pk.drop):=rfl
 refine dX (σ:=Value × Value × Hp × Hp) (fun _=>[]) (fun z=>⟨H,#[.slice none 0 0,.slice none 0 0],77⟩::⟨G,#[.int .i64 0,.int .i64 0,.int .i64 0,.bool false,.int .i64 0],43⟩::⟨F,(mM c.pk).toArray,51⟩::⟨E,(iK c.two).toArray,33⟩::⟨D,(iK c.one).toArray,33⟩::⟨C,#[z.1,z.2.1],77⟩::⟨B,#[.slice qm c.ws.length cm],24⟩::(z.2.2.1++z.2.2.2)) (fun z=>((∃ q cp,z.1=.slice q (kN es c.pk.drop).length cp∧(0<(kN es c.pk.drop).length→∃ b o,q=some ⟨b,o,none⟩))∧Ce w [] z.2.2.1 z.1 14 ((kN es c.pk.drop).map bI))∧(∃ q n cp,z.2.1=.slice q n cp)∧Ce w [] z.2.2.2 z.2.1 4 (ds.map dJ)) ?_ ?_
 ·refine aj _ rfl (fun hc=>?_) (fun hc=>?_)
  ·have hdl:kN es c.pk.drop=es.eraseIdx c.pk.drop.toNat:=by unfold kN;rw [hc];rfl
   rw [hdl]
   rw [Bool.and_eq_true,decide_eq_true_eq,decide_eq_true_eq] at hc
   have hdz:c.pk.drop=((c.pk.drop.toNat:Nat):Int):=by omega
   refine run ?_
   have hdr:=fun {wc:World} (ha:aB wc (.slice qe es.length ce) 14 (es.map bI)) (hb:aB wc (.slice qd ds.length cd) 4 (ds.map dJ))=>Ut es ds c.pk.drop.toNat au' _ _ ha hcap' hb au' au'
   rw [← hdz] at hdr
   refine gX (fun wc hG=>hdr ((dP.old ht').good hG) ((dP.old hd1).good hG)) ?_
   rintro u5 Sm ⟨v5,h5,v6,h6,rfl,A8,EW,wH⟩
   obtain ⟨q5,c5,e5⟩:=A8.opened
   rw [List.length_map] at e5
   subst e5
   obtain ⟨q6,c6,e6⟩:=EW.own.opened
   rw [List.length_map] at e6
   subst e6
   refine aJ (⟨H,#[.slice none 0 0,.slice none 0 0],77⟩::⟨G,#[.int .i64 0,.int .i64 0,.int .i64 0,.bool false,.int .i64 0],43⟩::⟨F,(mM c.pk).toArray,51⟩::⟨E,(iK c.two).toArray,33⟩::⟨D,(iK c.one).toArray,33⟩::⟨C,#[.slice qe es.length ce,.slice qd ds.length cd],77⟩::⟨B,#[.slice qm c.ws.length cm],24⟩::(h5++h6)) (cnt1 wH) ?_
   refine run ?_
   exact dA (_,_,h5,h6) ⟨⟨⟨_,_,rfl,fun h=>A8.ptr (by intro e;rw [List.map_eq_nil_iff] at e;rw [e] at h;simp at h)⟩,Ce.own A8 (by rw [List.length_map];have:=(List.eraseIdx_sublist es c.pk.drop.toNat).length_le;omega)⟩,⟨_,_,_,rfl⟩,Ce.own EW.own av3⟩ (h2:=by (exact cnt1 wH))
  ·refine run ?_
   rw [show kN es c.pk.drop=es by unfold kN;rw [hc];rfl]
   exact dA (.slice qe es.length ce,.slice qd ds.length cd,[],[]) ⟨⟨⟨_,_,rfl,fun h=>hTp (by intro e;subst e;simp at h)⟩,Ce.old ht'⟩,⟨_,_,_,rfl⟩,Ce.old hd1⟩ (h2:=by (exact ak))
 rw [hAc]
 clear hAc
 generalize kN es c.pk.drop=es at hE' ⊢
 have ag2:=hE'.may
 rintro ⟨tv,dv,h1,h2⟩ ⟨⟨⟨qt,ct,etv,hTn⟩,hT⟩,hDv,hD⟩
 dsimp only at etv hTn hT hDv hD ⊢
 refine run ?_
 have hall:aF ([]:Hp) []:=aF.refl _
 refine dN 8 2 [0,1,3,4,5] [2,6,7] (⟨H,#[.slice none 0 0,.slice none 0 0],77⟩::⟨G,#[.int .i64 0,.int .i64 0,.int .i64 0,.bool false,.int .i64 0],43⟩::⟨F,(mM c.pk).toArray,51⟩::⟨E,(iK c.two).toArray,33⟩::⟨D,(iK c.one).toArray,33⟩::⟨C,#[tv,dv],77⟩::⟨B,#[.slice qm c.ws.length cm],24⟩::(h1++h2)) ?_
 refine dh ?_
 refine uy (fun wc hG=>ve es ds _ _ (hT _ _ (fun b hb=>by simp [hb]) hG) (hD _ _ (fun b hb=>by simp [hb]) hG) au' au') ?_
 rintro u5 Sm ⟨v5,h5,v6,h6,rfl,A8,EW,wH⟩
 refine Ew (out:=#[.slice qm c.ws.length cm,v5,v6,.bool c.one.on,.int .i64 c.one.frame,.int .i64 c.one.tag,.bool c.two.on,.int .i64 c.two.frame,.int .i64 c.two.tag,.int .i64 c.pk.cpu,.bool c.pk.fill,.bool c.pk.aO,.bool c.pk.walk,.int .i64 c.pk.drop,.bool c.pk.use,.slice none 0 0]) (out':=#[.slice qm c.ws.length cm,v5,v6,.bool c.one.on,.int .i64 c.one.frame,.int .i64 c.one.tag,.bool c.two.on,.int .i64 c.two.frame,.int .i64 c.two.tag,.int .i64 c.pk.cpu,.bool c.pk.fill,.bool c.pk.aO,.bool c.pk.walk,.int .i64 c.pk.drop,.bool c.pk.use,.slice none 0 0]) ?_ (hf:=by kernel_rfl) (hn:=rfl)
 refine Zv (fun Wb=>?_)
 refine aH ?_
 refine di ?_
 obtain ⟨q5,c5,e5⟩:=A8.own.opened
 obtain ⟨q6,c6,e6⟩:=EW.own.opened
 rw [List.length_map] at e5 e6
 subst e5 e6
 refine aJ (⟨Wb,#[.slice qm c.ws.length cm,.slice q5 es.length c5,.slice q6 ds.length c6,.bool c.one.on,.int .i64 c.one.frame,.int .i64 c.one.tag,.bool c.two.on,.int .i64 c.two.frame,.int .i64 c.two.tag,.int .i64 c.pk.cpu,.bool c.pk.fill,.bool c.pk.aO,.bool c.pk.walk,.int .i64 c.pk.drop,.bool c.pk.use,.slice none 0 0],215⟩::⟨H,#[.slice none 0 0,.slice none 0 0],77⟩::⟨G,#[.int .i64 0,.int .i64 0,.int .i64 0,.bool false,.int .i64 0],43⟩::⟨F,(mM c.pk).toArray,51⟩::⟨E,(iK c.two).toArray,33⟩::⟨D,(iK c.one).toArray,33⟩::⟨C,#[tv,dv],77⟩::⟨B,#[.slice qm c.ws.length cm],24⟩::(h5++h6++(h1++h2))) (cnt1 wH) ?_
 refine run ?_
 refine aj _ rfl (fun hc=>?_) (fun hc=>?_)
 ·have hP:lX c es=⟨(dV c ⟨es,[]⟩ c.page c.acc).s,(dV c ⟨es,[]⟩ c.page c.acc).n,(dV c ⟨es,[]⟩ c.page c.acc).f⟩:=by unfold lX;rw [hc];rfl
  rw [hP]
  refine run ?_
  refine dK (⟨Wb,#[.slice qm c.ws.length cm,.slice q5 es.length c5,.slice q6 ds.length c6,.bool c.one.on,.int .i64 c.one.frame,.int .i64 c.one.tag,.bool c.two.on,.int .i64 c.two.frame,.int .i64 c.two.tag,.int .i64 c.pk.cpu,.bool c.pk.fill,.bool c.pk.aO,.bool c.pk.walk,.int .i64 c.pk.drop,.bool c.pk.use,.slice none 0 0],215⟩::(h5++h6++[])) (⟨H,#[.slice none 0 0,.slice none 0 0],77⟩::⟨G,#[.int .i64 0,.int .i64 0,.int .i64 0,.bool false,.int .i64 0],43⟩::⟨F,(mM c.pk).toArray,51⟩::⟨E,(iK c.two).toArray,33⟩::⟨D,(iK c.one).toArray,33⟩::⟨C,#[tv,dv],77⟩::⟨B,#[.slice qm c.ws.length cm],24⟩::(h1++h2)) (fun wc hG=>Bh c hk.uZ hk.mem hk.on (bQ.iF hk.two).1.1 ⟨es,[]⟩ ds c.page hk.page c.acc hE' av4 ((dP.old hm').into hG) A8.own EW.own (Own.nil _ _) hG.dG) ?_ au
  rintro u1 hn1 ⟨wM,yY,E8,he2,hd2,hr2,rfl,h11,h21,h31,hle1⟩
  simp only [Sl] at hle1
  generalize dV c ⟨es,[]⟩ c.page c.acc=Y at h11 h31 ⊢
  refine aJ (⟨Wb,#[.slice qm c.ws.length cm,wM,yY,.bool c.one.on,.int .i64 c.one.frame,.int .i64 c.one.tag,.bool c.two.on,.int .i64 c.two.frame,.int .i64 c.two.tag,.int .i64 c.pk.cpu,.bool c.pk.fill,.bool c.pk.aO,.bool c.pk.walk,.int .i64 c.pk.drop,.bool c.pk.use,E8],215⟩::⟨H,#[.slice none 0 0,.slice none 0 0],77⟩::⟨G,#[.int .i64 0,.int .i64 0,.int .i64 0,.bool false,.int .i64 0],43⟩::(he2++hd2++hr2)) (cnt1 hle1) ?_
  refine run ?_
  intro A1 A2
  obtain ⟨q7,c7,e7⟩:=h11.opened
  obtain ⟨q8,c8,e8⟩:=h21.opened
  obtain ⟨q9,c9,e9⟩:=h31.opened
  rw [List.length_map] at e7 e8 e9
  subst e7 e8 e9
  refine iw 14 ?_
  refine dN 13 11 [0,1,2,3,4,5,6,7,8,9,10] [11,12] (⟨A2,#[.int .i64 Y.f.kind,.int .i64 Y.f.stage,.int .i64 Y.f.level,.bool Y.f.walk,.int .i64 Y.f.page],43⟩::⟨Wb,#[.slice qm c.ws.length cm,.slice q7 Y.s.es.length c7,.slice q8 ds.length c8,.bool c.one.on,.int .i64 c.one.frame,.int .i64 c.one.tag,.bool c.two.on,.int .i64 c.two.frame,.int .i64 c.two.tag,.int .i64 c.pk.cpu,.bool c.pk.fill,.bool c.pk.aO,.bool c.pk.walk,.int .i64 c.pk.drop,.bool c.pk.use,.slice q9 Y.s.rd.length c9],215⟩::(he2++hd2++hr2)) ?_
  refine dh ?_
  refine aV (b:=G) (tb:=43) (cs:=#[.int .i64 0,.int .i64 0,.int .i64 0,.bool false,.int .i64 0]) (cs':=#[.int .i64 Y.f.kind,.int .i64 Y.f.stage,.int .i64 Y.f.level,.bool Y.f.walk,.int .i64 Y.f.page]) (hp':=⟨H,#[.slice none 0 0,.slice none 0 0],77⟩::⟨A2,#[.int .i64 Y.f.kind,.int .i64 Y.f.stage,.int .i64 Y.f.level,.bool Y.f.walk,.int .i64 Y.f.page],43⟩::aI.mk A1 #[.bool Y.a.r,.bool Y.a.w,.bool Y.a.x,.bool Y.a.af,.bool Y.a.ng,.int .i64 0] 112::⟨Wb,#[.slice qm c.ws.length cm,.slice q7 Y.s.es.length c7,.slice q8 ds.length c8,.bool c.one.on,.int .i64 c.one.frame,.int .i64 c.one.tag,.bool c.two.on,.int .i64 c.two.frame,.int .i64 c.two.tag,.int .i64 c.pk.cpu,.bool c.pk.fill,.bool c.pk.aO,.bool c.pk.walk,.int .i64 c.pk.drop,.bool c.pk.use,.slice q9 Y.s.rd.length c9],215⟩::(he2++hd2++hr2)) ?_ au
  refine aV (b:=H) (tb:=77) (cs:=#[.slice none 0 0,.slice none 0 0]) (cs':=#[.slice q7 Y.s.es.length c7,.slice q8 ds.length c8]) (hp':=⟨G,#[.int .i64 Y.f.kind,.int .i64 Y.f.stage,.int .i64 Y.f.level,.bool Y.f.walk,.int .i64 Y.f.page],43⟩::⟨A2,#[.int .i64 Y.f.kind,.int .i64 Y.f.stage,.int .i64 Y.f.level,.bool Y.f.walk,.int .i64 Y.f.page],43⟩::aI.mk A1 #[.bool Y.a.r,.bool Y.a.w,.bool Y.a.x,.bool Y.a.af,.bool Y.a.ng,.int .i64 0] 112::⟨Wb,#[.slice qm c.ws.length cm,.slice q7 Y.s.es.length c7,.slice q8 ds.length c8,.bool c.one.on,.int .i64 c.one.frame,.int .i64 c.one.tag,.bool c.two.on,.int .i64 c.two.frame,.int .i64 c.two.tag,.int .i64 c.pk.cpu,.bool c.pk.fill,.bool c.pk.aO,.bool c.pk.walk,.int .i64 c.pk.drop,.bool c.pk.use,.slice q9 Y.s.rd.length c9],215⟩::(he2++hd2++hr2)) ?_ au
  refine aH ?_
  refine di ?_
  refine run ?_
  exact Fa (cs:=#[.int .i64 Y.f.kind,.int .i64 Y.f.stage,.int .i64 Y.f.level,.bool Y.f.walk,.int .i64 Y.f.page]) (cs2:=#[.slice q7 Y.s.es.length c7,.slice q8 ds.length c8]) ⟨_,rfl,_,_,_,he2,hd2,hr2,rfl,h11,h21,h31,by (exact ak)⟩
 have hon:c.one.on=true:=by simpa using hc
 have hP:lX c es=bif c.pk.use && decide (0≤iD c es) then ⟨⟨es,[]⟩,(es.getD (iD c es).toNat default).frame,jQ⟩ else vS c es:=by unfold lX;rw [hc];rfl
 rw [hP]
 clear hP
 refine run ?_
 refine dX (σ:=Unit) (fun _=>[]) (fun _=>⟨Wb,#[.slice qm c.ws.length cm,.slice q5 es.length c5,.slice q6 ds.length c6,.bool c.one.on,.int .i64 c.one.frame,.int .i64 c.one.tag,.bool c.two.on,.int .i64 c.two.frame,.int .i64 c.two.tag,.int .i64 c.pk.cpu,.bool c.pk.fill,.bool c.pk.aO,.bool c.pk.walk,.int .i64 c.pk.drop,.bool c.pk.use,.slice none 0 0],215⟩::⟨H,#[.slice none 0 0,.slice none 0 0],77⟩::⟨G,#[.int .i64 0,.int .i64 0,.int .i64 0,.bool false,.int .i64 0],43⟩::⟨F,(mM c.pk).toArray,51⟩::⟨E,(iK c.two).toArray,33⟩::⟨D,(iK c.one).toArray,33⟩::⟨C,#[tv,dv],77⟩::⟨B,#[.slice qm c.ws.length cm],24⟩::(h5++h6++(h1++h2))) (fun _=>(c.pk.use && decide (0≤iD c es))=false) ?_ ?_
 ·refine aj _ rfl (fun hc2=>?_) (fun hc2=>?_)
  ·refine run ?_
   refine ax (fun wc hG=>Qx es c.two.tag c.one.tag c.page c.acc tv dv (hT _ _ (fun b hb=>by simp [hb]) hG) hDv) ?_
   rw [show fM (kz c.two.tag c.one.tag c.page c.acc) es=iD c es from rfl]
   refine run ?_
   refine aj _ rfl (fun hc3=>?_) (fun hc3=>?_)
   ·rw [show (c.pk.use && decide (0≤iD c es))=true by rw [hc2,hc3];rfl,cond_true]
    obtain ⟨hlt,_⟩:=Bj (p:=kz c.two.tag c.one.tag c.page c.acc) (l:=es) (of_decide_eq_true hc3)
    replace hlt:(iD c es).toNat<es.length:=hlt
    have hz0:0≤iD c es:=of_decide_eq_true hc3
    generalize iD c es=z at hlt hz0 ⊢
    obtain ⟨kb,ko,rfl⟩:=hTn au'
    subst etv
    have hcell:=fun (hp1:Hp) (w1:World) (hsub:∀ b∈h1,b∈hp1) (hG:Good w [] hp1 w1)=>(hT hp1 w1 hsub hG).row hlt 6 (.int .i64 (es.getD z.toNat default).frame) rfl
    refine run ?_
    refine iw 14 ?_
    refine dN 14 12 [0,1,2,3,4,5,6,7,8,9,10,11] [12,13] (⟨Wb,#[.slice qm c.ws.length cm,.slice q5 es.length c5,.slice q6 ds.length c6,.bool c.one.on,.int .i64 c.one.frame,.int .i64 c.one.tag,.bool c.two.on,.int .i64 c.two.frame,.int .i64 c.two.tag,.int .i64 c.pk.cpu,.bool c.pk.fill,.bool c.pk.aO,.bool c.pk.walk,.int .i64 c.pk.drop,.bool c.pk.use,.slice none 0 0],215⟩::⟨F,(mM c.pk).toArray,51⟩::⟨E,(iK c.two).toArray,33⟩::⟨D,(iK c.one).toArray,33⟩::⟨C,#[.slice (some ⟨kb,ko,none⟩) es.length ct,dv],77⟩::⟨B,#[.slice qm c.ws.length cm],24⟩::(h5++h6++(h1++h2))) ?_
    refine dh ?_
    refine Et av2 ax1 (fun hx=>E5 rfl rfl (fun w1 hG=>hcell _ w1 (fun b hb=>by simp [hb]) hG)) ?_
    refine dh ?_
    refine aV (b:=G) (tb:=43) (cs:=#[.int .i64 0,.int .i64 0,.int .i64 0,.bool false,.int .i64 0]) (cs':=#[.int .i64 0,.int .i64 0,.int .i64 0,.bool false,.int .i64 0]) (hp':=⟨H,#[.slice none 0 0,.slice none 0 0],77⟩::⟨Wb,#[.slice qm c.ws.length cm,.slice q5 es.length c5,.slice q6 ds.length c6,.bool c.one.on,.int .i64 c.one.frame,.int .i64 c.one.tag,.bool c.two.on,.int .i64 c.two.frame,.int .i64 c.two.tag,.int .i64 c.pk.cpu,.bool c.pk.fill,.bool c.pk.aO,.bool c.pk.walk,.int .i64 c.pk.drop,.bool c.pk.use,.slice none 0 0],215⟩::⟨F,(mM c.pk).toArray,51⟩::⟨E,(iK c.two).toArray,33⟩::⟨D,(iK c.one).toArray,33⟩::⟨C,#[.slice (some ⟨kb,ko,none⟩) es.length ct,dv],77⟩::⟨B,#[.slice qm c.ws.length cm],24⟩::(h5++h6++(h1++h2))) ?_ au
    refine aV (b:=H) (tb:=77) (cs:=#[.slice none 0 0,.slice none 0 0]) (cs':=#[.slice q5 es.length c5,.slice q6 ds.length c6]) (hp':=⟨G,#[.int .i64 0,.int .i64 0,.int .i64 0,.bool false,.int .i64 0],43⟩::⟨Wb,#[.slice qm c.ws.length cm,.slice q5 es.length c5,.slice q6 ds.length c6,.bool c.one.on,.int .i64 c.one.frame,.int .i64 c.one.tag,.bool c.two.on,.int .i64 c.two.frame,.int .i64 c.two.tag,.int .i64 c.pk.cpu,.bool c.pk.fill,.bool c.pk.aO,.bool c.pk.walk,.int .i64 c.pk.drop,.bool c.pk.use,.slice none 0 0],215⟩::⟨F,(mM c.pk).toArray,51⟩::⟨E,(iK c.two).toArray,33⟩::⟨D,(iK c.one).toArray,33⟩::⟨C,#[.slice (some ⟨kb,ko,none⟩) es.length ct,dv],77⟩::⟨B,#[.slice qm c.ws.length cm],24⟩::(h5++h6++(h1++h2))) ?_ au
    refine aH ?_
    refine di ?_
    refine run ?_
    exact Fa (cs:=#[.int .i64 0,.int .i64 0,.int .i64 0,.bool false,.int .i64 0]) (cs2:=#[.slice q5 es.length c5,.slice q6 ds.length c6]) ⟨_,rfl,_,_,_,h5,h6,[],rfl,A8.own,EW.own,Own.nil _ _,by (exact ak)⟩
   ·refine run ?_
    exact dA () (by rw [hc3];simp)
  ·refine run ?_
   exact dA () (by rw [hc2];rfl)
 rintro ⟨⟩ hcut
 rw [hcut,cond_false]
 refine run ?_
 refine dX (σ:=Int × Int) (fun z=>[(23,.int .i64 z.1),(24,.int .i64 z.2)]) (fun _=>⟨Wb,#[.slice qm c.ws.length cm,.slice q5 es.length c5,.slice q6 ds.length c6,.bool c.one.on,.int .i64 c.one.frame,.int .i64 c.one.tag,.bool c.two.on,.int .i64 c.two.frame,.int .i64 c.two.tag,.int .i64 c.pk.cpu,.bool c.pk.fill,.bool c.pk.aO,.bool c.pk.walk,.int .i64 c.pk.drop,.bool c.pk.use,.slice none 0 0],215⟩::⟨H,#[.slice none 0 0,.slice none 0 0],77⟩::⟨G,#[.int .i64 0,.int .i64 0,.int .i64 0,.bool false,.int .i64 0],43⟩::⟨F,(mM c.pk).toArray,51⟩::⟨E,(iK c.two).toArray,33⟩::⟨D,(iK c.one).toArray,33⟩::⟨C,#[tv,dv],77⟩::⟨B,#[.slice qm c.ws.length cm],24⟩::(h5++h6++(h1++h2))) (fun z=>∃ lv:Nat,z.1=(lv:Int)∧lv<4∧(z.2=-1∧lv=0∨dS c.ws.length z.2=true)∧(bif decide (z.2<0) then vP c ⟨es,[]⟩ else rX c (4 - lv) lv z.2 ⟨es,[]⟩)=vS c es) ?_ ?_
 ·refine aj _ rfl (fun hc2=>?_) (fun hc2=>?_)
  ·refine run ?_
   refine ax (fun wc hG=>Us es ag2.1 c.two.tag c.one.tag c.page hk.page tv dv (hT _ _ (fun b hb=>by simp [hb]) hG) hDv) ?_
   rw [show eX es (oC c.two.tag c.one.tag c.page) es.length=fD c es from rfl]
   refine run ?_
   refine aj _ rfl (fun hc3=>?_) (fun hc3=>?_)
   ·obtain ⟨hlt,hl1,hl3,hfr⟩:=yf hE' (of_decide_eq_true hc3)
    have hpw:vS c es=rX c (4 - (es.getD (fD c es).toNat default).level.toNat) (es.getD (fD c es).toNat default).level.toNat (es.getD (fD c es).toNat default).frame ⟨es,[]⟩:=by unfold vS;rw [hc2,hc3];rfl
    have hz0:0≤fD c es:=of_decide_eq_true hc3
    rw [hpw]
    clear hpw hc3
    generalize fD c es=z at hlt hz0 hl1 hl3 hfr ⊢
    obtain ⟨kb,ko,rfl⟩:=hTn au'
    subst etv
    have hcell:=fun (hp1:Hp) (w1:World) (hsub:∀ b∈h1,b∈hp1) (hG:Good w [] hp1 w1)=>(hT hp1 w1 hsub hG).row hlt
    refine run ?_
    refine iw 23 ?_
    refine iw 24 ?_
    refine eU ?_
    refine cu ?_
    refine qo (E5 rfl rfl (fun w1 hG=>hcell _ w1 (fun b hb=>by simp [hb]) hG 5 (.int .i64 (es.getD z.toNat default).level) rfl)) ?_
    refine cu ?_
    refine qo (E5 rfl rfl (fun w1 hG=>hcell _ w1 (fun b hb=>by simp [hb]) hG 6 (.int .i64 (es.getD z.toNat default).frame) rfl)) ?_
    refine cu ?_
    refine run ?_
    exact dA ((es.getD z.toNat default).level,(es.getD z.toNat default).frame) ⟨(es.getD z.toNat default).level.toNat,by omega,by omega,.inr hfr,by rw [show decide ((es.getD z.toNat default).frame<0)=false from decide_eq_false (by have:=jy hfr;omega)];rfl⟩
   ·refine run ?_
    exact dA (0,-1) ⟨0,rfl,by omega,.inl ⟨rfl,rfl⟩,by unfold vS;rw [hc3,Bool.and_false];rfl⟩
  ·refine run ?_
   exact dA (0,-1) ⟨0,rfl,by omega,.inl ⟨rfl,rfl⟩,by unfold vS;rw [hc2];rfl⟩
 rintro ⟨lvi,fr⟩ ⟨lv,elv,hlv,hfr,hX⟩
 dsimp only at elv hfr hX ⊢
 subst elv
 rw [← hX]
 refine run ?_
 refine dK (⟨Wb,#[.slice qm c.ws.length cm,.slice q5 es.length c5,.slice q6 ds.length c6,.bool c.one.on,.int .i64 c.one.frame,.int .i64 c.one.tag,.bool c.two.on,.int .i64 c.two.frame,.int .i64 c.two.tag,.int .i64 c.pk.cpu,.bool c.pk.fill,.bool c.pk.aO,.bool c.pk.walk,.int .i64 c.pk.drop,.bool c.pk.use,.slice none 0 0],215⟩::(h5++h6++[])) (⟨H,#[.slice none 0 0,.slice none 0 0],77⟩::⟨G,#[.int .i64 0,.int .i64 0,.int .i64 0,.bool false,.int .i64 0],43⟩::⟨F,(mM c.pk).toArray,51⟩::⟨E,(iK c.two).toArray,33⟩::⟨D,(iK c.one).toArray,33⟩::⟨C,#[tv,dv],77⟩::⟨B,#[.slice qm c.ws.length cm],24⟩::(h1++h2)) (fun wc hG=>QT c hk ⟨es,[]⟩ ds lv hlv fr hfr hE' av4 ((dP.old hm').into hG) A8.own EW.own (Own.nil _ _) hG.dG) ?_ au
 rintro u1 hn1 ⟨Y,hY,wM,yY,E8,he2,hd2,hr2,rfl,h11,h21,h31,hle1⟩
 rw [← hY]
 clear hX hY
 simp only [Sl] at hle1
 obtain ⟨q7,c7,e7⟩:=h11.opened
 obtain ⟨q8,c8,e8⟩:=h21.opened
 obtain ⟨q9,c9,e9⟩:=h31.opened
 rw [List.length_map] at e7 e8 e9
 subst e7 e8 e9
 refine aJ (⟨Wb,#[.slice qm c.ws.length cm,.slice q7 Y.s.es.length c7,.slice q8 ds.length c8,.bool c.one.on,.int .i64 c.one.frame,.int .i64 c.one.tag,.bool c.two.on,.int .i64 c.two.frame,.int .i64 c.two.tag,.int .i64 c.pk.cpu,.bool c.pk.fill,.bool c.pk.aO,.bool c.pk.walk,.int .i64 c.pk.drop,.bool c.pk.use,.slice q9 Y.s.rd.length c9],215⟩::⟨H,#[.slice none 0 0,.slice none 0 0],77⟩::⟨G,#[.int .i64 0,.int .i64 0,.int .i64 0,.bool false,.int .i64 0],43⟩::(he2++hd2++hr2)) (cnt1 hle1) ?_
 refine run ?_
 intro A2
 refine run ?_
 refine iw 14 ?_
 refine dN 13 11 [0,1,2,3,4,5,6,7,8,9,10] [11,12] (⟨A2,#[.int .i64 Y.f.kind,.int .i64 Y.f.stage,.int .i64 Y.f.level,.bool Y.f.walk,.int .i64 Y.f.page],43⟩::⟨Wb,#[.slice qm c.ws.length cm,.slice q7 Y.s.es.length c7,.slice q8 ds.length c8,.bool c.one.on,.int .i64 c.one.frame,.int .i64 c.one.tag,.bool c.two.on,.int .i64 c.two.frame,.int .i64 c.two.tag,.int .i64 c.pk.cpu,.bool c.pk.fill,.bool c.pk.aO,.bool c.pk.walk,.int .i64 c.pk.drop,.bool c.pk.use,.slice q9 Y.s.rd.length c9],215⟩::(he2++hd2++hr2)) ?_
 refine dh ?_
 refine aV (b:=G) (tb:=43) (cs:=#[.int .i64 0,.int .i64 0,.int .i64 0,.bool false,.int .i64 0]) (cs':=#[.int .i64 Y.f.kind,.int .i64 Y.f.stage,.int .i64 Y.f.level,.bool Y.f.walk,.int .i64 Y.f.page]) (hp':=⟨H,#[.slice none 0 0,.slice none 0 0],77⟩::⟨A2,#[.int .i64 Y.f.kind,.int .i64 Y.f.stage,.int .i64 Y.f.level,.bool Y.f.walk,.int .i64 Y.f.page],43⟩::⟨Wb,#[.slice qm c.ws.length cm,.slice q7 Y.s.es.length c7,.slice q8 ds.length c8,.bool c.one.on,.int .i64 c.one.frame,.int .i64 c.one.tag,.bool c.two.on,.int .i64 c.two.frame,.int .i64 c.two.tag,.int .i64 c.pk.cpu,.bool c.pk.fill,.bool c.pk.aO,.bool c.pk.walk,.int .i64 c.pk.drop,.bool c.pk.use,.slice q9 Y.s.rd.length c9],215⟩::(he2++hd2++hr2)) ?_ au
 refine aV (b:=H) (tb:=77) (cs:=#[.slice none 0 0,.slice none 0 0]) (cs':=#[.slice q7 Y.s.es.length c7,.slice q8 ds.length c8]) (hp':=⟨G,#[.int .i64 Y.f.kind,.int .i64 Y.f.stage,.int .i64 Y.f.level,.bool Y.f.walk,.int .i64 Y.f.page],43⟩::⟨A2,#[.int .i64 Y.f.kind,.int .i64 Y.f.stage,.int .i64 Y.f.level,.bool Y.f.walk,.int .i64 Y.f.page],43⟩::⟨Wb,#[.slice qm c.ws.length cm,.slice q7 Y.s.es.length c7,.slice q8 ds.length c8,.bool c.one.on,.int .i64 c.one.frame,.int .i64 c.one.tag,.bool c.two.on,.int .i64 c.two.frame,.int .i64 c.two.tag,.int .i64 c.pk.cpu,.bool c.pk.fill,.bool c.pk.aO,.bool c.pk.walk,.int .i64 c.pk.drop,.bool c.pk.use,.slice q9 Y.s.rd.length c9],215⟩::(he2++hd2++hr2)) ?_ au
 refine aH ?_
 refine di ?_
 refine run ?_
 exact Fa (cs:=#[.int .i64 Y.f.kind,.int .i64 Y.f.stage,.int .i64 Y.f.level,.bool Y.f.walk,.int .i64 Y.f.page]) (cs2:=#[.slice q7 Y.s.es.length c7,.slice q8 ds.length c8]) ⟨_,rfl,_,_,_,he2,hd2,hr2,rfl,h11,h21,h31,by (exact ak)⟩
def lQ (n:Nat) (es:List bg):Bool:=es.all fun e=>decide (e.frame<((n / 8:Nat):Int))
def Cf (one two:bQ):Bool:=one.may && two.may && two.on
def wI (n:Nat) (es:List bg) (ds:List dB) (one two:bQ) (page acc:Int):Bool:=dQ n && bK es ds && Cf one two && PtD.bY page 0 4095 && PtD.bY acc 0 2 && lQ n es
theorem QU (r:bQ) (w:World):Fn Tryz.prog 81 [.agg (iK r).toArray].toArray w [] (fun u _=>u=.bool r.may):=by
 refine enter Tryz.func81 ?_
 refine run ?_
 intro B
 refine az ?_
 refine ax (fun wc hG=>rO r.frame wc) ?_
 refine az ?_
 refine aZ (fun _ wc hG=>uG r.tag 15 wc) ?_
 refine az ?_
 exact fin1 rfl
theorem Zx (one two:bQ) (w:World):Fn Tryz.prog 45 [.agg (iK one).toArray,.agg (iK two).toArray].toArray w [] (fun u _=>u=.bool (Cf one two)):=by
 refine enter Tryz.func45 ?_
 refine run ?_
 intro B C
 refine az ?_
 refine ax (fun wc hG=>QU one wc) ?_
 refine az ?_
 refine aZ (fun _ wc hG=>QU two wc) ?_
 refine az ?_
 exact fin1 rfl
theorem XI (n cap:Nat) (hn:n<4611686018427387904) (q:Option Addr) (es:List bg) {w:World} {v u:Value} (h:aB w v 14 (es.map bI)) (hu:∃ p n c,u=.slice p n c):Fn Tryz.prog 46 [.agg #[.slice q n cap],.agg #[v,u]].toArray w [] (fun u _=>u=.bool (lQ n es)):=by
 obtain ⟨q1,c1,rfl,hne,hle⟩:=h.opened
 obtain ⟨q2,n2,c2,rfl⟩:=hu
 refine enter Tryz.func46 ?_
 refine run ?_
 intro B
 refine run ?_
 intro C
 refine run ?_
 refine cO (σ:=Nat) (fun k=>[(5,.int .i64 (k:Int))]) (fun _=>[⟨C,#[.slice q1 es.length c1,.slice q2 n2 c2],77⟩,⟨B,#[.slice q n cap],24⟩]) (fun k=>k≤es.length∧lQ n (es.take k)=true) (fun k=>es.length - k) 0 ⟨by omega,rfl⟩ ?_
 rintro k m hm ⟨hk,hT⟩
 refine run ?_
 refine aj _ rfl (fun hc=>?_) (fun hc=>?_)
 ·have hlt:k<es.length:=by simp at hc;omega
  obtain ⟨b,o,rfl⟩:=hne av5
  have hrow:=h.row hlt
  have hcell:=hrow 6 (.int .i64 (es.getD k default).frame) rfl
  refine run ?_
  refine eU ?_
  refine cu ?_
  refine jY (fun wc hG=>uY n cap hn q wc) ?_
  refine cu ?_
  refine run ?_
  refine aj _ rfl (fun hc2=>?_) (fun hc2=>?_)
  ·refine run ?_
   refine fin1 ?_
   rw [show lQ n es=false by
    rw [lQ,List.all_eq_false]
    exact ⟨_,getD_mem hlt,by simp at hc2 ⊢;omega⟩]
  ·refine run ?_
   refine bH (k + 1) ⟨hlt,?_⟩
   rw [gI hlt,lQ,List.all_append,Bool.and_eq_true]
   exact ⟨hT,by simp at hc2 ⊢;omega⟩
 ·have:k=es.length:=by simp at hc;omega
  subst this
  refine run ?_
  rw [List.take_length] at hT
  refine fin1 ?_
  rw [hT]
theorem UH {c:kW} {es:List bg} {ds:List dB} (hw:tu c.ws) (h:wI c.ws.length es ds c.one c.two (c.page:Int) c.acc=true):kX c∧gU c.ws.length es ds∧0≤c.acc∧c.acc≤2:=by
 simp only [wI,Cf,Bool.and_eq_true] at h
 obtain ⟨⟨⟨⟨⟨h1,h2⟩,⟨h3,h4⟩,h5⟩,h6⟩,h7⟩,h8⟩:=h
 have h6':(0:Int)≤c.page∧(c.page:Int)≤4095:=by simpa [PtD.bY] using h6
 refine ⟨⟨hw,h1,h3,h4,h5,by omega⟩,⟨h2,fun e he=>?_⟩,by simpa [PtD.bY] using h7⟩
 have h9:=List.all_eq_true.1 h8 e he
 have h10:=(dO h2).1 e he
 simp only [bg.may,bg.nums,PtD.bY,Bool.and_eq_true,decide_eq_true_eq] at h10
 simp only [dS,Bool.and_eq_true,decide_eq_true_eq]
 exact ⟨h10.1.1.1.2.1,of_decide_eq_true h9⟩
theorem Bo (n cap:Nat) (hn:n<4611686018427387904) (q:Option Addr) (w:World):Fn Tryz.prog 97 [.agg #[.slice q n cap]].toArray w [] (fun u _=>u=.int .i64 ((n / 8:Nat):Int)):=by
 refine enter Tryz.func97 ?_
 refine run ?_
 intro B
 refine run ?_
 refine eH av2 (lK rfl rfl n 8 av2 av2 av1 au') ?_
 refine run ?_
 exact fin1 rfl
theorem Dw (n cap:Nat) (hn:n<4611686018427387904) (q:Option Addr) (w:World):Fn Tryz.prog 60 [.agg #[.slice q n cap]].toArray w [] (fun u _=>u=.tuple #[.int .i64 (bif dQ n then ((n / 8:Nat):Int) else 0),.int .i64 (bif dQ n then 0 else 1)]):=by
 refine enter Tryz.func60 ?_
 refine run ?_
 intro B
 refine run ?_
 refine ax (fun wc hG=>xQ n cap hn q wc) ?_
 refine run ?_
 refine aj _ rfl (fun hc=>?_) (fun hc=>?_)
 ·have hm:dQ n=false:=by cases h:dQ n<;>simp [h] at hc ⊢
  refine run ?_
  refine fin2 ?_
  rw [hm];rfl
 ·have hm:dQ n=true:=by cases h:dQ n<;>simp [h] at hc ⊢
  refine run ?_
  refine ax (fun wc hG=>Bo n cap hn q wc) ?_
  refine run ?_
  refine fin2 ?_
  rw [hm];rfl
theorem UI (n cap:Nat) (hn:n<4611686018427387904) (q:Option Addr) (f:Int) (B:Nat) (w:World) (hB:w.cell? ⟨B,0,none⟩=some (.slice q n cap)):Fn Tryz.prog 239 ([]++[Value.int .i64 f]++[Value.pointer (some ⟨B,0,none⟩)]).toArray w [] (fun u _=>u=.bool (!dS n f)):=by
 have hr:w.rangeAt B 0 [.slice q n cap]:=fun j v hj=>by
  cases j with
  | zero=>simp at hj;subst hj;exact hB
  | succ j=>simp at hj
 refine enter Tryz.func239 ?_
 refine az ?_
 refine aZ (fun _ wc hG=>Bo n cap hn q wc) ?_
 refine az ?_
 refine fin1 ?_
 unfold dS
 rw [Bool.not_and]
 congr 1
 rw [← decide_not,← decide_not]
 congr 1<;>(rw [Bool.eq_iff_iff,decide_eq_true_eq,decide_eq_true_eq];omega)
theorem XJ (n cap:Nat) (hn:n<4611686018427387904) (q:Option Addr) (xs:List Int) {w:World} {v:Value} (h:aB w v 1 (xs.map dH)):Fn Tryz.prog 234 [.agg #[.slice q n cap],v].toArray w [] (fun u _=>u=.bool (xs.all (dS n))):=by
 refine enter Tryz.func234 ?_
 refine run ?_
 intro B
 refine run ?_
 refine ax (fun wc hG=>uN (us:=[.pointer (some ⟨B,0,none⟩)]) (fun x=>!dS n x) xs _ (h.good hG) (fun x _ w' ha=>UI n cap hn q x B w' ?_)) ?_
 ·obtain ⟨hp,hg⟩:=ha
  exact hg.cell (by rw [cell_of_block (hG.here _ mh)];rfl) av4
 refine run ?_
 refine fin1 ?_
 rw [← List.not_all_eq_any_not,Bool.not_not]
theorem XK (n cap:Nat) (hn:n<4611686018427387904) (q:Option Addr) (xs:List Int) {w:World} {v:Value} (h:aB w v 1 (xs.map dH)):Fn Tryz.prog 227 [.agg #[.slice q n cap],v].toArray w [] (fun u _=>u=.int .i64 (bif !dQ n then 1 else bif xs.all (dS n) then 0 else 2)):=by
 have h':=h
 obtain ⟨qv,cv,rfl,_,_⟩:=h.opened
 refine enter Tryz.func227 ?_
 refine run ?_
 intro B
 refine run ?_
 refine ax (fun wc hG=>Jm n cap hn q wc) ?_
 refine run ?_
 refine aj _ rfl (fun hc=>?_) (fun hc=>?_)
 ·refine run ?_
  refine fin1 ?_
  rw [hc];rfl
 ·refine run ?_
  refine ax (fun wc hG=>XJ n cap hn q xs ((dP.old h').good hG)) ?_
  refine run ?_
  rw [hc,cond_false]
  refine aj _ rfl (fun hc2=>?_) (fun hc2=>?_)
  ·refine run ?_
   refine fin1 ?_
   rw [show xs.all (dS n)=false by simpa using hc2];rfl
  ·refine run ?_
   refine fin1 ?_
   rw [show xs.all (dS n)=true by simpa using hc2];rfl
theorem aB.ag6 {w:World} {α:Type} {f:α→List Value} {xs:List α} {b o n cap sz i k c':Nat} (h:aB w (.slice (some ⟨b,o,none⟩) n cap) sz (xs.map f)) (hk:i + k≤xs.length):aB w (.slice (some ⟨b,o + i * sz,none⟩) k c') sz (((xs.drop i).take k).map f):=by
 obtain ⟨⟨q,c,e,hne⟩,hle⟩:=h
 injection e with e1 e2 e3
 subst e1 e3
 rw [List.length_map] at hle
 have hl:(((xs.drop i).take k).map f).length=k:=by rw [List.length_map,List.length_take,List.length_drop];omega
 refine ⟨⟨_,_,by rw [hl],fun hx=>?_⟩,by rw [hl];omega⟩
 obtain ⟨b',off,e,hr⟩:=hne (by intro e;rw [List.map_eq_nil_iff] at e;rw [e] at hx;simp at hx)
 injection e with e
 injection e with e1 e2 _
 subst e1 e2
 refine ⟨b,o + i * sz,rfl,fun j cc hj=>?_⟩
 rw [List.map_take,List.map_drop,List.getElem?_take] at hj
 split at hj
 ·rw [List.getElem?_drop] at hj
  have:=hr (i + j) cc hj
  rwa [Nat.add_mul,← Nat.add_assoc] at this
 ·cases hj
theorem Zy (n cap f:Nat) (hf:f * 8 + 8≤n) (hc:n≤cap) (hn:n<1000000) (b o:Nat) (w:World):Fn Tryz.prog 228 [.agg #[.slice (some ⟨b,o,none⟩) n cap],.int .i64 (f:Int)].toArray w [] (fun u _=>u=.slice (some ⟨b,o + f * 8,none⟩) 8 (cap - f * 8)):=by
 refine enter Tryz.func228 ?_
 refine run ?_
 intro B
 refine run ?_
 refine eH av2 (C9 ay rfl rfl rfl av2 au' au' au' au' (o':=o + f * 8) au' (m':=8) au' (c':=cap - f * 8) au') ?_
 refine run ?_
 exact fin1 rfl
theorem QV (ws:List Nat) (cap:Nat) (hm:dQ ws.length=true) (f:Int) (hf:dS ws.length f=true) (hc:ws.length≤cap) {w:World} {p:Option Addr} (h:aB w (.slice p ws.length cap) 1 (ws.map uV)):Fn Tryz.prog 217 [.agg #[.slice p ws.length cap],.int .i64 f].toArray w [] (fun u hn=>∃ v hv,u=.tuple #[v,.int .i64 0]∧Own 25 1 v hv (((ws.drop (f.toNat * 8)).take 8).map uV)∧aF hv hn):=by
 have BV:=bD hm
 have hfi:=jy hf
 have h':=h
 obtain ⟨q,c0,e,hne,_⟩:=h.opened
 injection e with e1 _ e3
 subst e1
 obtain ⟨b,o,rfl⟩:=hne (by intro e;rw [e] at BV;simp at BV)
 refine enter Tryz.func217 ?_
 refine run ?_
 intro B X
 refine ax (fun wc hG=>XK ws.length cap au' _ [f] (dL (xs:=[dH f]) (hG.here ⟨X,#[.int .i64 f],3⟩ mh) ax3 av4)) ?_
 rw [hm,show ([f]:List Int).all (dS ws.length)=true by simp [hf]]
 refine aX ?_
 obtain ⟨k,rfl⟩:∃ k:Nat,f=(k:Int):=⟨f.toNat,by omega⟩
 rw [Int.toNat_natCast] at hfi ⊢
 refine ax (fun wc hG=>Zy ws.length cap k au' hc au' b o wc) ?_
 refine run ?_
 have hcs:=fun {wc:World} (hG:aB wc (.slice (some ⟨b,o,none⟩) ws.length cap) 1 (ws.map uV))=>aB.ag6 hG (i:=k * 8) (k:=8) (c':=cap - k * 8) au'
 rw [Nat.mul_one] at hcs
 refine gX (fun wc hG=>rM _ (((ws.drop (k * 8)).take 8).map uV) (hcs ((dP.old h').good hG)) (fun c hc=>by obtain ⟨x,_,rfl⟩:=List.mem_map.1 hc;exact ⟨rfl,rfl⟩) aw0) ?_
 rintro v hv hO
 refine run ?_
 exact fin2 ⟨v,hv,rfl,hO,by (exact ak)⟩
theorem Bq (r w x af ng:Bool) (soft acc:Int) (W:World):Fn Tryz.prog 162 [.agg #[.bool r,.bool w,.bool x,.bool af,.bool ng,.int .i64 soft],.int .i64 acc].toArray W [] (fun u _=>u=.tuple #[.bool (vF r w x acc),.int .i64 (bif PtD.bY acc 0 2 then 0 else 1)]):=by
 have hb:∀ b0 b1 b2:Bool,decide (acc=0)=b0→decide (acc=1)=b1→decide (acc=2)=b2→PtD.bY acc 0 2=(b0 || b1 || b2):=by
  intro b0 b1 b2 h0 h1 h2
  subst h0 h1 h2
  unfold PtD.bY
  rw [Bool.eq_iff_iff]
  simp only [Bool.and_eq_true,Bool.or_eq_true,decide_eq_true_eq]
  omega
 refine enter Tryz.func162 ?_
 refine run ?_
 intro B
 refine aj _ rfl (fun hc=>?_) (fun hc=>?_)
 ·refine run ?_
  refine fin2 ?_
  have:acc=0:=of_decide_eq_true hc
  subst this
  simp [vF,PtD.bY]
 refine run ?_
 refine aj _ rfl (fun hc2=>?_) (fun hc2=>?_)
 ·refine run ?_
  refine fin2 ?_
  have:acc=1:=of_decide_eq_true hc2
  subst this
  simp [vF,PtD.bY]
 refine run ?_
 refine aj _ rfl (fun hc3=>?_) (fun hc3=>?_)
 ·refine run ?_
  refine fin2 ?_
  have:acc=2:=of_decide_eq_true hc3
  subst this
  simp [vF,PtD.bY]
 refine run ?_
 refine fin2 ?_
 rw [hb _ _ _ hc hc2 hc3]
 simp only [vF,hc,hc2,hc3]
 rfl
theorem KZ (r w x af ng:Bool) (soft acc stage level page:Int) (ha:PtD.bY acc 0 2=true) (W:World):Fn Tryz.prog 212 [.agg #[.bool r,.bool w,.bool x,.bool af,.bool ng,.int .i64 soft],.int .i64 acc,.int .i64 stage,.int .i64 level,.int .i64 page].toArray W [] (fun u _=>u=.tuple #[xZ (gQ r w x af acc stage level page),.int .i64 0]):=by
 refine enter Tryz.func212 ?_
 refine run ?_
 intro B R
 refine run ?_
 refine ax (fun wc hG=>Bq r w x af ng soft acc wc) ?_
 rw [ha]
 refine aX ?_
 intro F
 refine aX ?_
 refine aj _ rfl (fun hc=>?_) (fun hc=>?_)
 ·refine run ?_
  refine gG (cs:=#[.int .i64 3,.int .i64 stage,.int .i64 level,.bool false,.int .i64 page]) ?_
  simp only [gQ,hc,cond_true]
 refine run ?_
 refine aj _ rfl (fun hc2=>?_) (fun hc2=>?_)
 ·refine run ?_
  refine gG (cs:=#[.int .i64 0,.int .i64 0,.int .i64 0,.bool false,.int .i64 0]) ?_
  simp only [gQ,hc,hc2,cond_true,cond_false,Bool.not_true]
  rfl
 refine run ?_
 refine gG (cs:=#[.int .i64 4,.int .i64 stage,.int .i64 level,.bool false,.int .i64 page]) ?_
 simp only [gQ,hc,hc2,cond_true,cond_false,Bool.not_false]
theorem UJ (a b:AtD) (sa sb:Int) {w:World} {v:Value} (h:aB w v 6 ([(a,sa),(b,sb)].map Sr)):Fn Tryz.prog 210 [v].toArray w [] (fun u _=>u=.agg (Zl (lZ a b)).toArray):=by
 obtain ⟨q,cap,rfl,hne,hle⟩:=h.opened
 obtain ⟨b0,o0,rfl⟩:=hne av4
 rw [show ([(a,sa),(b,sb)]:List (AtD × Int)).length=2 from rfl] at h ⊢
 have r0:=h.row (k:=0) (by decide:0<2)
 have r1:=h.row (k:=1) (by decide:1<2)
 refine enter Tryz.func210 ?_
 refine run ?_
 intro R X
 refine run ?_
 refine cO (σ:=Nat × AtD) (fun z=>[(9,.int .i64 (z.1:Int))]) (fun z=>[⟨R,#[.bool false,.bool false,.bool false,.bool false,.bool false,.int .i64 0],112⟩,⟨X,#[.bool z.2.r,.bool z.2.w,.bool z.2.x,.bool z.2.af,.bool z.2.ng,.int .i64 0],112⟩]) (fun z=>z.1=0∧z.2=⟨true,true,true,true,false⟩∨z.1=1∧z.2=a∨z.1=2∧z.2=lZ a b) (fun z=>2 - z.1) (0,⟨true,true,true,true,false⟩) (.inl ⟨rfl,rfl⟩) ?_
 rintro ⟨k,x⟩ m hm hk
 dsimp only at hm hk ⊢
 rcases hk with ⟨e0,rfl⟩ | ⟨e0,rfl⟩ | ⟨e0,rfl⟩
 ·have hlt:k<2:=by omega
  have hr:w.rangeAt b0 (o0 + k * 6) (Sr (a,sa)):=by rw [e0];exact r0
  refine run ?_
  refine aj _ rfl (fun hc=>?_) (fun hc=>absurd hc aw0)
  refine aX ?_
  intro A
  refine aX ?_
  refine Az 31 [⟨R,#[.bool false,.bool false,.bool false,.bool false,.bool false,.int .i64 0],112⟩,⟨A,#[.bool a.r,.bool a.w,.bool a.x,.bool a.af,.bool a.ng,.int .i64 sa],112⟩] ?_
  refine KU ?_
  refine run ?_
  exact bH (k + 1,⟨true && a.r,true && a.w,true && a.x,true && a.af,false || a.ng⟩) (.inr (.inl ⟨by dsimp only;omega,by simp⟩)) (hm:=by dsimp only;omega) (h2:=by (exact ak))
 ·have hlt:k<2:=by omega
  have hr:w.rangeAt b0 (o0 + k * 6) (Sr (b,sb)):=by rw [e0];exact r1
  refine run ?_
  refine aj _ rfl (fun hc=>?_) (fun hc=>absurd hc aw0)
  refine aX ?_
  intro A
  refine aX ?_
  refine Az 31 [⟨R,#[.bool false,.bool false,.bool false,.bool false,.bool false,.int .i64 0],112⟩,⟨A,#[.bool b.r,.bool b.w,.bool b.x,.bool b.af,.bool b.ng,.int .i64 sb],112⟩] ?_
  refine KU ?_
  refine run ?_
  exact bH (k + 1,⟨x.r && b.r,x.w && b.w,x.x && b.x,x.af && b.af,x.ng || b.ng⟩) (.inr (.inr ⟨by dsimp only;omega,rfl⟩)) (hm:=by dsimp only;omega) (h2:=by (exact ak))
 ·refine run ?_
  refine aj _ rfl (fun hc=>absurd hc aw0) (fun hc=>?_)
  refine run ?_
  exact gK (cs:=#[.bool (lZ a b).r,.bool (lZ a b).w,.bool (lZ a b).x,.bool (lZ a b).af,.bool (lZ a b).ng,.int .i64 0]) rfl
theorem nO {fn:Func} {R:Value→Hp→Prop} {l:Fm} {hp:Hp} {a t b a2 t2 b2:Nat} {cs cs2:Array Value} {tb tb2:TypeId} (h:R (.tuple #[.agg cs,.agg cs2]) hp) (hr:fn.results=#[.cell a t,.cell a2 t2]:=by rfl) (hv:look l a=some (.pointer (some ⟨b,0,none⟩)):=by rfl) (hw:look l a2=some (.pointer (some ⟨b2,0,none⟩)):=by rfl) (hag:mem Tb.ag t=true:=by rfl) (hm:(⟨b,cs,tb⟩:aI)∈hp:=by (first | (with_reducible apply mh) | (focus ((repeat (first | (with_reducible apply mh) | (with_reducible apply mt) | (with_reducible apply List.mem_append_right)));done)))) (hz:lk Tb.sz t=some cs.size:=by rfl) (wF:mem Tb.ag t2=true:=by rfl) (hm2:(⟨b2,cs2,tb2⟩:aI)∈hp:=by (first | (with_reducible apply mh) | (focus ((repeat (first | (with_reducible apply mh) | (with_reducible apply mt) | (with_reducible apply List.mem_append_right)));done)))) (hz2:lk Tb.sz t2=some cs2.size:=by rfl):Fin Tryz.prog fn R .ret l hp:=
 ⟨.inl rfl,[.agg cs,.agg cs2],by rw [hr];exact ⟨⟨⟨b,cs,tb⟩,hm,hv,.inr ⟨ay.zH hag,ay.tH hz,rfl⟩⟩,⟨⟨b2,cs2,tb2⟩,hm2,hw,.inr ⟨ay.zH wF,ay.tH hz2,rfl⟩⟩,trivial⟩,h⟩
theorem Hu (ws:List Nat) (hw:tu ws) (cap:Nat) (hm:dQ ws.length=true) (hc':ws.length≤cap) {w:World} {p:Option Addr} (h:aB w (.slice p ws.length cap) 1 (ws.map uV)) (stage:Int) (hs:stage=1∨stage=2) (level:Nat) (hl:level<4) (f:Int) (hf:dS ws.length f=true) (page:Nat) (hp:page≤4095):Fn Tryz.prog 197 [.agg #[.slice p ws.length cap],.int .i64 stage,.int .i64 (level:Int),.int .i64 f,.int .i64 (page:Int)].toArray w [] (fun u _=>u=.tuple #[P7 (Cc ws stage (sK f level page) level),.int .i64 0]):=by
 have BV:=bD hm
 have hfi:=jy hf
 have h':=h
 obtain ⟨ez,FT⟩:∃ z:Int,z=0:=⟨0,rfl⟩
 have hdi:∀ wc,Fn Tryz.prog 216 [.int .i64 (level:Int),.int .i64 (page:Int)].toArray wc [] (fun u _=>u=.tuple #[.int .i64 (uD level page:Int),.int .i64 ez]):=fun wc=>by rw [FT];exact P9 level hl page hp wc
 refine enter Tryz.func197 ?_
 refine run ?_
 intro B D
 refine run ?_
 refine ax (fun wc hG=>hdi wc) ?_
 refine az ?_
 refine aZ (fun _ wc hG=>xQ ws.length cap au' p wc) ?_
 refine az ?_
 refine aj _ rfl (fun hc=>absurd hc (by rw [hm,FT];rcases hs with rfl | rfl<;>simp [gv,jg])) (fun hc=>?_)
 refine run ?_
 refine gX (fun wc hG=>QV ws cap hm f hf hc' ((dP.old h').good hG)) ?_
 rintro u1 hn1 ⟨v,hv,rfl,hO,hle⟩
 refine aJ (hv++[⟨D,#[.int .i64 0,.int .i64 0,.bool false,.bool false,.bool false,.bool false,.bool false,.int .i64 0,.int .i64 0],258⟩,⟨B,#[.slice p ws.length cap],24⟩]) (cnt1 hle) ?_
 obtain ⟨g,cg,cur,rfl,rfl,hrow⟩:=hO.row (n:=8) aw0 av1
 have hix:=yT level page
 have qM:nth cur.toList (uD level page)=some (.int .u64 ((ws.getD (sK f level page) 0:Nat):Int)):=by
  have h1:=hrow.cut (i:=uD level page) (c:=uV (ws.getD (sK f level page) 0)) (fun c hc=>by obtain ⟨x,_,rfl⟩:=List.mem_map.1 hc;rfl) (by
   rw [List.getElem?_map,List.getElem?_take,if_pos au',List.getElem?_drop,List.getElem?_eq_getElem au']
   simp only [Option.map_some,sK]
   rw [List.getD_eq_getElem?_getD,List.getElem?_eq_getElem au']
   rfl)
  have h2:=KQ h1 (j:=0) rfl
  simpa using h2
 simp only [List.cons_append,List.nil_append]
 refine aX ?_
 have hw64:ws.getD (sK f level page) 0<18446744073709551616:=by
  rw [List.getD_eq_getElem?_getD]
  cases hq:ws[sK f level page]? with
  | none=>simp
  | some x=>exact hw x (List.mem_of_getElem? hq)
 refine ax (fun wc hG=>Za stage hs level hl _ hw64 wc) ?_
 rw [show Jk stage level (ws.getD (sK f level page) 0)=Cc ws stage (sK f level page) level from rfl]
 refine run ?_
 exact gG (cs:=dsC (Cc ws stage (sK f level page) level)) rfl
theorem Bv (stage:Int) (page:Int) (kind level:Int) {w:World} {Wb:Nat} (hc1:w.cell? ⟨Wb,1,none⟩=some (.int .i64 stage)) (hc2:w.cell? ⟨Wb,2,none⟩=some (.int .i64 page)):Fn Tryz.prog 232 [.pointer (some ⟨Wb,0,none⟩),.int .i64 kind,.int .i64 level].toArray w [] (fun u _=>u=xZ ⟨kind,stage,level,false,page⟩):=by
 refine enter Tryz.func232 ?_
 refine run ?_
 intro R
 refine run ?_
 refine iV 11 ?_
 refine cu ?_
 refine run ?_
 exact gK (cs:=#[.int .i64 kind,.int .i64 stage,.int .i64 level,.bool false,.int .i64 page]) rfl
theorem QW (n cap:Nat) (hn:n<4611686018427387904) (q:Option Addr) (f:Int) {w:World} {Wb:Nat} (hc0:w.cell? ⟨Wb,0,none⟩=some (.slice q n cap)):Fn Tryz.prog 231 [.pointer (some ⟨Wb,0,none⟩),.int .i64 f].toArray w [] (fun u _=>u=.bool (decide (f<((n / 8:Nat):Int)))):=by
 refine enter Tryz.func231 ?_
 refine run ?_
 refine eH av2 (lK rfl rfl n 8 av2 av2 av1 au') ?_
 refine run ?_
 exact fin1 rfl
theorem UK (n cap:Nat) (hn:n<1000000) (q:Option Addr) (stage:Int) (page level:Nat) (hl:level<4) (hp:page≤4095) (d:DsD) (hmay:d.may stage level=true) (hk2:d.kind=2) {w:World} {Wb:Nat} (hc0:w.cell? ⟨Wb,0,none⟩=some (.slice q n cap)) (hc1:w.cell? ⟨Wb,1,none⟩=some (.int .i64 stage)) (hc2:w.cell? ⟨Wb,2,none⟩=some (.int .i64 (page:Int))):Fn Tryz.prog 233 [.pointer (some ⟨Wb,0,none⟩),P7 d,.int .i64 (level:Int)].toArray w [] (fun u _=>u=.tuple #[Sj (rU n stage page level d []).h,xZ (rU n stage page level d []).f]):=by
 obtain ⟨hlf,Py⟩:=qL hmay hk2 hl page
 have hcv:=jc hl
 have hmod:=Nat.mod_lt page (show 0<aP level by omega)
 refine enter Tryz.func233 ?_
 refine run ?_
 intro D H F
 refine run ?_
 refine ax (fun wc hG=>Di level hl wc) ?_
 refine run ?_
 refine eU ?_
 refine cu ?_
 refine qo (fP rfl rfl page (aP level) rfl rfl au') ?_
 refine cu ?_
 refine run ?_
 have hmu:Wb ∉ ([]:List Nat):=List.not_mem_nil
 refine ax (fun wc hG=>QW n cap au' q _ (hG.cell hc0 hmu)) ?_
 refine run ?_
 have hdh:decide (d.frame + ((page % aP level:Nat):Int)<((n / 8:Nat):Int))=dS n (d.frame + ((page % aP level:Nat):Int)):=by
  rw [dS,show decide (0≤d.frame + ((page % aP level:Nat):Int))=true from decide_eq_true au',Bool.true_and]
 rw [rU,show decide (d.kind=0)=false from decide_eq_false au',cond_false,← hdh]
 refine aj _ rfl (fun hc=>?_) (fun hc=>?_)
 ·rw [show decide (d.frame + ((page % aP level:Nat):Int)<((n / 8:Nat):Int))=false by simpa using hc]
  refine run ?_
  refine ax (fun wc hG=>Bv stage page 1 level (hG.cell hc1 hmu) (hG.cell hc2 hmu)) ?_
  refine run ?_
  exact nO (cs:=#[.int .i64 0,.int .i64 0,.bool false,.bool false,.bool false,.bool false,.bool false,.int .i64 0,.int .i64 0]) (cs2:=#[.int .i64 1,.int .i64 stage,.int .i64 level,.bool false,.int .i64 page]) rfl
 ·rw [show decide (d.frame + ((page % aP level:Nat):Int)<((n / 8:Nat):Int))=true by simpa using hc]
  refine run ?_
  exact nO (cs:=#[.int .i64 (d.frame + ((page % aP level:Nat):Int)),.int .i64 0,.bool d.r,.bool d.w,.bool d.x,.bool d.af,.bool d.ng,.int .i64 d.soft,.int .i64 (level:Int)]) (cs2:=#[.int .i64 0,.int .i64 0,.int .i64 0,.bool false,.int .i64 0]) rfl
theorem UL (n:Nat) (stage:Int) (page level:Nat) (d:DsD) (rd:List Int):rU n stage page level d rd=⟨(rU n stage page level d []).h,(rU n stage page level d []).f,rd⟩:=by
 unfold rU
 cases decide (d.kind=0)<;>cases dS n (d.frame + ((page % aP level:Nat):Int))<;>rfl
theorem UM (ws:List Nat) (hw:tu ws) (cap:Nat) (hmm:dQ ws.length=true) (hcc:ws.length≤cap) {p:Option Addr} (stage:Int) (hs:stage=1∨stage=2) (frame:Int) (h0:0≤frame) (page:Nat) (hp:page≤4095) {w:World} {Wb:Nat}
  (hm:dP w [Wb] (.slice p ws.length cap) 1 (ws.map uV)) (hN:eP [⟨Wb,#[.slice p ws.length cap,.int .i64 stage,.int .i64 (page:Int),.slice none 0 0],297⟩] w):
  Fn Tryz.prog 224 [.pointer (some ⟨Wb,0,none⟩),.int .i64 frame].toArray w [Wb] (fun u hn=>∃ rv' hr',u=.tuple #[Sj (jA ws stage frame page).h,xZ (jA ws stage frame page).f]∧Own 3 1 rv' hr' ((jA ws stage frame page).rd.map dH)∧aF (⟨Wb,#[.slice p ws.length cap,.int .i64 stage,.int .i64 (page:Int),rv'],297⟩::hr') hn):=by
 have hm':=hm
 refine eF _ hN Tryz.func224 ?_
 refine run ?_
 intro H F
 refine run ?_
 refine cO (σ:=Nat × Int × Value × Hp × List Int) (fun z=>[(9,.int .i64 (z.1:Int)),(1,.int .i64 z.2.1)]) (fun z=>⟨F,#[.int .i64 0,.int .i64 0,.int .i64 0,.bool false,.int .i64 0],43⟩::⟨H,#[.int .i64 0,.int .i64 0,.bool false,.bool false,.bool false,.bool false,.bool false,.int .i64 0,.int .i64 0],234⟩::⟨Wb,#[.slice p ws.length cap,.int .i64 stage,.int .i64 (page:Int),z.2.2.1],297⟩::z.2.2.2.1) (fun z=>z.1<4∧0≤z.2.1∧z.2.2.2.2.length=z.1∧G6 ws stage page (4 - z.1) z.1 z.2.1 z.2.2.2.2=jA ws stage frame page∧Own 3 1 z.2.2.1 z.2.2.2.1 (z.2.2.2.2.map dH)) (fun z=>4 - z.1) (0,frame,_,[],[]) ⟨Nat.zero_lt_succ _,h0,rfl,rfl,Own.nil _ _⟩ ?_
 rintro ⟨level,f,rv,hr,rd⟩ m hm ⟨hl,hf0,hrd,hwk,hO⟩
 dsimp only at hm hl hf0 hrd hwk hO ⊢
 generalize jA ws stage frame page=X at hwk ⊢
 have BV:=bD hmm
 refine run ?_
 refine aj _ rfl (fun hc=>?_) (fun hc=>absurd hc aw0)
 refine run ?_
 refine ax (fun wc hG=>QW ws.length cap au' p _ aw5) ?_
 refine run ?_
 rw [show 4 - level=(3 - level) + 1 by omega,G6] at hwk
 have e5:decide (f<((ws.length / 8:Nat):Int))=dS ws.length f:=by
  rw [dS,show decide (0≤f)=true from decide_eq_true hf0,Bool.true_and]
 rw [e5]
 refine aj _ rfl (fun hc=>?_) (fun hc=>?_)
 ·have hh:dS ws.length f=false:=by simpa using hc
  rw [hh,cond_false] at hwk
  rw [← hwk]
  refine run ?_
  refine ax (fun wc hG=>Bv stage page 1 level aw5 aw5) ?_
  refine run ?_
  exact nO (cs:=#[.int .i64 0,.int .i64 0,.bool false,.bool false,.bool false,.bool false,.bool false,.int .i64 0,.int .i64 0]) (cs2:=#[.int .i64 1,.int .i64 stage,.int .i64 level,.bool false,.int .i64 page]) ⟨rv,hr,rfl,hO,by (exact ak)⟩
 have hh:dS ws.length f=true:=by simpa using hc
 rw [hh,cond_true] at hwk
 refine run ?_
 intro T
 refine xI (c:=dH f) (⟨T,#[.int .i64 f],3⟩::⟨F,#[.int .i64 0,.int .i64 0,.int .i64 0,.bool false,.int .i64 0],43⟩::⟨H,#[.int .i64 0,.int .i64 0,.bool false,.bool false,.bool false,.bool false,.bool false,.int .i64 0,.int .i64 0],234⟩::[⟨Wb,#[.slice p ws.length cap,.int .i64 stage,.int .i64 (page:Int),rv],297⟩]) hO (fun v' ha' hA'=>?_) aw0 (bT (m:=1) mh rfl) (hperm:=by (exact au))
 rw [show rd.map dH++[dH f]=(rd++[f]).map dH by simp] at hA'
 obtain ⟨q4,c4,e4⟩:=hA'.opened
 rw [List.length_map] at e4
 subst e4
 refine aJ (⟨F,#[.int .i64 0,.int .i64 0,.int .i64 0,.bool false,.int .i64 0],43⟩::⟨H,#[.int .i64 0,.int .i64 0,.bool false,.bool false,.bool false,.bool false,.bool false,.int .i64 0,.int .i64 0],234⟩::⟨Wb,#[.slice p ws.length cap,.int .i64 stage,.int .i64 (page:Int),rv],297⟩::ha') ak ?_
 refine run ?_
 refine oV 20 19 [0,1,2,3,4,5,6,7,8,9,10,11,12,13,14,15,16,17] [18] [19] (⟨Wb,#[.slice p ws.length cap,.int .i64 stage,.int .i64 (page:Int),.slice q4 (rd++[f]).length c4],297⟩::⟨F,#[.int .i64 0,.int .i64 0,.int .i64 0,.bool false,.int .i64 0],43⟩::⟨H,#[.int .i64 0,.int .i64 0,.bool false,.bool false,.bool false,.bool false,.bool false,.int .i64 0,.int .i64 0],234⟩::ha') ?_
 refine dh ?_
 refine kU (fun wc hx hG=>Hu ws hw cap hmm hcc (hm'.good hG) stage hs level hl f hh page hp) ?_
 refine dh ?_
 have hmay:=rQ ws stage (sK f level page) level
 generalize Cc ws stage (sK f level page) level=d at hwk hmay ⊢
 obtain ⟨hkk,hk0,hk1,hk2⟩:=jT hmay
 refine dR ?_
 refine gZ ?_
 rintro _ _ ⟨D,rfl,rfl⟩
 simp only [DN,List.cons_append,List.nil_append,List.append_nil]
 refine aV (b:=D) (tb:=258) (cs:=#[.int .i64 0,.int .i64 0,.bool false,.bool false,.bool false,.bool false,.bool false,.int .i64 0,.int .i64 0]) (cs':=dsC d) (hp':=⟨Wb,#[.slice p ws.length cap,.int .i64 stage,.int .i64 (page:Int),.slice q4 (rd++[f]).length c4],297⟩::⟨F,#[.int .i64 0,.int .i64 0,.int .i64 0,.bool false,.int .i64 0],43⟩::⟨H,#[.int .i64 0,.int .i64 0,.bool false,.bool false,.bool false,.bool false,.bool false,.int .i64 0,.int .i64 0],234⟩::ha') ?_ (List.Perm.refl _)
 refine aH ?_
 refine di ?_
 simp only [dsC]
 refine run ?_
 refine aj _ rfl (fun hc2=>?_) (fun hc2=>?_)
 ·have e0:d.kind=0:=of_decide_eq_true hc2
  rw [show decide (d.kind=1)=false from decide_eq_false au',cond_false,rU,hc2,cond_true] at hwk
  rw [← hwk]
  refine run ?_
  refine ax (fun wc hG=>Bv stage page 2 level av8 av8) ?_
  refine run ?_
  exact nO (cs:=#[.int .i64 0,.int .i64 0,.bool false,.bool false,.bool false,.bool false,.bool false,.int .i64 0,.int .i64 0]) (cs2:=#[.int .i64 2,.int .i64 stage,.int .i64 level,.bool false,.int .i64 page]) ⟨_,ha',rfl,hA',by (exact ak)⟩
 refine run ?_
 refine aj _ rfl (fun hc3=>?_) (fun hc3=>?_)
 ·have e2:d.kind=2:=of_decide_eq_true hc3
  rw [show decide (d.kind=1)=false from decide_eq_false au',cond_false,UL] at hwk
  rw [← hwk]
  refine run ?_
  refine ax (fun wc hG=>UK ws.length cap au' p stage page level hl hp d hmay e2 av8 av8 av8) ?_
  generalize rU ws.length stage page level d []=Z
  refine run ?_
  exact nO (cs:=#[.int .i64 Z.h.frame,.int .i64 Z.h.mid,.bool Z.h.r,.bool Z.h.w,.bool Z.h.x,.bool Z.h.af,.bool Z.h.ng,.int .i64 Z.h.soft,.int .i64 Z.h.level]) (cs2:=#[.int .i64 Z.f.kind,.int .i64 Z.f.stage,.int .i64 Z.f.level,.bool Z.f.walk,.int .i64 Z.f.page]) ⟨_,ha',rfl,hA',by (exact ak)⟩
 refine run ?_
 have e1:d.kind=1:=by
  have h2:=of_decide_eq_false hc2
  have h3:=of_decide_eq_false hc3
  omega
 obtain ⟨k1,k2,k3,k4⟩:=hk1 e1
 rw [show decide (d.kind=1)=true from decide_eq_true e1,cond_true] at hwk
 refine bH (level + 1,d.frame,.slice q4 (rd++[f]).length c4,ha',rd++[f]) ⟨by dsimp only;omega,k2,by simp [hrd],by rw [← hwk,show 4 - (level + 1)=3 - level by omega],hA'⟩ (hm:=by dsimp only;omega) (h2:=by (exact ak))
theorem Fe {fn:Func} {R:Value→Hp→Prop} {l:Fm} {hp:Hp} {a t b a2 t2 b2 s1 s2:Nat} {cs cs2:Array Value} {tb tb2:TypeId} {v1 v2:Value} (h:R (.tuple #[.agg cs,.agg cs2,v1,v2]) hp) (hr:fn.results=#[.cell a t,.cell a2 t2,.tmp s1,.tmp s2]:=by rfl) (hv:look l a=some (.pointer (some ⟨b,0,none⟩)):=by rfl) (hw:look l a2=some (.pointer (some ⟨b2,0,none⟩)):=by rfl) (h1:look l s1=some v1:=by rfl) (h2:look l s2=some v2:=by rfl) (hag:mem Tb.ag t=true:=by rfl) (hm:(⟨b,cs,tb⟩:aI)∈hp:=by (first | (with_reducible apply mh) | (focus ((repeat (first | (with_reducible apply mh) | (with_reducible apply mt) | (with_reducible apply List.mem_append_right)));done)))) (hz:lk Tb.sz t=some cs.size:=by rfl) (wF:mem Tb.ag t2=true:=by rfl) (hm2:(⟨b2,cs2,tb2⟩:aI)∈hp:=by (first | (with_reducible apply mh) | (focus ((repeat (first | (with_reducible apply mh) | (with_reducible apply mt) | (with_reducible apply List.mem_append_right)));done)))) (hz2:lk Tb.sz t2=some cs2.size:=by rfl):Fin Tryz.prog fn R .ret l hp:=
 ⟨.inl rfl,[.agg cs,.agg cs2,v1,v2],by rw [hr];exact ⟨⟨⟨b,cs,tb⟩,hm,hv,.inr ⟨ay.zH hag,ay.tH hz,rfl⟩⟩,⟨⟨b2,cs2,tb2⟩,hm2,hw,.inr ⟨ay.zH wF,ay.tH hz2,rfl⟩⟩,h1,h2,trivial⟩,h⟩
theorem UN (ws:List Nat) (hw:tu ws) (cap:Nat) (hmm:dQ ws.length=true) (hcc:ws.length≤cap) {p:Option Addr} {w:World} (h:aB w (.slice p ws.length cap) 1 (ws.map uV)) (stage:Int) (hs:stage=1∨stage=2) (frame:Int) (h0:0≤frame) (h1:frame≤4095) (page:Nat) (hp:page≤4095):
  Fn Tryz.prog 211 [.agg #[.slice p ws.length cap],.int .i64 stage,.int .i64 frame,.int .i64 (page:Int)].toArray w [] (fun u hn=>∃ rv' hr',u=.tuple #[Sj (jA ws stage frame page).h,xZ (jA ws stage frame page).f,rv',.int .i64 0]∧Own 3 1 rv' hr' ((jA ws stage frame page).rd.map dH)∧aF hr' hn):=by
 have h':=h
 have BV:=bD hmm
 refine enter Tryz.func211 ?_
 refine run ?_
 intro B H F
 refine az ?_
 refine ax (fun wc hG=>xQ ws.length cap au' p wc) ?_
 rw [hmm]
 refine az ?_
 refine aj _ rfl (fun hc=>absurd hc (by rcases hs with rfl | rfl<;>simp<;>omega)) (fun hc=>?_)
 refine run ?_
 intro Wb
 refine run ?_
 refine dK [⟨Wb,#[.slice p ws.length cap,.int .i64 stage,.int .i64 (page:Int),.slice none 0 0],297⟩] [⟨F,#[.int .i64 0,.int .i64 0,.int .i64 0,.bool false,.int .i64 0],43⟩,⟨H,#[.int .i64 0,.int .i64 0,.bool false,.bool false,.bool false,.bool false,.bool false,.int .i64 0,.int .i64 0],234⟩,⟨B,#[.slice p ws.length cap],24⟩] (fun wc hG=>UM ws hw cap hmm hcc stage hs frame h0 page hp ((dP.old h').into hG) hG.dG) ?_ au
 rintro u1 hn1 ⟨rv,hr,rfl,hO,hle⟩
 generalize jA ws stage frame page=X at hO ⊢
 obtain ⟨q4,c4,e4⟩:=hO.opened
 rw [List.length_map] at e4
 subst e4
 refine aJ (⟨Wb,#[.slice p ws.length cap,.int .i64 stage,.int .i64 (page:Int),.slice q4 X.rd.length c4],297⟩::⟨F,#[.int .i64 0,.int .i64 0,.int .i64 0,.bool false,.int .i64 0],43⟩::⟨H,#[.int .i64 0,.int .i64 0,.bool false,.bool false,.bool false,.bool false,.bool false,.int .i64 0,.int .i64 0],234⟩::hr) (cnt1 hle) ?_
 refine run ?_
 refine dN 8 6 [0,1,2,3,4,5] [6,7] (⟨F,#[.int .i64 X.f.kind,.int .i64 X.f.stage,.int .i64 X.f.level,.bool X.f.walk,.int .i64 X.f.page],43⟩::⟨H,#[.int .i64 X.h.frame,.int .i64 X.h.mid,.bool X.h.r,.bool X.h.w,.bool X.h.x,.bool X.h.af,.bool X.h.ng,.int .i64 X.h.soft,.int .i64 X.h.level],234⟩::⟨Wb,#[.slice p ws.length cap,.int .i64 stage,.int .i64 (page:Int),.slice q4 X.rd.length c4],297⟩::hr) ?_
 refine dh ?_
 refine cSame (b:=H) (tb:=234) (cs:=#[.int .i64 X.h.frame,.int .i64 X.h.mid,.bool X.h.r,.bool X.h.w,.bool X.h.x,.bool X.h.af,.bool X.h.ng,.int .i64 X.h.soft,.int .i64 X.h.level]) ?_
 refine cSame (b:=F) (tb:=43) (cs:=#[.int .i64 X.f.kind,.int .i64 X.f.stage,.int .i64 X.f.level,.bool X.f.walk,.int .i64 X.f.page]) ?_
 refine aH ?_
 refine di ?_
 refine run ?_
 exact Fe (cs:=#[.int .i64 X.h.frame,.int .i64 X.h.mid,.bool X.h.r,.bool X.h.w,.bool X.h.x,.bool X.h.af,.bool X.h.ng,.int .i64 X.h.soft,.int .i64 X.h.level]) (cs2:=#[.int .i64 X.f.kind,.int .i64 X.f.stage,.int .i64 X.f.level,.bool X.f.walk,.int .i64 X.f.page]) ⟨_,hr,rfl,hO,by (exact ak)⟩
theorem QX (xs:List Int) {w:World} {v:Value} (h:aB w v 1 (xs.map dH)):Fn Tryz.prog 223 [v].toArray w [] (fun u _=>u=.bool (xs.all fun x=>PtD.bY x 0 4095)):=by
 obtain ⟨q,cap,rfl,hne,hle⟩:=h.opened
 refine enter Tryz.func223 ?_
 refine run ?_
 refine cO (σ:=Nat) (fun k=>[(7,.int .i64 (k:Int))]) (fun _=>[]) (fun k=>k≤xs.length∧((xs.take k).all fun x=>PtD.bY x 0 4095)=true) (fun k=>xs.length - k) 0 ⟨by omega,rfl⟩ ?_
 rintro k m hm ⟨hk,hT⟩
 refine run ?_
 refine aj _ rfl (fun hc=>?_) (fun hc=>?_)
 ·have hlt:k<xs.length:=by simp at hc;omega
  obtain ⟨b,o,rfl⟩:=hne av5
  have hr:=cZ (h.row hlt)
  rw [Nat.mul_one] at hr
  refine az ?_
  refine aj _ rfl (fun hc2=>?_) (fun hc2=>?_)
  ·refine run ?_
   refine fin1 ?_
   rw [show (xs.all fun x=>PtD.bY x 0 4095)=false by
    rw [List.all_eq_false]
    exact ⟨_,getD_mem hlt,by simp [PtD.bY] at hc2 ⊢;omega⟩]
  ·refine run ?_
   refine bH (k + 1) ⟨hlt,?_⟩
   rw [gI hlt,List.all_append,Bool.and_eq_true]
   exact ⟨hT,by simp [PtD.bY] at hc2 ⊢;omega⟩
 ·have:k=xs.length:=by simp at hc;omega
  subst this
  rw [List.take_length] at hT
  refine run ?_
  refine fin1 ?_
  rw [hT]
theorem QY (n cap:Nat) (hn:dQ n=true) (p:Option Addr) (acc:Int) (ha:PtD.bY acc 0 2=true) (xs:List Int) (hx:(xs.all fun x=>PtD.bY x 0 4095)=true) {w:World} {v:Value} (h:aB w v 1 (xs.map dH)):Fn Tryz.prog 209 [.agg #[.slice p n cap],.int .i64 acc,v].toArray w [] (fun u _=>u=.bool true):=by
 have h':=h
 obtain ⟨qv,cv,rfl,_,_⟩:=h.opened
 have BV:=bD hn
 obtain ⟨ez,FT⟩:∃ z:Int,z=0:=⟨0,rfl⟩
 have hpm:∀ wc,Fn Tryz.prog 162 [.agg #[.bool false,.bool false,.bool false,.bool false,.bool false,.int .i64 0],.int .i64 acc].toArray wc [] (fun u _=>u=.tuple #[.bool (vF false false false acc),.int .i64 ez]):=fun wc=>by
  have:=Bq false false false false false 0 acc wc
  rw [ha] at this
  rw [FT];exact this
 refine enter Tryz.func209 ?_
 refine run ?_
 intro B
 refine run ?_
 refine ax (fun wc hG=>hpm wc) ?_
 refine az ?_
 refine aZ (fun _ wc hG=>xQ n cap au' p wc) ?_
 refine az ?_
 refine aZ (fun _ wc hG=>QX xs ((dP.old h').good hG)) ?_
 refine az ?_
 refine fin1 ?_
 rw [hn,hx,FT]
 rfl
theorem XL (ws:List Nat) (hw:tu ws) (cap:Nat) (hmm:dQ ws.length=true) (hcc:ws.length≤cap) {p:Option Addr} {w:World} (h:aB w (.slice p ws.length cap) 1 (ws.map uV)) (frame tag:Int) (h0:0≤frame) (h1:frame≤4095) (mid:Nat) (hp:mid≤4095) (acc:Int) (ha:PtD.bY acc 0 2=true):
  Fn Tryz.prog 194 [.agg #[.slice p ws.length cap],.agg #[.bool true,.int .i64 frame,.int .i64 tag],.int .i64 (mid:Int),.int .i64 acc].toArray w [] (fun u hn=>∃ rv' hr',u=.tuple #[Sj (jo ws true frame mid acc).h,xZ (jo ws true frame mid acc).f,rv',.int .i64 0]∧Own 3 1 rv' hr' ((jo ws true frame mid acc).rd.map dH)∧aF hr' hn):=by
 have h':=h
 have BV:=bD hmm
 refine enter Tryz.func194 ?_
 refine run ?_
 intro B C H F X
 refine ax (fun wc hG=>QY ws.length cap hmm p acc ha [frame,mid] (by simp only [List.all_cons,List.all_nil,Bool.and_true,Bool.and_eq_true];exact ⟨lV h0 h1,lV au' au'⟩) (dL (xs:=[dH frame,dH mid]) (hG.here ⟨X,#[.int .i64 frame,.int .i64 (mid:Int)],3⟩ mh) ax3 av4)) ?_
 refine aX ?_
 refine gX (fun wc hG=>UN ws hw cap hmm hcc ((dP.old h').good hG) 2 (.inr rfl) frame h0 h1 mid hp) ?_
 rintro u1 hn1 ⟨rv,hr,rfl,hO,hle⟩
 rw [jo,Bool.not_true,cond_false]
 unfold Jw vG
 generalize jA ws 2 frame mid=L at hO ⊢
 obtain ⟨q4,c4,e4⟩:=hO.opened
 rw [List.length_map] at e4
 subst e4
 refine aJ (⟨F,#[.int .i64 0,.int .i64 0,.int .i64 0,.bool false,.int .i64 0],43⟩::⟨H,#[.int .i64 0,.int .i64 0,.bool false,.bool false,.bool false,.bool false,.bool false,.int .i64 0,.int .i64 0],234⟩::⟨C,#[.bool true,.int .i64 frame,.int .i64 tag],33⟩::⟨B,#[.slice p ws.length cap],24⟩::hr) (cnt1 hle) ?_
 refine run ?_
 refine dX (σ:=nD) (fun _=>[]) (fun z=>⟨F,#[.int .i64 z.kind,.int .i64 z.stage,.int .i64 z.level,.bool z.walk,.int .i64 z.page],43⟩::⟨H,#[.int .i64 L.h.frame,.int .i64 L.h.mid,.bool L.h.r,.bool L.h.w,.bool L.h.x,.bool L.h.af,.bool L.h.ng,.int .i64 L.h.soft,.int .i64 L.h.level],234⟩::⟨C,#[.bool true,.int .i64 frame,.int .i64 tag],33⟩::⟨B,#[.slice p ws.length cap],24⟩::hr) (fun z=>z=bif decide (L.f.kind=0) then gQ L.h.r L.h.w L.h.x L.h.af acc 2 L.h.level mid else L.f) ?_ ?_
 ·refine aj _ rfl (fun hc=>?_) (fun hc=>?_)
  ·refine run ?_
   refine ax (fun wc hG=>KZ L.h.r L.h.w L.h.x L.h.af L.h.ng L.h.soft acc 2 L.h.level mid ha wc) ?_
   refine run ?_
   exact dA _ (by rw [hc,cond_true])
  ·refine run ?_
   exact dA _ (by rw [hc,cond_false])
 rintro G hG
 rw [← hG]
 clear hG
 refine run ?_
 refine aj _ rfl (fun hc=>?_) (fun hc=>?_)
 ·rw [hc,cond_true]
  refine run ?_
  refine dN 5 3 [0,1,2] [3,4] (⟨F,#[.int .i64 G.kind,.int .i64 G.stage,.int .i64 G.level,.bool G.walk,.int .i64 G.page],43⟩::⟨C,#[.bool true,.int .i64 frame,.int .i64 tag],33⟩::⟨B,#[.slice p ws.length cap],24⟩::hr) ?_
  refine dh ?_
  refine aV (b:=H) (tb:=234) (cs:=#[.int .i64 L.h.frame,.int .i64 L.h.mid,.bool L.h.r,.bool L.h.w,.bool L.h.x,.bool L.h.af,.bool L.h.ng,.int .i64 L.h.soft,.int .i64 L.h.level]) (cs':=#[.int .i64 0,.int .i64 0,.bool false,.bool false,.bool false,.bool false,.bool false,.int .i64 0,.int .i64 0]) (hp':=⟨F,#[.int .i64 G.kind,.int .i64 G.stage,.int .i64 G.level,.bool G.walk,.int .i64 G.page],43⟩::⟨C,#[.bool true,.int .i64 frame,.int .i64 tag],33⟩::⟨B,#[.slice p ws.length cap],24⟩::hr) ?_ au
  refine cSame (b:=F) (tb:=43) (cs:=#[.int .i64 G.kind,.int .i64 G.stage,.int .i64 G.level,.bool G.walk,.int .i64 G.page]) ?_
  refine aH ?_
  refine di ?_
  refine run ?_
  exact Fe (cs:=#[.int .i64 0,.int .i64 0,.bool false,.bool false,.bool false,.bool false,.bool false,.int .i64 0,.int .i64 0]) (cs2:=#[.int .i64 G.kind,.int .i64 G.stage,.int .i64 G.level,.bool G.walk,.int .i64 G.page]) ⟨_,hr,rfl,hO,by (exact ak)⟩
 ·rw [hc,cond_false]
  refine run ?_
  refine dN 5 3 [0,1,2] [3,4] (⟨H,#[.int .i64 L.h.frame,.int .i64 (mid:Int),.bool L.h.r,.bool L.h.w,.bool L.h.x,.bool L.h.af,.bool L.h.ng,.int .i64 L.h.soft,.int .i64 L.h.level],234⟩::⟨F,#[.int .i64 G.kind,.int .i64 G.stage,.int .i64 G.level,.bool G.walk,.int .i64 G.page],43⟩::⟨C,#[.bool true,.int .i64 frame,.int .i64 tag],33⟩::⟨B,#[.slice p ws.length cap],24⟩::hr) ?_
  refine dh ?_
  refine cSame (b:=H) (tb:=234) (cs:=#[.int .i64 L.h.frame,.int .i64 (mid:Int),.bool L.h.r,.bool L.h.w,.bool L.h.x,.bool L.h.af,.bool L.h.ng,.int .i64 L.h.soft,.int .i64 L.h.level]) ?_
  refine cSame (b:=F) (tb:=43) (cs:=#[.int .i64 G.kind,.int .i64 G.stage,.int .i64 G.level,.bool G.walk,.int .i64 G.page]) ?_
  refine aH ?_
  refine di ?_
  refine run ?_
  exact Fe (cs:=#[.int .i64 L.h.frame,.int .i64 (mid:Int),.bool L.h.r,.bool L.h.w,.bool L.h.x,.bool L.h.af,.bool L.h.ng,.int .i64 L.h.soft,.int .i64 L.h.level]) (cs2:=#[.int .i64 G.kind,.int .i64 G.stage,.int .i64 G.level,.bool G.walk,.int .i64 G.page]) ⟨_,hr,rfl,hO,by (exact ak)⟩
def bg.pg (e:bg) (P:Nat):Nat:=bif decide (e.kind=3) then kL (e.level.toNat - 1) P else P
def XM (K V A:Int) (P:Nat) (e:bg):Bool:=decide (e.kind=K) && decide (e.jm=V) && (e.all || decide (e.ku=A)) && decide (e.page=((e.pg P:Nat):Int))
def Ci (K V A:Int) (P:Nat) (acc:Int) (e:bg):Bool:=XM K V A P e && vF e.r e.w e.x acc
theorem V3 (e:bg) (he:e.may=true) (K V A:Int) (P:Nat) (hP:P≤4095) (w:World):Fn Tryz.prog 213 [.agg (bI e).toArray,.int .i64 K,.int .i64 V,.int .i64 A,.int .i64 (P:Int)].toArray w [] (fun u _=>u=.bool (XM K V A P e)):=by
 refine enter Tryz.func213 ?_
 refine run ?_
 intro B
 refine run ?_
 refine dX (σ:=Nat) (fun z=>[(4,.int .i64 (z:Int))]) (fun _=>[⟨B,(bI e).toArray,156⟩]) (fun z=>z=e.pg P) ?_ ?_
 ·refine aj _ rfl (fun hc=>?_) (fun hc=>?_)
  ·have hk3:e.kind=3:=of_decide_eq_true hc
   obtain ⟨hl1,hl3⟩:=EZ he hk3
   refine run ?_
   have hb:=fun wc=>KL e.level.toNat au' au' P hP wc
   rw [show ((e.level.toNat:Nat):Int)=e.level by omega] at hb
   refine ax (fun wc hG=>hb wc) ?_
   refine run ?_
   exact dA (kL (e.level.toNat - 1) P) (by unfold bg.pg;rw [hc,cond_true])
  ·refine run ?_
   exact dA P (by unfold bg.pg;rw [hc,cond_false])
 rintro z hz
 subst hz
 refine az ?_
 refine fin1 ?_
 unfold XM
 rfl
theorem UO (e:bg) (acc:Int) (w:World):Fn Tryz.prog 214 [.agg (bI e).toArray,.int .i64 acc].toArray w [] (fun u _=>u=.bool (vF e.r e.w e.x acc)):=by
 refine enter Tryz.func214 ?_
 refine run ?_
 intro B
 refine ax (fun wc hG=>Bq e.r e.w e.x e.af e.ng e.soft acc wc) ?_
 refine run ?_
 exact fin1 rfl
theorem Hw {w:World} (es:List bg) (ds:List dB) (v u:Value) (h:aB w v 14 (es.map bI)) (hd:aB w u 4 (ds.map dJ)) (hcap:∃ q c,v=.slice q es.length c∧es.length≤c) (hok:bK es ds=true) (K V A:Int) (P:Nat) (acc:Int) (hV:PtD.bY V 0 15=true) (hA:PtD.bY A 0 15=true) (hP:P≤4095) (ha:PtD.bY acc 0 2=true):
  Fn Tryz.prog 195 [.agg #[v,u],.int .i64 K,.int .i64 V,.int .i64 A,.int .i64 (P:Int),.int .i64 acc].toArray w [] (fun r _=>r=bif decide (0≤fM (Ci K V A P acc) es) then .tuple #[.agg (bI (es.getD (fM (Ci K V A P acc) es).toNat default)).toArray,.int .i64 0] else .tuple #[.agg (bI default).toArray,.int .i64 3]):=by
 have h':=h
 have hd':=hd
 have hcap':=hcap
 obtain ⟨q,cap,rfl,hne,hle⟩:=h.opened
 obtain ⟨q2,cap2,rfl,hne2,hle2⟩:=hd.opened
 have hem:=dO hok
 obtain ⟨ez,FT⟩:∃ z:Int,z=0:=⟨0,rfl⟩
 have hpm:∀ wc,Fn Tryz.prog 162 [.agg #[.bool false,.bool false,.bool false,.bool false,.bool false,.int .i64 0],.int .i64 acc].toArray wc [] (fun u _=>u=.tuple #[.bool (vF false false false acc),.int .i64 ez]):=fun wc=>by
  have:=Bq false false false false false 0 acc wc
  rw [ha] at this
  rw [FT];exact this
 refine enter Tryz.func195 ?_
 refine run ?_
 intro B R
 refine run ?_
 refine ax (fun wc hG=>hpm wc) ?_
 refine run ?_
 refine ax (fun wc hG=>kP es ds _ _ ((dP.old h').good hG) ((dP.old hd').good hG) hcap') ?_
 refine az ?_
 have hg0:jg (!decide ((bif bK es ds then (0:Int) else 1)=0) || !decide (ez=0)) false=true:=by rw [hok,FT];rfl
 simp only [hg0,bZ]
 refine xR ?_ hg0
 refine az ?_
 intro Z
 refine aZ (fun hg wc hG=>lD 15 [V,A] (dL (xs:=[dH V,dH A]) (hG.here ⟨Z,#[.int .i64 V,.int .i64 A],3⟩ mh) ax3 av4)) ?_
 refine az ?_
 have Zz:([V,A].all fun x=>PtD.bY x 0 15)=true:=by simp only [List.all_cons,List.all_nil,Bool.and_true,hV,hA]
 have hg1:jg (!decide ((bif bK es ds then (0:Int) else 1)=0) || !decide (ez=0) || ![V,A].all fun x=>PtD.bY x 0 15) false=true:=by rw [hok,FT,Zz];rfl
 simp only [hg1,bZ]
 refine xR ?_ hg1
 refine az ?_
 intro Z2
 refine aZ (fun hg wc hG=>lD 4095 [(P:Int)] (dL (xs:=[dH (P:Int)]) (hG.here ⟨Z2,#[.int .i64 (P:Int)],3⟩ mh) ax3 av4)) ?_
 refine az ?_
 have hPP:([(P:Int)].all fun x=>PtD.bY x 0 4095)=true:=by simp only [List.all_cons,List.all_nil,Bool.and_true];exact lV au' au'
 refine aj _ rfl (fun hc=>absurd hc (by rw [hok,FT,Zz,hPP];simp)) (fun hc=>?_)
 refine run ?_
 refine cO (σ:=Nat) (fun k=>[(49,.int .i64 (k:Int))]) (fun _=>[⟨R,(bI default).toArray,114⟩]) (fun k=>k≤es.length∧∀ j,j<k→Ci K V A P acc (es.getD j default)=false) (fun k=>es.length - k) 0 ⟨by omega,fun j h=>absurd h au'⟩ ?_
 rintro k m hm ⟨hk,hno⟩
 refine run ?_
 refine aj _ rfl (fun hc=>?_) (fun hc=>?_)
 ·have hlt:k<es.length:=by simp at hc;omega
  obtain ⟨b,o,rfl⟩:=hne av5
  have hr:=h.row hlt
  have XN:=hem.1 _ (getD_mem hlt)
  refine run ?_
  intro E
  refine run ?_
  intro X
  refine run ?_
  refine ax (fun wc hG=>V3 (es.getD k default) XN K V A P hP wc) ?_
  refine az ?_
  refine aZ (fun _ wc hG=>UO (es.getD k default) acc wc) ?_
  refine az ?_
  refine aj _ rfl (fun hc2=>?_) (fun hc2=>?_)
  ·rw [iM (k:=k) hlt hc2 hno]
   rw [show decide (0≤(k:Int))=true from decide_eq_true au',cond_true,Int.toNat_natCast]
   refine run ?_
   exact gG (cs:=(bI (es.getD k default)).toArray) rfl
  ·refine run ?_
   refine bH (k + 1) ⟨hlt,fun j hj=>?_⟩
   rcases Nat.lt_or_ge j k with h1 | h1
   ·exact hno j h1
   ·obtain rfl:j=k:=by omega
    exact hc2
 ·have:k=es.length:=by simp at hc;omega
  subst this
  rw [show fM (Ci K V A P acc) es=-1 from fO hno]
  refine run ?_
  exact gG (cs:=#[.int .i64 0,.int .i64 0,.int .i64 0,.bool false,.int .i64 0,.int .i64 0,.int .i64 0,.int .i64 0,.bool false,.bool false,.bool false,.bool false,.bool false,.int .i64 0]) rfl
end
section
attribute [local irreducible] Hy St Ops DH gB iH iq fK DS fA jX
theorem Dx {α:Type} [Inhabited α] {p q:α→Bool} {l:List α} (h:∀ x∈l,p x=q x):fM p l=fM q l:=by
 cases ha:l.any p with
 | false=>
  rw [List.any_eq_false] at ha
  rw [fO fun j hj=>by simpa using ha _ (getD_mem hj),fO fun j hj=>by rw [← h _ (getD_mem hj)];simpa using ha _ (getD_mem hj)]
 | true=>
  obtain ⟨x,hx,hp⟩:=List.any_eq_true.1 ha
  obtain ⟨j,hj,rfl⟩:=List.getElem_of_mem hx
  have hjp:p (l.getD j default)=true:=by rw [List.getD_eq_getElem?_getD,List.getElem?_eq_getElem hj];exact hp
  obtain ⟨j0,h0,h2,h3⟩:=oK p l j hjp
  have hj0:j0<l.length:=by omega
  rw [iM (k:=j0) hj0 h2 h3,iM (k:=j0) hj0 (by rw [← h _ (getD_mem hj0)];exact h2) (fun i hi=>by rw [← h _ (getD_mem au')];exact h3 i hi)]
theorem NC (V A:Int) (P:Nat) (acc:Int) (e:bg):Ci 1 V A P acc e=kz V A P acc e:=by
 unfold Ci XM kz bg.Xp bg.lets bg.pg
 by_cases h:e.kind=1
 ·simp [h,Bool.and_assoc]
 ·simp [h]
theorem UQ (V:Int) (P:Nat) (acc:Int) (e:bg) (he:e.may=true):Ci 2 V 0 P acc e=rV V P acc e:=by
 unfold Ci XM rV bg.lets bg.pg
 by_cases h:e.kind=2
 ·have hall:e.all=true:=by
   simp only [bg.may,h,decide_true,show decide ((2:Int)=1)=false from rfl,cond_true,cond_false,Bool.and_eq_true,Bool.not_eq_true'] at he
   exact he.2.1.1.1.2
  simp [h,hall,Bool.and_assoc]
 ·simp [h]
theorem QZ (V A:Int) (P:Nat) (e:bg):XM 3 V A P e=oC V A P e:=by
 unfold XM oC bg.Xp bg.pg
 by_cases h:e.kind=3
 ·simp [h,Bool.and_assoc]
 ·simp [h]
def Ff (es:List bg) (q:bg→Bool) (k:Nat):bg:=bif decide (0≤eX es q k) then es.getD (eX es q k).toNat default else default
theorem Dy {V A:Int} {P:Nat} {e:bg} (h:oC V A P e=true):e.kind=3:=by
 simp only [oC,Bool.and_eq_true,decide_eq_true_eq] at h
 exact h.1.1
theorem XO {es:List bg} {q:bg→Bool} {k:Nat} (hm:∀ x∈es,x.may=true) (hq:∀ x,q x=true→x.kind=3) (hk:k≤es.length):(!decide ((Ff es q k).level=0))=decide (0≤eX es q k):=by
 unfold Ff
 cases hc:decide (0≤eX es q k) with
 | false=>rfl
 | true=>
  rw [cond_true]
  have h0:=of_decide_eq_true hc
  have h1:=Ht (es:=es) (q:=q) k h0
  have h2:=(uI (es:=es) (q:=q) k).2
  have h3:=EZ (hm _ (getD_mem (l:=es) (k:=(eX es q k).toNat) au')) (hq _ h1)
  rw [decide_eq_false au'];rfl
theorem Q3 {es:List bg} {q:bg→Bool} {k:Nat} (hm:∀ x∈es,x.may=true) (hq:∀ x,q x=true→x.kind=3) (hk:k<es.length):Ff es q (k + 1)=bif q (es.getD k default) && decide ((Ff es q k).level<(es.getD k default).level) then es.getD k default else Ff es q k:=by
 have hlt:=(uI (es:=es) (q:=q) k).2
 have key:(q (es.getD k default) && (decide (eX es q k<0) || decide ((es.getD (eX es q k).toNat default).level<(es.getD k default).level)))=(q (es.getD k default) && decide ((Ff es q k).level<(es.getD k default).level)):=by
  cases hqk:q (es.getD k default) with
  | false=>rfl
  | true=>
   rw [Bool.true_and,Bool.true_and]
   unfold Ff
   cases hc:decide (0≤eX es q k) with
   | false=>
    have h0:=of_decide_eq_false hc
    have h3:=EZ (hm _ (getD_mem hk)) (hq _ hqk)
    rw [cond_false,decide_eq_true (by omega:eX es q k<0),Bool.true_or]
    exact (decide_eq_true (show (default:bg).level<_ from by show (0:Int)<_;omega)).symm
   | true=>
    have h0:=of_decide_eq_true hc
    rw [cond_true,decide_eq_false (by omega:¬ eX es q k<0),Bool.false_or]
 show (bif decide (0≤eX es q (k + 1)) then es.getD (eX es q (k + 1)).toNat default else default)=_
 rw [eX,key]
 cases hc:(q (es.getD k default) && decide ((Ff es q k).level<(es.getD k default).level)) with
 | true=>rw [cond_true,cond_true,decide_eq_true (by omega:(0:Int)≤(k:Int)),cond_true,Int.toNat_natCast]
 | false=>rw [cond_false,cond_false];rfl
def Q4 (es:List bg) (i:Int):Value:=bif decide (0≤i) then .tuple #[.agg (bI (es.getD i.toNat default)).toArray,.int .i64 0] else .tuple #[.agg (bI default).toArray,.int .i64 3]
theorem pU (es:List bg) (i:Int):Q4 es i=.tuple #[.agg (bI (bif decide (0≤i) then es.getD i.toNat default else default)).toArray,.int .i64 (bif decide (0≤i) then 0 else 3)]:=by
 unfold Q4
 cases decide (0≤i)<;>rfl
section
variable {w : World} {es : List bg} {ds : List dB} {v u : Value}
theorem Q5 (h:aB w v 14 (es.map bI)) (hd:aB w u 4 (ds.map dJ)) (hcap:∃ q c,v=.slice q es.length c∧es.length≤c) (hok:bK es ds=true) (V A:Int) (P:Nat) (acc:Int) (hV:PtD.bY V 0 15=true) (hA:PtD.bY A 0 15=true) (hP:P≤4095) (ha:PtD.bY acc 0 2=true):
  Fn Tryz.prog 166 [.agg #[v,u],.int .i64 V,.int .i64 A,.int .i64 (P:Int),.int .i64 acc].toArray w [] (fun r _=>r=Q4 es (fM (kz V A P acc) es)):=by
 have h':=h
 have hd':=hd
 have hcap':=hcap
 obtain ⟨q,cap,rfl,_,_⟩:=h.opened
 obtain ⟨q2,cap2,rfl,_,_⟩:=hd.opened
 have hi:fM (Ci 1 V A P acc) es=fM (kz V A P acc) es:=Dx fun x hx=>NC V A P acc x
 have hf:∀ {wc:World},aB wc (.slice q es.length cap) 14 (es.map bI)→aB wc (.slice q2 ds.length cap2) 4 (ds.map dJ)→Fn Tryz.prog 195 [.agg #[.slice q es.length cap,.slice q2 ds.length cap2],.int .i64 1,.int .i64 V,.int .i64 A,.int .i64 (P:Int),.int .i64 acc].toArray wc [] (fun r _=>r=.tuple #[.agg (bI (bif decide (0≤fM (kz V A P acc) es) then es.getD (fM (kz V A P acc) es).toNat default else default)).toArray,.int .i64 (bif decide (0≤fM (kz V A P acc) es) then 0 else 3)]):=fun ha1 hb1=>by
  have:=Hw es ds _ _ ha1 hb1 hcap' hok 1 V A P acc hV hA hP ha
  rw [hi] at this
  rw [← pU]
  exact this
 rw [pU]
 generalize (bif decide (0≤fM (kz V A P acc) es) then es.getD (fM (kz V A P acc) es).toNat default else default)=E at hf ⊢
 generalize (bif decide (0≤fM (kz V A P acc) es) then (0:Int) else 3)=z at hf ⊢
 refine enter Tryz.func166 ?_
 refine run ?_
 intro B R
 refine run ?_
 refine ax (fun wc hG=>hf ((dP.old h').good hG) ((dP.old hd').good hG)) ?_
 refine run ?_
 exact gG (cs:=(bI E).toArray) rfl
theorem XP (h:aB w v 14 (es.map bI)) (hd:aB w u 4 (ds.map dJ)) (hcap:∃ q c,v=.slice q es.length c∧es.length≤c) (hok:bK es ds=true) (V:Int) (P:Nat) (acc:Int) (hV:PtD.bY V 0 15=true) (hP:P≤4095) (ha:PtD.bY acc 0 2=true):
  Fn Tryz.prog 193 [.agg #[v,u],.int .i64 V,.int .i64 (P:Int),.int .i64 acc].toArray w [] (fun r _=>r=Q4 es (fM (rV V P acc) es)):=by
 have h':=h
 have hd':=hd
 have hcap':=hcap
 obtain ⟨q,cap,rfl,_,_⟩:=h.opened
 obtain ⟨q2,cap2,rfl,_,_⟩:=hd.opened
 have hi:fM (Ci 2 V 0 P acc) es=fM (rV V P acc) es:=Dx fun x hx=>UQ V P acc x ((dO hok).1 x hx)
 have hf:∀ {wc:World},aB wc (.slice q es.length cap) 14 (es.map bI)→aB wc (.slice q2 ds.length cap2) 4 (ds.map dJ)→Fn Tryz.prog 195 [.agg #[.slice q es.length cap,.slice q2 ds.length cap2],.int .i64 2,.int .i64 V,.int .i64 0,.int .i64 (P:Int),.int .i64 acc].toArray wc [] (fun r _=>r=.tuple #[.agg (bI (bif decide (0≤fM (rV V P acc) es) then es.getD (fM (rV V P acc) es).toNat default else default)).toArray,.int .i64 (bif decide (0≤fM (rV V P acc) es) then 0 else 3)]):=fun ha1 hb1=>by
  have:=Hw es ds _ _ ha1 hb1 hcap' hok 2 V 0 P acc hV rfl hP ha
  rw [hi] at this
  rw [← pU]
  exact this
 rw [pU]
 generalize (bif decide (0≤fM (rV V P acc) es) then es.getD (fM (rV V P acc) es).toNat default else default)=E at hf ⊢
 generalize (bif decide (0≤fM (rV V P acc) es) then (0:Int) else 3)=z at hf ⊢
 refine enter Tryz.func193 ?_
 refine run ?_
 intro B R
 refine run ?_
 refine ax (fun wc hG=>hf ((dP.old h').good hG) ((dP.old hd').good hG)) ?_
 refine run ?_
 exact gG (cs:=(bI E).toArray) rfl
theorem UR (h:aB w v 14 (es.map bI)) (hd:aB w u 4 (ds.map dJ)) (hcap:∃ q c,v=.slice q es.length c∧es.length≤c) (hok:bK es ds=true) (V A:Int) (P:Nat) (hV:PtD.bY V 0 15=true) (hA:PtD.bY A 0 15=true) (hP:P≤4095):
  Fn Tryz.prog 215 [.agg #[v,u],.int .i64 V,.int .i64 A,.int .i64 (P:Int)].toArray w [] (fun r _=>r=Q4 es (eX es (oC V A P) es.length)):=by
 have h':=h
 have hd':=hd
 have hcap':=hcap
 obtain ⟨q,cap,rfl,hne,hle⟩:=h.opened
 obtain ⟨q2,cap2,rfl,_,_⟩:=hd.opened
 have hem:=dO hok
 obtain ⟨ez,FT⟩:∃ z:Int,z=0:=⟨0,rfl⟩
 have hck:∀ {wc:World},aB wc (.slice q es.length cap) 14 (es.map bI)→aB wc (.slice q2 ds.length cap2) 4 (ds.map dJ)→Fn Tryz.prog 64 [.agg #[.slice q es.length cap,.slice q2 ds.length cap2]].toArray wc [] (fun r _=>r=.int .i64 ez):=fun ha1 hb1=>by
  have:=kP es ds _ _ ha1 hb1 hcap'
  rw [hok] at this
  rw [FT];exact this
 refine enter Tryz.func215 ?_
 refine run ?_
 intro B R
 refine run ?_
 refine ax (fun wc hG=>hck ((dP.old h').good hG) ((dP.old hd').good hG)) ?_
 refine az ?_
 have hg0:jg (!decide (ez=0)) false=true:=by rw [FT];rfl
 simp only [hg0,bZ]
 refine xR ?_ hg0
 refine az ?_
 intro Z
 refine aZ (fun hg wc hG=>lD 15 [V,A] (dL (xs:=[dH V,dH A]) (hG.here ⟨Z,#[.int .i64 V,.int .i64 A],3⟩ mh) ax3 av4)) ?_
 refine az ?_
 have Zz:([V,A].all fun x=>PtD.bY x 0 15)=true:=by simp only [List.all_cons,List.all_nil,Bool.and_true,hV,hA]
 have hg1:jg (!decide (ez=0) || ![V,A].all fun x=>PtD.bY x 0 15) false=true:=by rw [FT,Zz];rfl
 simp only [hg1,bZ]
 refine xR ?_ hg1
 refine az ?_
 intro Z2
 refine aZ (fun hg wc hG=>lD 4095 [(P:Int)] (dL (xs:=[dH (P:Int)]) (hG.here ⟨Z2,#[.int .i64 (P:Int)],3⟩ mh) ax3 av4)) ?_
 refine az ?_
 have hPP:([(P:Int)].all fun x=>PtD.bY x 0 4095)=true:=by simp only [List.all_cons,List.all_nil,Bool.and_true];exact lV au' au'
 refine aj _ rfl (fun hc=>absurd hc (by rw [FT,Zz,hPP];simp)) (fun hc=>?_)
 refine run ?_
 intro T
 refine run ?_
 refine cO (σ:=Nat × bg) (fun z=>[(33,.int .i64 (z.1:Int))]) (fun z=>[⟨T,#[.int .i64 z.2.kind,.int .i64 z.2.jm,.int .i64 z.2.ku,.bool z.2.all,.int .i64 z.2.page,.int .i64 z.2.level,.int .i64 z.2.frame,.int .i64 z.2.mid,.bool z.2.r,.bool z.2.w,.bool z.2.x,.bool z.2.af,.bool z.2.ng,.int .i64 z.2.soft],114⟩,⟨R,#[.int .i64 0,.int .i64 0,.int .i64 0,.bool false,.int .i64 0,.int .i64 0,.int .i64 0,.int .i64 0,.bool false,.bool false,.bool false,.bool false,.bool false,.int .i64 0],114⟩]) (fun z=>z.1≤es.length∧z.2=Ff es (oC V A P) z.1) (fun z=>es.length - z.1) (0,default) ⟨Nat.zero_le _,rfl⟩ ?_
 rintro ⟨k,bst⟩ m hm ⟨hk,hB⟩
 dsimp only at hm hk hB ⊢
 refine run ?_
 refine aj _ rfl (fun hc=>?_) (fun hc=>?_)
 ·have hlt:k<es.length:=by simp at hc;omega
  obtain ⟨b,o,rfl⟩:=hne av5
  have hr:=h.row hlt
  have XN:=hem.1 _ (getD_mem hlt)
  have hstep:=Q3 (q:=oC V A P) (es:=es) (k:=k) (fun x hx=>hem.1 x hx) (fun x hx=>Dy hx) hlt
  rw [← hB] at hstep
  refine run ?_
  intro E
  refine az ?_
  refine ax (fun wc hG=>V3 (es.getD k default) XN 3 V A P hP wc) ?_
  rw [QZ]
  refine az ?_
  refine aj _ rfl (fun hc2=>?_) (fun hc2=>?_)
  ·rw [hc2,cond_true] at hstep
   refine run ?_
   exact bH (k + 1,es.getD k default) ⟨hlt,hstep.symm⟩ (hm:=by dsimp only;omega) (h2:=by (exact ak))
  ·rw [hc2,cond_false] at hstep
   refine run ?_
   exact bH (k + 1,bst) ⟨hlt,hstep.symm⟩ (hm:=by dsimp only;omega) (h2:=by (exact ak))
 ·have:k=es.length:=by simp at hc;omega
  subst this
  rw [pU]
  have hbl:=uI (es:=es) (q:=oC V A P) es.length
  have hlv:=XO (q:=oC V A P) (es:=es) (k:=es.length) (fun x hx=>hem.1 x hx) (fun x hx=>Dy hx) (Nat.le_refl _)
  rw [← hB] at hlv
  rw [show (bif decide (0≤eX es (oC V A P) es.length) then es.getD (eX es (oC V A P) es.length).toNat default else default)=bst from hB.symm]
  refine run ?_
  refine aj _ rfl (fun hc2=>?_) (fun hc2=>?_)
  ·rw [show decide (0≤eX es (oC V A P) es.length)=false by rw [← hlv];simpa using hc2]
   refine run ?_
   exact gG (cs:=(bI bst).toArray) rfl
  ·rw [show decide (0≤eX es (oC V A P) es.length)=true by rw [← hlv];simpa using hc2]
   refine run ?_
   exact gG (cs:=(bI bst).toArray) rfl
end
end
section
attribute [local irreducible] Hy St Ops DH gB iH iq fK DS fA jX
section
variable {w : World} {es : List bg} {ds : List dB} {v u : Value}
theorem UT (h:aB w v 14 (es.map bI)) (hd:aB w u 4 (ds.map dJ)) (hcap:∃ q c,v=.slice q es.length c∧es.length≤c) (hok:bK es ds=true) (e:bg) (he:e.may=true):
  Fn Tryz.prog 200 [.agg #[v,u],.agg (bI e).toArray].toArray w [] (fun r hn=>∃ v1 h1 v2 h2,r=.tuple #[.agg #[v1,v2],.int .i64 0]∧Own 114 14 v1 h1 ((fG es e).map bI)∧Own 121 4 v2 h2 (ds.map dJ)∧aF (h1++h2) hn):=by
 have h':=h
 have hd':=hd
 have hcap':=hcap
 obtain ⟨q,cap,rfl,hne,hle⟩:=h.opened
 obtain ⟨q2,cap2,rfl,_,_⟩:=hd.opened
 have hem:=dO hok
 obtain ⟨ez,FT⟩:∃ z:Int,z=0:=⟨0,rfl⟩
 have hck:∀ {wc:World},aB wc (.slice q es.length cap) 14 (es.map bI)→aB wc (.slice q2 ds.length cap2) 4 (ds.map dJ)→Fn Tryz.prog 64 [.agg #[.slice q es.length cap,.slice q2 ds.length cap2]].toArray wc [] (fun r _=>r=.int .i64 ez):=fun ha1 hb1=>by
  have:=kP es ds _ _ ha1 hb1 hcap'
  rw [hok] at this
  rw [FT];exact this
 refine enter Tryz.func200 ?_
 refine run ?_
 intro B C R
 refine run ?_
 refine ax (fun wc hG=>hck ((dP.old h').good hG) ((dP.old hd').good hG)) ?_
 refine az ?_
 refine aZ (fun hg wc hG=>KN e wc) ?_
 refine az ?_
 refine aj _ rfl (fun hc=>absurd hc (by rw [FT,he];simp)) (fun hc=>?_)
 refine run ?_
 refine gX (fun wc hG=>oL es ds _ _ ((dP.old h').good hG) ((dP.old hd').good hG) au' au') ?_
 rintro u1 hn1 ⟨v1,h1,v2,h2,rfl,sO,hO2,hle1⟩
 obtain ⟨q3,c3,e3⟩:=sO.opened
 obtain ⟨q4,c4,e4⟩:=hO2.opened
 rw [List.length_map] at e3 e4
 subst e3 e4
 refine aJ (⟨R,#[.slice none 0 0,.slice none 0 0],77⟩::⟨C,(bI e).toArray,114⟩::(h1++h2)) (cnt1 hle1) ?_
 refine run ?_
 intro X
 refine az ?_
 refine aZ (fun _ wc hG=>yc e es _ (sO.lie (fun b hb=>hG.here b aw9) av3)) ?_
 refine az ?_
 have hcc:decide ((es.length:Int)<8)=decide (es.length<8):=by
  rw [Bool.eq_iff_iff,decide_eq_true_eq,decide_eq_true_eq];omega
 refine aj _ rfl (fun hc2=>?_) (fun hc2=>?_)
 ·have hfl:fG es e=es++[e]:=by
   unfold fG
   rw [show (!(es.any fun t=>decide (t=e)) && decide (es.length<8))=true by
    rw [Bool.and_comm,← hcc];exact hc2]
   rfl
  rw [hfl]
  refine run ?_
  intro T
  refine run ?_
  refine xI (c:=bI e) (⟨T,#[.int .i64 e.kind,.int .i64 e.jm,.int .i64 e.ku,.bool e.all,.int .i64 e.page,.int .i64 e.level,.int .i64 e.frame,.int .i64 e.mid,.bool e.r,.bool e.w,.bool e.x,.bool e.af,.bool e.ng,.int .i64 e.soft],114⟩::⟨X,#[.slice q3 es.length c3,.slice q4 ds.length c4],77⟩::⟨R,#[.slice none 0 0,.slice none 0 0],77⟩::⟨C,(bI e).toArray,114⟩::h2) sO (fun v' ha' hA'=>?_) aw0 (bT (m:=14) mh rfl) (hperm:=by (exact au))
  rw [show es.map bI++[bI e]=(es++[e]).map bI by simp] at hA'
  obtain ⟨q5,c5,e5⟩:=hA'.opened
  rw [List.length_map] at e5
  subst e5
  refine aJ (⟨X,#[.slice q3 es.length c3,.slice q4 ds.length c4],77⟩::⟨R,#[.slice none 0 0,.slice none 0 0],77⟩::(ha'++h2)) ak ?_
  refine run ?_
  exact gG (cs:=#[.slice q5 (es++[e]).length c5,.slice q4 ds.length c4]) ⟨_,ha',_,h2,rfl,hA',hO2,by (exact ak)⟩
 ·have hfl:fG es e=es:=by
   unfold fG
   rw [show (!(es.any fun t=>decide (t=e)) && decide (es.length<8))=false by
    rw [Bool.and_comm,← hcc];exact hc2]
   rfl
  rw [hfl]
  refine run ?_
  exact gG (cs:=#[.slice q3 es.length c3,.slice q4 ds.length c4]) ⟨_,h1,_,h2,rfl,sO,hO2,by (exact ak)⟩
end
end
section
section
variable {P : Program} {T : Tab} {n : Nat} {w0 : World} {mu : List Nat} {l : Fm} {hp : Hp} {dd : Option Tmp} {ty : TypeId} {pos : String} {af : Array Edge} {gg : Option (Nat × Bool)} {Q : Exit → Fm → Hp → Prop} {all : Array Oper} {rest : List Oper}
theorem Hz (ok:bf P T) {t e sz b o m c:Nat} {cs:Array Value} {tb:TypeId} {x:Operand} {z:Value} {hp':Hp} (hx:ev l x=some (.slice (some ⟨b,o,none⟩) m c)) (ht:lk T.sl t=some (e,sz)) (hz:lk T.zs e=some z) (hzs:z.cells.size=sz) (hz1:z.cells.toList.all (·.oneCell')=true) (h0:0<sz) (hm:0<m)
  (hperm:(⟨b,cs,tb⟩::hp').Perm hp) (hfit:o + m * sz≤cs.size)
  (h:∀ zs:List Value,zs.length=m * sz→Ops P n w0 mu all rest l (⟨b,putAt cs o zs,tb⟩::hp') Q):Ops P n w0 mu all (⟨none,.call { callee:=.builtin .clear,args:=#[x],argTypes:=#[t] },ty,pos,af,none⟩::rest) l hp Q:=by
 intro ac w hk hG
 obtain ⟨hu,hsz⟩:=ok.zI ht
 have hG':=hG.perm hperm
 have hb:=hG'.here _ (List.mem_cons_self ..)
 obtain ⟨zs,hrep⟩:∃ zs,zs=(Builtin.zeroCells z.cells m).toList:=⟨_,rfl⟩
 have hlen:zs.length=m * sz:=by rw [hrep,Array.length_toList,size_zeroCells,hzs,Nat.mul_comm]
 have hall:∀ u∈zs,u.oneCell'=true:=fun u hu=>by
  rw [hrep] at hu
  simp only [Builtin.zeroCells,Array.mem_toList_iff,Array.mem_map,Array.mem_range] at hu
  obtain ⟨i,hi,rfl⟩:=hu
  have hlt:i % z.cells.size<z.cells.size:=Nat.mod_lt _ au'
  have h2:=(List.all_eq_true.1 hz1) (z.cells[i % z.cells.size]) av4
  simpa [hlt] using h2
 have hst:=run_storeCells_cells (P:=P) b o zs 0 w
  (fun j hj=>by rw [hlen] at hj;rw [cell_of_block hb];simp [show o + j<cs.size by omega])
  (fun j _=>kF hb) hall
 simp only [Nat.add_zero] at hst
 refine wpList_plain rfl fun K hK=>?_
 unfold Oper.wp execOp
 have hr:(Builtin.clear_ #[t] ty #[.slice (some ⟨b,o,none⟩) m c]).run P w=.ok (.tuple #[]) (w.setCells b o zs):=by
  obtain ⟨m',rfl⟩:∃ m',m=m' + 1:=⟨m - 1,by omega⟩
  simp [Builtin.clear_,run_underlying hu,wX (ok.LK hz) w,← hrep,hst]
 simp only [resolve,invoke,builtin,Sem.run_bind,Sem.run_pure,Result.andThen_ok,List.map_toArray,List.map_cons,List.map_nil,hk.ev hx,hr]
 exact hK _ _ (h zs hlen _ _ hk (Good.sets (w:=w) _ cs o w hG'))
end
theorem Row.La {g cap n i sz:Nat} {cur:Array Value} {xs:List (List Value)} (h:Row g cap cur sz n xs.flatten) (hall:∀ c∈xs,c.length=sz) (hi:i≤n) (hn:xs.length=n) {zs:List Value} (hz:i * sz + zs.length≤cur.size):Row g cap (putAt cur (i * sz) zs) sz i (xs.take i).flatten:=by
 have hle:i * sz≤n * sz:=Nat.mul_le_mul_right _ hi
 refine ⟨by rw [dI (xs.take i) (fun c hc=>hall c (List.mem_of_mem_take hc)),List.length_take,Nat.min_eq_left au'],Nat.le_trans hi h.le,h.max,by rw [AA];exact h.size,?_⟩
 have hl:(cur.toList.take (i * sz)).length=i * sz:=by
  rw [List.length_take,Nat.min_eq_left];simp;omega
 rw [AB _ _ _ hz,List.append_assoc,List.take_left' hl]
 have h1:=congrArg (List.take (i * sz)) h.take
 rw [List.take_take,Nat.min_eq_left hle] at h1
 rw [h1]
 conv=>lhs;rw [← List.take_append_drop i xs]
 rw [List.flatten_append,List.take_left']
 rw [dI (xs.take i) (fun c hc=>hall c (List.mem_of_mem_take hc)),List.length_take,Nat.min_eq_left au']
attribute [local irreducible] Hy St Ops DH gB iH iq fK DS fA
theorem Cj {w:World} {b:Nat} {cs:List Value} {t:TypeId} (h:w.heap[b]?=some (.cells cs.toArray t (0,0))):w.rangeAt b 0 cs:=by
 intro j u hu
 rw [cell_of_block h]
 simpa using hu
theorem ND (i:dB) (e:bg) (hi:i.may=true) (he:e.may=true) (E:Nat) (w:World) (hE:w.rangeAt E 0 (bI e)):Fn Tryz.prog 174 ([]++[Value.agg (dJ i).toArray]++[Value.pointer (some ⟨E,0,none⟩)]).toArray w [] (fun u _=>u=.bool (i.takes e)):=by
 refine enter Tryz.func174 ?_
 refine run ?_
 intro B
 refine ax (fun wc hG=>UA i e hi he wc) ?_
 refine run ?_
 exact fin1 rfl
theorem Q7 (ds:List dB) (hds:∀ i∈ds,i.may=true) (e:bg) (he:e.may=true) (L:Nat) {w:World} {lv:Value} (hL:w.cell? ⟨L,0,none⟩=some lv) (hl:aB w lv 4 (ds.map dJ)):Fn Tryz.prog 173 ([]++[Value.agg (bI e).toArray]++[Value.pointer (some ⟨L,0,none⟩)]).toArray w [] (fun u _=>u=.bool (ds.any fun i=>i.takes e)):=by
 obtain ⟨q,cap,rfl,_,_⟩:=hl.opened
 refine enter Tryz.func173 ?_
 refine run ?_
 intro E
 refine ax (fun wc hG=>qj (us:=[.pointer (some ⟨E,0,none⟩)]) (fun i=>i.takes e) ds _ (hl.good hG) (fun x hx w' ha=>ND x e (hds x hx) he E w' ?_)) ?_
 ·obtain ⟨hp,hg⟩:=ha
  intro j u hu
  refine hg.cell (Cj (cs:=bI e) (hG.here _ mh) j u hu) av4
 refine run ?_
 exact fin1 rfl
def yg (p:bg→Bool) (es:List bg):List bg:=es.filter fun x=>!p x
theorem keep_next (p:bg→Bool) (es:List bg) {j:Nat} (hj:j<es.length):yg p (es.take (j + 1))=yg p (es.take j)++bif p (es.getD j default) then [] else [es.getD j default]:=by
 rw [gI hj]
 unfold yg
 rw [List.filter_append]
 cases h:p (es.getD j default)<;>simp only [List.filter_cons,List.filter_nil,h,Bool.not_false,Bool.not_true,if_true,cond_true,cond_false,Bool.false_eq_true,if_false]
theorem UU {g cap n i:Nat} {cur:Array Value} {ys:List bg} (h:Row g cap cur 14 n (ys.map bI).flatten) (hi:i<ys.length) (e:bg):Row g cap (putAt cur (i * 14) (bI e)) 14 n ((ys.set i e).map bI).flatten:=by
 have hput:=h.put (fun c hc=>(kC c hc).1) (i:=i) (k:=0) (c:=bI (ys.getD i default)) (vs:=bI e) (by rw [List.getElem?_map,List.getElem?_eq_getElem hi,List.getD_eq_getElem?_getD,List.getElem?_eq_getElem hi];rfl) (Nat.le_refl 14)
 rw [show (bI (ys.getD i default)).take 0++bI e++(bI (ys.getD i default)).drop (0 + (bI e).length)=bI e from rfl,← List.map_set,Nat.add_zero] at hput
 exact hput
theorem NF (p:bg→Bool) (es:List bg) {k:Nat} (hk:k≤es.length) (h:∀ j,j<k→p (es.getD j default)=false):yg p (es.take k)=es.take k:=by
 refine List.filter_eq_self.2 fun x hx=>?_
 obtain ⟨j,hj,rfl⟩:=List.mem_take_iff_getElem.1 hx
 have:=h j au'
 rw [List.getD_eq_getElem?_getD,List.getElem?_eq_getElem au',Option.getD_some] at this
 simp [this]
structure DlS where
 i:Nat
 j:Nat
 cur:Array Value
 ys:List bg
theorem JE {w:World} {F:Nat} {us:List Value} (p:bg→Bool) (es:List bg) {v:Value} {ha:Hp} (hA:Own 114 14 v ha (es.map bI)) (hN:eP ha w) (hl:es.length<100000) (hF:∀ x,x∈es→∀ w',(∃ hp,Good w (ha.map (·.b)) hp w')→Fn Tryz.prog F ([]++[Value.agg (bI x).toArray]++us).toArray w' [] (fun u _=>u=.bool (p x))) (dY:mem mY F=true:=by rfl):
  Fn Tryz.prog 172 [v,.func (.func F) [].toArray us.toArray].toArray w (ha.map (·.b)) (fun u hn=>Own 114 14 u hn ((yg p es).map bI)):=by
 have hA0:=hA
 obtain ⟨q,cap,ev⟩:=hA.opened
 rw [List.length_map] at ev
 subst ev
 refine eF _ hN Tryz.func172 ?_
 refine run ?_
 refine ax (fun wc hG=>Bg p es _ (hA.lie (fun b hb=>hG.here b (by simpa using hb)) av3) (fun x hx w' ha=>hF x hx w' ?_) dY) ?_
 ·obtain ⟨hp,hg⟩:=ha
  exact ⟨_,hG.trans hg⟩
 refine run ?_
 by_cases hex:∃ j,j<es.length∧p (es.getD j default)=true
 ·obtain ⟨j1,hj1,hp1⟩:=hex
  obtain ⟨k0,hk0,hp0,ZA⟩:=oK p es j1 hp1
  have hlt0:k0<es.length:=by omega
  rw [iM hlt0 hp0 ZA]
  refine aj _ rfl (fun hc=>absurd hc av4) (fun hc=>?_)
  obtain ⟨g,cap',cur,ev,rfl,hrow⟩:=hA0.row (n:=es.length) av4 au'
  cases ev
  refine run ?_
  refine cO (σ:=DlS) (fun s=>[(5,.int .i64 (s.i:Int)),(6,.int .i64 (s.j:Int))]) (fun s=>[⟨g,s.cur,114⟩]) (fun s=>s.i<s.j∧s.j≤es.length∧s.ys.length=es.length∧s.ys.take s.i=yg p (es.take s.j)∧(∀ t,s.j≤t→t<es.length→s.ys.getD t default=es.getD t default)∧Row g cap s.cur 14 es.length (s.ys.map bI).flatten) (fun s=>es.length - s.j) ⟨k0,k0 + 1,cur,es⟩ ⟨by dsimp only;omega,hlt0,rfl,?_,fun _ _ _=>rfl,hrow⟩ ?_
  ·dsimp only
   rw [keep_next p es hlt0,hp0,NF p es au' ZA];simp
  rintro ⟨i,j,cur,ys⟩ m hm ⟨hij,hj,hyl,ZB,hyd,hrow⟩
  dsimp only at hm hij hj hyl ZB hyd hrow ⊢
  have hO:Own 114 14 (.slice (some ⟨g,0,none⟩) es.length cap) [⟨g,cur,114⟩] (ys.map bI):=⟨kC,.inr ⟨g,cap,cur,by rw [List.length_map,hyl],rfl,by rw [List.length_map,hyl];exact hrow⟩⟩
  refine run ?_
  refine aj _ rfl (fun hc=>?_) (fun hc=>?_)
  ·have hlt:j<es.length:=by simp at hc;omega
   have hyj:=hyd j (Nat.le_refl _) hlt
   have hcut:(cur.toList.drop (j * 14)).take 14=bI (es.getD j default):=by
    rw [← hyj]
    exact hrow.cut (fun c hc=>(kC c hc).1) (by rw [List.getElem?_map,List.getElem?_eq_getElem au',List.getD_eq_getElem?_getD,List.getElem?_eq_getElem au'];rfl)
   refine run ?_
   intro V
   refine oP (fun wc hG=>hF (es.getD j default) (getD_mem hlt) wc ⟨_,hG⟩) (dY:=dY) ?_
   refine run ?_
   refine aj _ rfl (fun hp=>?_) (fun hp=>?_)
   ·have hsz:=hrow.size
    have hle:=hrow.le
    refine run ?_
    have hpf:p (es.getD j default)=false:=by simpa using hp
    have hput:=UU hrow (i:=i) au' (es.getD j default)
    generalize TL:putAt cur (i * 14) (bI (es.getD j default))=cur' at hput
    simp only [putAt] at TL
    refine bH ⟨i + 1,j + 1,cur',ys.set i (es.getD j default)⟩ ⟨by dsimp only;omega,hlt,by dsimp only;rw [List.length_set];exact hyl,?_,fun t h1 h2=>?_,hput⟩ (hm:=by dsimp only;omega) (h2:=by dsimp only;rw [TL];(exact ak))
    ·dsimp only
     rw [keep_next p es hlt,hpf,← ZB]
     have hset:(ys.set i (es.getD j default)).take (i + 1)=ys.take i++[es.getD j default]:=by
      rw [List.set_eq_take_append_cons_drop,if_pos au',List.take_append,List.length_take,Nat.min_eq_left au',List.take_of_length_le (by rw [List.length_take];omega),show i + 1 - i=1 by omega]
      rfl
     rw [hset];rfl
    ·dsimp only at h1 h2 ⊢
     rw [List.getD_eq_getElem?_getD,List.getElem?_set_ne au',← List.getD_eq_getElem?_getD]
     exact hyd t au' h2
   ·refine run ?_
    have hpf:p (es.getD j default)=true:=by simpa using hp
    refine bH ⟨i,j + 1,cur,ys⟩ ⟨by dsimp only;omega,hlt,hyl,?_,fun t h1 h2=>hyd t (by dsimp only at h1;omega) h2,hrow⟩ (hm:=by dsimp only;omega) (h2:=by (exact ak))
    dsimp only
    rw [keep_next p es hlt,hpf,← ZB];simp
  ·have hge:j=es.length:=by simp at hc;omega
   subst hge
   refine run ?_
   have hle:=hrow.le
   have hsz:=hrow.size
   refine eH av2 (PM ay rfl rfl av2 au' au' au' (o':=i * 14) (m':=es.length - i) (c':=cap - i) au' au' au') ?_
   refine Hz ay (hp':=[]) rfl av2 av2 av2 av2 av1 au' (.refl _) (by rw [hsz,Nat.sub_mul];omega) (fun zs hzs=>?_)
   refine run ?_
   refine eH av2 (xH ay rfl rfl av2 au' au' (m':=i) av4 (.inr ⟨_,_,rfl⟩)) ?_
   refine run ?_
   refine fin1 ?_
   rw [List.take_length] at ZB
   rw [← ZB]
   refine ⟨kC,.inr ⟨g,cap,putAt cur (i * 14) zs,by rw [List.length_map,List.length_take,Nat.min_eq_left au'],rfl,?_⟩⟩
   rw [List.length_map,List.length_take,Nat.min_eq_left au',List.map_take]
   exact hrow.La (fun c hc=>(kC c hc).1) au' (by rw [List.length_map];exact hyl) (by rw [hzs,hsz,Nat.sub_mul];omega)
 ·have hno:∀ j,j<es.length→p (es.getD j default)=false:=fun j hj=>by
   cases hp:p (es.getD j default) with
   | false=>rfl
   | true=>exact absurd ⟨j,hj,hp⟩ hex
  rw [fO hno]
  refine aj _ rfl (fun hc=>?_) (fun hc=>absurd hc av4)
  refine run ?_
  refine fin1 ?_
  have:yg p es=es:=List.filter_eq_self.2 fun x hx=>by
   obtain ⟨j,hj,rfl⟩:=List.getElem_of_mem hx
   have:=hno j hj
   rw [List.getD_eq_getElem?_getD,List.getElem?_eq_getElem hj,Option.getD_some] at this
   simp [this]
  rw [this]
  exact hA0
end
section
section
variable {P : Program} {T : Tab} {n : Nat} {w0 : World} {mu : List Nat} {l : Fm} {hp : Hp} {ty : TypeId} {pos : String} {af : Array Edge} {Q : Exit → Fm → Hp → Prop} {all : Array Oper} {rest : List Oper}
theorem JF (ok:bf P T) {dd:Option Tmp} {gg:Option (Nat × Bool)} {t e sz m cap:Nat} {p:Option Addr} {kl kh km:IntKind} {x lo hi mx:Operand} {i j k:Int} (hx:ev l x=some (.slice p m cap)) (hlo:ev l lo=some (.int kl i)) (hhi:ev l hi=some (.int kh j)) (hmx:ev l mx=some (.int km k)) (ht:lk T.sl t=some (e,sz))
  (h0:0≤i) (h1:i≤j) (h2:j≤k) (h3:k≤cap):
  Hy P n w0 mu l hp ⟨dd,.slice t x (some lo) (some hi) (some mx),ty,pos,af,gg⟩ (sliced p i.toNat j.toNat k.toNat sz):=by
 obtain ⟨hu,hsz⟩:=ok.zI ht
 refine bz fun a w hk _=>?_
 have he:P.elem t=e:=by simp [Program.elem,hu]
 have hs:=run_sizeOf hsz w
 simp only [execOp,Option.map_some,Option.map_none,hk.ev hx,hk.ev hlo,hk.ev hhi,hk.ev hmx]
 simp only [Sem.run_bind]
 rw [run_sliceAt_slice (w:=w) t _ _ _ _ (mV hu),run_slice_lhm (w:=w) t _ m cap (mV hu) kl kh km i j k h0 h1 h2 h3,he,hs]
 simp
theorem JG (ok:bf P T) {t d e sz jG k m c a o g cap:Nat} {cur:Array Value} {x y:Operand} {z:Value} {xs news:List Value} {hp':Hp} (hd:Nat.blt d n=true) (hx:ev l x=some (.slice (some ⟨g,0,none⟩) k cap)) (hy:ev l y=some (.slice (some ⟨a,o,none⟩) m c)) (ht:lk T.sl t=some (e,sz))
  (hz:lk T.zs e=some z) (hzs:z.cells.size=sz) (hb:lk T.eb e=some jG) (hperm:(⟨g,cur,e⟩::hp').Perm hp) (hown:Row g cap cur sz k xs) (hl:news.length=m * sz) (hnews:lJ w0 mu hp a o news) (h1:news.all (·.oneCell')=true) (hroom:k + m≤cap)
  (h:∀ cur',Row g cap cur' sz (k + m) (xs++news)→Ops P n w0 mu all rest ((d,.slice (some ⟨g,0,none⟩) (k + m) cap)::l) (⟨g,cur',e⟩::hp') Q):Ops P n w0 mu all (⟨some d,.call { callee:=.builtin .append,args:=#[x,y],argTypes:=#[t,t] },ty,pos,af,none⟩::rest) l hp Q:=by
 intro ac w hk hG
 have hput:∀ v,Knows n ((d,v)::l) (ac.put (some d) v):=fun v=>Knows.put (d:=some d) hk (fun t ht=>by cases ht;simpa using hd) v
 obtain ⟨hu,hsz⟩:=ok.zI ht
 have hbb:=List.all_eq_true.1 ok.eb _ (iP hb)
 simp only [beq_iff_eq] at hbb
 obtain ⟨i,hi,hiz,his,hib⟩:=qU hsz hbb (ok.LK hz)
 subst his hib
 have hG':=hG.perm hperm
 have hg:=hG'.here _ (List.mem_cons_self ..)
 have hn:∀ j u,news[j]?=some u→w.cell? ((⟨a,o,none⟩:Addr).add j)=some u:=fun j u hj=>by rw [Addr.add_mid];exact hnews w hG j u hj
 refine wpList_plain rfl fun K hK=>?_
 have hfit:k * i.size + news.length≤cur.size:=by rw [hl,hown.size,← Nat.add_mul];exact Nat.mul_le_mul_right _ hroom
 have hr:=run_append_room (P:=P) w t ty e i hu hi g k cap cur hg ⟨a,o,none⟩ m c news hl hn (fun u hu=>List.all_eq_true.1 h1 u hu) hroom hfit
 unfold Oper.wp execOp
 simp only [resolve,invoke,builtin,Sem.run_bind,Sem.run_pure,Result.andThen_ok,List.map_toArray,List.map_cons,List.map_nil,hk.ev hx,hk.ev hy,hr]
 refine hK _ _ (h _ ⟨?_,hroom,hown.max,?_,?_⟩ _ _ (hput _) (hG'.row _))
 ·rw [List.length_append,hown.len,hl,Nat.add_mul]
 ·have:=hown.size
  simp only [List.size_toArray,List.length_append,List.length_take,List.length_drop,Array.length_toList]
  omega
 ·rw [hown.take,show (k + m) * i.size=(xs++news).length by rw [List.length_append,hown.len,hl,Nat.add_mul]]
  exact List.take_left
end
attribute [local irreducible] Hy St Ops DH gB iH iq fK DS fA jX
theorem Row.pre {g cap n i sz:Nat} {cur:Array Value} {xs:List (List Value)} (h:Row g cap cur sz n xs.flatten) (hall:∀ c∈xs,c.length=sz) (hi:i≤n) (hn:xs.length=n):Row g cap cur sz i (xs.take i).flatten:=by
 have hle:i * sz≤n * sz:=Nat.mul_le_mul_right _ hi
 have hf:(xs.take i).flatten.length=i * sz:=by rw [dI (xs.take i) (fun c hc=>hall c (List.mem_of_mem_take hc)),List.length_take,Nat.min_eq_left au']
 refine ⟨hf,Nat.le_trans hi h.le,h.max,h.size,?_⟩
 have h1:=congrArg (List.take (i * sz)) h.take
 rw [List.take_take,Nat.min_eq_left hle] at h1
 rw [h1]
 conv=>lhs;rw [← List.take_append_drop i xs]
 rw [List.flatten_append,List.take_left' hf]
theorem Row.post {g cap n i sz:Nat} {cur:Array Value} {xs:List (List Value)} (h:Row g cap cur sz n xs.flatten) (hall:∀ c∈xs,c.length=sz) (hi:i≤n) (hn:xs.length=n):(cur.toList.drop (i * sz)).take ((n - i) * sz)=(xs.drop i).flatten:=by
 have hf:(xs.take i).flatten.length=i * sz:=by rw [dI (xs.take i) (fun c hc=>hall c (List.mem_of_mem_take hc)),List.length_take,Nat.min_eq_left au']
 have h1:=congrArg (List.drop (i * sz)) h.take
 rw [List.drop_take] at h1
 rw [Nat.sub_mul,h1]
 conv=>lhs;rw [← List.take_append_drop i xs]
 rw [List.flatten_append,List.drop_left' hf]
theorem NG {w:World} (es:List bg) (i:Nat) (hi:i<es.length) (hl:es.length<100000) {v:Value} {ha:Hp} (hA:Own 114 14 v ha (es.map bI)) (hN:eP ha w):
  Fn Tryz.prog 164 [v,.int .i64 (i:Int),.int .i64 ((i + 1:Nat):Int)].toArray w (ha.map (·.b)) (fun u hn=>Own 114 14 u hn ((es.eraseIdx i).map bI)):=by
 obtain ⟨g,cap,cur,rfl,rfl,hrow⟩:=hA.row (n:=es.length) av4 au'
 have hle:=hrow.le
 have hsz:=hrow.size
 refine eF _ hN Tryz.func164 ?_
 refine run ?_
 refine eH av2 (JF ay rfl rfl rfl rfl av2 au' au' au' au') ?_
 refine run ?_
 refine aj _ rfl (fun hc=>absurd hc aw0) (fun hc=>?_)
 refine run ?_
 have hall:∀ c∈(es.drop (i + 1)).map bI,c.length=14∧c.all (·.oneCell')=true:=fun c hc=>by
  obtain ⟨x,_,rfl⟩:=List.mem_map.1 hc
  exact ⟨rfl,rfl⟩
 have hdl:(es.drop (i + 1)).length=es.length - (i + 1):=List.length_drop
 refine dX (σ:=Array Value) (fun _=>[(0,.slice (some ⟨g,0,none⟩) (es.length - 1) cap)]) (fun cur'=>[⟨g,cur',114⟩]) (fun cur'=>Row g cap cur' 14 (es.length - 1) ((es.eraseIdx i).map bI).flatten) ?_ ?_
 ·refine iV 6 ?_
  refine cu ?_
  refine qo (xH ay rfl rfl av2 au' au' (m':=i) av4 (.inr ⟨_,_,rfl⟩)) ?_
  refine cu ?_
  refine qo (Dc ay rfl rfl av2 au' au') ?_
  refine cu ?_
  have hpre:=hrow.pre (fun c hc=>(kC c hc).1) (i:=i) au' av4
  by_cases hlast:i + 1=es.length
  ·rw [show sliced (some ⟨g,0,none⟩) (((i + 1:Nat):Int)).toNat es.length cap 14=.slice (if cap=i + 1 then some ⟨g,0,none⟩ else some ⟨g,0 + (i + 1) * 14,none⟩) 0 (cap - (i + 1)) by
    simp [sliced,hlast,mD]]
   refine Dp ay av2 rfl au' rfl av2 av2 ?_
   refine run ?_
   rw [show i=es.length - 1 by omega]
   refine dA cur ?_
   rw [List.eraseIdx_eq_take_drop_succ,show es.length - 1 + 1=es.length by omega,List.drop_length,List.append_nil,List.map_take]
   rw [show es.length - 1=i by omega]
   exact hpre
  ·rw [show sliced (some ⟨g,0,none⟩) (((i + 1:Nat):Int)).toNat es.length cap 14=.slice (some ⟨g,(i + 1) * 14,none⟩) (es.length - (i + 1)) (cap - (i + 1)) by
    have:¬ cap=i + 1:=by omega
    simp [sliced,this,mD]]
   have hpost:=hrow.post (fun c hc=>(kC c hc).1) (i:=i + 1) au' av4
   rw [← List.map_drop] at hpost
   refine JG ay (hp':=[]) av2 rfl rfl av2 av2 av2 av2 (.refl _) hpre (news:=((es.drop (i + 1)).map bI).flatten) (by rw [dI _ (fun c hc=>(hall c hc).1),List.length_map,hdl]) (bT (m:=(es.length - (i + 1)) * 14) mh hpost) (by
    rw [List.all_eq_true]
    intro u hu
    obtain ⟨c,hc,hu⟩:=List.mem_flatten.1 hu
    exact List.all_eq_true.1 (hall c hc).2 u hu) au' (fun cur' hrow'=>?_)
   refine run ?_
   rw [show i + (es.length - (i + 1))=es.length - 1 by omega] at hrow' ⊢
   refine dA cur' ?_
   rw [List.eraseIdx_eq_take_drop_succ,List.map_append,List.flatten_append,List.map_take]
   exact hrow'
 rintro cur' hrow'
 have hsz':=hrow'.size
 have hel:(es.eraseIdx i).length=es.length - 1:=by rw [List.length_eraseIdx];simp [hi]
 refine run ?_
 refine eH av2 (C9 ay rfl rfl rfl av2 au' au' au' au' (o':=(es.length - 1) * 14) au' (m':=1) au' (c':=cap - (es.length - 1)) au') ?_
 refine Hz ay (hp':=[]) rfl av2 av2 av2 av2 av1 au' (.refl _) (by rw [hsz'];omega) (fun zs hzs=>?_)
 refine run ?_
 refine fin1 ?_
 refine ⟨kC,.inr ⟨g,cap,putAt cur' ((es.length - 1) * 14) zs,by rw [List.length_map,hel],rfl,?_⟩⟩
 have:=hrow'.La (i:=es.length - 1) (fun c hc=>(kC c hc).1) (Nat.le_refl _) (by rw [List.length_map];exact hel) (zs:=zs) (by rw [hzs,hsz'];omega)
 rw [List.take_of_length_le (by rw [List.length_map,hel];exact Nat.le_refl _)] at this
 rw [List.length_map,hel]
 exact this
section
variable {w : World} {es : List bg} {ds : List dB} {v u : Value}
theorem UW (h:aB w v 14 (es.map bI)) (hd:aB w u 4 (ds.map dJ)) (hcap:∃ q c,v=.slice q es.length c∧es.length≤c) (hok:bK es ds=true) (i:Int):
  Fn Tryz.prog 137 [.agg #[v,u],.int .i64 i].toArray w [] (fun r hn=>∃ v1 h1 v2 h2,r=.tuple #[.agg #[v1,v2],.int .i64 (bif decide (0≤i) && decide (i<(es.length:Int)) then 0 else 3)]∧((decide (0≤i) && decide (i<(es.length:Int)))=true→Own 114 14 v1 h1 ((kN es i).map bI)∧Own 121 4 v2 h2 (ds.map dJ))∧((decide (0≤i) && decide (i<(es.length:Int)))=false→v1=.slice none 0 0∧v2=.slice none 0 0)∧aF (h1++h2) hn):=by
 have h':=h
 have hd':=hd
 have hcap':=hcap
 obtain ⟨q,cap,rfl,hne,hle⟩:=h.opened
 obtain ⟨q2,cap2,rfl,_,_⟩:=hd.opened
 have hem:=dO hok
 refine enter Tryz.func137 ?_
 refine run ?_
 intro B R
 refine run ?_
 refine ax (fun wc hG=>kP es ds _ _ ((dP.old h').good hG) ((dP.old hd').good hG) hcap') ?_
 rw [hok]
 refine aX ?_
 have hin:(decide (0≤i) && decide (i<(es.length:Int)))=!(decide (i<0) || decide ((es.length:Int)≤i)):=by
  rw [Bool.not_or,← decide_not,← decide_not]
  congr 1<;>(rw [Bool.eq_iff_iff,decide_eq_true_eq,decide_eq_true_eq];omega)
 refine aj _ rfl (fun hc=>?_) (fun hc=>?_)
 ·rw [hin,hc]
  refine run ?_
  exact gG (cs:=#[.slice none 0 0,.slice none 0 0]) ⟨_,[],_,[],rfl,fun h=>absurd h av4,fun _=>⟨rfl,rfl⟩,by (exact ak)⟩
 ·rw [hin,hc]
  have hii:0≤i∧i<es.length:=by simp at hc;omega
  obtain ⟨k,rfl⟩:∃ k:Nat,i=(k:Int):=⟨i.toNat,by omega⟩
  have hdl:kN es (k:Int)=es.eraseIdx k:=by
   unfold kN
   rw [hin,hc];rfl
  rw [hdl]
  refine run ?_
  refine gX (fun wc hG=>oL es ds _ _ ((dP.old h').good hG) ((dP.old hd').good hG) au' au') ?_
  rintro u1 hn1 ⟨v1,h1,v2,h2,rfl,sO,hO2,hle1⟩
  obtain ⟨q3,c3,e3⟩:=sO.opened
  obtain ⟨q4,c4,e4⟩:=hO2.opened
  rw [List.length_map] at e3 e4
  subst e3 e4
  refine aJ (⟨R,#[.slice none 0 0,.slice none 0 0],77⟩::(h1++h2)) (cnt1 hle1) ?_
  refine run ?_
  intro X
  refine run ?_
  refine dK h1 (⟨X,#[.slice q3 es.length c3,.slice q4 ds.length c4],77⟩::⟨R,#[.slice none 0 0,.slice none 0 0],77⟩::h2) (fun wc hG=>NG es k au' au' sO hG.dG) ?_ au
  rintro v5 h5 hO5
  obtain ⟨q5,c5,e5⟩:=hO5.opened
  subst e5
  refine aJ (⟨X,#[.slice q3 es.length c3,.slice q4 ds.length c4],77⟩::⟨R,#[.slice none 0 0,.slice none 0 0],77⟩::(h5++h2)) ak ?_
  refine run ?_
  exact gG (cs:=#[.slice q5 ((es.eraseIdx k).map bI).length c5,.slice q4 ds.length c4]) ⟨_,h5,_,h2,rfl,fun _=>⟨hO5,hO2⟩,fun h=>absurd h av4,by (exact ak)⟩
end
end
section
attribute [local irreducible] Hy St Ops DH gB iH iq fK DS fA jX
abbrev vJ (c:kW) (mv ev dv rv:Value):Array Value:=#[mv,ev,dv,.int .i64 c.pk.cpu,.bool c.pk.fill,.bool c.pk.aO,.bool c.pk.walk,.int .i64 c.pk.drop,.bool c.pk.use,.bool c.one.on,.int .i64 c.one.frame,.int .i64 c.one.tag,.bool c.two.on,.int .i64 c.two.frame,.int .i64 c.two.tag,.int .i64 (c.page:Int),.int .i64 c.acc,rv]
theorem Own.cap {e sz:Nat} {v:Value} {hb:Hp} {α:Type} {f:α→List Value} {xs:List α} (hA:Own e sz v hb (xs.map f)):∃ q c,v=.slice q xs.length c∧xs.length≤c:=by
 rcases hA.2 with ⟨e1,e2,_⟩ | ⟨g,cap,cur,e1,_,hrow⟩
 ·rw [List.map_eq_nil_iff] at e1
  subst e1
  exact ⟨none,0,e2,Nat.le_refl _⟩
 ·rw [List.length_map] at e1 hrow
  exact ⟨_,cap,e1,hrow.le⟩
theorem Bz (c:kW) {w:World} {Wb:Nat} {mv ev dv rv:Value} {he hd hr:Hp} (es:List bg) (ds:List dB) (hok:bK es ds=true) (e:bg) (hem:e.may=true) (hm:∃ q n cp,mv=.slice q n cp) (hr':∃ q n cp,rv=.slice q n cp)
  (h1:Own 114 14 ev he (es.map bI)) (h2:Own 121 4 dv hd (ds.map dJ)) (hN:eP (⟨Wb,vJ c mv ev dv rv,194⟩::(he++hd++hr)) w):
  Fn Tryz.prog 168 [.pointer (some ⟨Wb,0,none⟩),.agg (bI e).toArray].toArray w (Wb::(he++hd++hr).map (·.b)) (fun u hn=>∃ ev' rZ he' hd',u=.tuple #[]∧Own 114 14 ev' he' ((fG es e).map bI)∧Own 121 4 rZ hd' (ds.map dJ)∧aF (⟨Wb,vJ c mv ev' rZ rv,194⟩::(he'++hd'++hr)) hn):=by
 have hcap:=h1.cap
 have ao6:=(dO hok).2
 obtain ⟨qm,nm,cm,rfl⟩:=hm
 obtain ⟨qr,nr,cr,rfl⟩:=hr'
 obtain ⟨qe,ce,ee⟩:=h1.opened
 obtain ⟨qd,cd,ed⟩:=h2.opened
 rw [List.length_map] at ee ed
 subst ee ed
 simp only [vJ] at hN ⊢
 refine eF _ hN Tryz.func168 ?_
 refine run ?_
 intro B
 refine run ?_
 have hfl:=fun {wc:World} (ha:aB wc (.slice qe es.length ce) 14 (es.map bI)) (hb:aB wc (.slice qd ds.length cd) 4 (ds.map dJ))=>UT ha hb hcap hok e hem
 refine iR 10 [0,1,2,3,4,5] [6] [7,8,9] [10,11] [12] ?_
 refine fB ?_
 refine iW (fun wc hG=>hfl (h1.lie (fun b hb=>hG.here b aw9) av3) (h2.lie (fun b hb=>hG.here b aw9) av3)) (hfl (h1.lie (fun b hb=>hN.here b aw9) av3) (h2.lie (fun b hb=>hN.here b aw9) av3)).some ?_
 refine gZ ?_
 rintro u5 Sm ⟨v5,h5,v6,h6,rfl,A8,EW,wH⟩
 obtain ⟨q5,c5,e5⟩:=A8.opened
 obtain ⟨q6,c6,e6⟩:=EW.opened
 rw [List.length_map] at e5 e6
 subst e5 e6
 refine ni ?_
 refine aS ?_
 refine aS ?_
 refine fC ?_
 refine jU ?_
 refine rP ?_
 refine fC ?_
 simp only [DN,List.cons_append,List.nil_append,List.append_nil]
 refine aV (b:=Wb) (tb:=194) (cs:=#[.slice qm nm cm,.slice qe es.length ce,.slice qd ds.length cd,.int .i64 c.pk.cpu,.bool c.pk.fill,.bool c.pk.aO,.bool c.pk.walk,.int .i64 c.pk.drop,.bool c.pk.use,.bool c.one.on,.int .i64 c.one.frame,.int .i64 c.one.tag,.bool c.two.on,.int .i64 c.two.frame,.int .i64 c.two.tag,.int .i64 (c.page:Int),.int .i64 c.acc,.slice qr nr cr]) (cs':=#[.slice qm nm cm,.slice q5 (fG es e).length c5,.slice q6 ds.length c6,.int .i64 c.pk.cpu,.bool c.pk.fill,.bool c.pk.aO,.bool c.pk.walk,.int .i64 c.pk.drop,.bool c.pk.use,.bool c.one.on,.int .i64 c.one.frame,.int .i64 c.one.tag,.bool c.two.on,.int .i64 c.two.frame,.int .i64 c.two.tag,.int .i64 (c.page:Int),.int .i64 c.acc,.slice qr nr cr]) (hp':=Sm++(⟨B,(bI e).toArray,114⟩::(he++hd++hr))) ?_ au
 refine aH ?_
 refine di ?_
 refine run ?_
 exact fin0 ⟨_,_,h5,h6,rfl,A8,EW,by (exact cnt1 wH)⟩
theorem Q8 (ws:List Nat) (frame:Int) (mid:Nat) (acc:Int):((jo ws true frame mid acc).f.kind=0→(jo ws true frame mid acc).h.mid=(mid:Int))∧((jo ws true frame mid acc).f.kind ≠ 0→(jo ws true frame mid acc).h.frame=0):=by
 simp only [jo,Bool.not_true,cond_false,Jw]
 cases hc:decide ((vG (jA ws 2 frame mid) mid acc).kind=0) with
 | true=>exact ⟨fun _=>rfl,fun h=>absurd (of_decide_eq_true hc) h⟩
 | false=>exact ⟨fun h=>absurd h (of_decide_eq_false hc),fun _=>rfl⟩
theorem Fg (c:kW) (hk:kX c) (cap:Nat) (hcc:c.ws.length≤cap) {p:Option Addr} {w:World} {Wb:Nat} {ev dv rv:Value} {he hd hr:Hp} (s:qx) (ds:List dB) (mid:Nat) (hmid:mid≤4095) (acc:Int) (ha:PtD.bY acc 0 2=true) (hE:gU c.ws.length s.es ds) (hrl:s.rd.length<100000)
  (hm:dP w (Wb::(he++hd++hr).map (·.b)) (.slice p c.ws.length cap) 1 (c.ws.map uV)) (h1:Own 114 14 ev he (s.es.map bI)) (h2:Own 121 4 dv hd (ds.map dJ)) (h3:Own 3 1 rv hr (s.rd.map dH)) (hN:eP (⟨Wb,vJ c (.slice p c.ws.length cap) ev dv rv,194⟩::(he++hd++hr)) w):
  Fn Tryz.prog 165 [.pointer (some ⟨Wb,0,none⟩),.int .i64 (mid:Int),.int .i64 acc].toArray w (Wb::(he++hd++hr).map (·.b)) (fun u hn=>∃ (H:kV) (ev' rZ rv':Value) (he' hd' hr':Hp),u=.tuple #[Sj H,xZ (dV c s mid acc).f]∧(H.frame=(dV c s mid acc).n∧((dV c s mid acc).f.kind=0→H.mid=(mid:Int)∧(⟨H.r,H.w,H.x,H.af,H.ng⟩:AtD)=(dV c s mid acc).a))∧Own 114 14 ev' he' ((dV c s mid acc).s.es.map bI)∧Own 121 4 rZ hd' (ds.map dJ)∧Own 3 1 rv' hr' ((dV c s mid acc).s.rd.map dH)∧aF (⟨Wb,vJ c (.slice p c.ws.length cap) ev' rZ rv',194⟩::(he'++hd'++hr')) hn):=by
 have hcap:=h1.cap
 obtain ⟨qe,ce,ee⟩:=h1.opened
 obtain ⟨qd,cd,ed⟩:=h2.opened
 obtain ⟨qr,cr,er⟩:=h3.opened
 rw [List.length_map] at ee ed er
 subst ee ed er
 simp only [vJ] at hN ⊢
 have BV:=bD hk.mem
 have hem:=hE.may
 have htw:=bQ.iF hk.two
 refine eF _ hN Tryz.func165 ?_
 refine run ?_
 intro R1 R2
 refine run ?_
 refine dX (σ:=Unit) (fun _=>[]) (fun _=>⟨R2,#[.int .i64 0,.int .i64 0,.int .i64 0,.bool false,.int .i64 0],43⟩::⟨R1,#[.int .i64 0,.int .i64 0,.bool false,.bool false,.bool false,.bool false,.bool false,.int .i64 0,.int .i64 0],234⟩::⟨Wb,#[.slice p c.ws.length cap,.slice qe s.es.length ce,.slice qd ds.length cd,.int .i64 c.pk.cpu,.bool c.pk.fill,.bool c.pk.aO,.bool c.pk.walk,.int .i64 c.pk.drop,.bool c.pk.use,.bool c.one.on,.int .i64 c.one.frame,.int .i64 c.one.tag,.bool c.two.on,.int .i64 c.two.frame,.int .i64 c.two.tag,.int .i64 (c.page:Int),.int .i64 c.acc,.slice qr s.rd.length cr],194⟩::(he++hd++hr)) (fun _=>(c.pk.use && decide (0≤nN c s mid acc))=false) ?_ ?_
 ·refine aj _ rfl (fun hc=>?_) (fun hc=>?_)
  ·refine run ?_
   have hmm:=fun {wc:World} (ha1:aB wc (.slice qe s.es.length ce) 14 (s.es.map bI)) (hb1:aB wc (.slice qd ds.length cd) 4 (ds.map dJ))=>XP ha1 hb1 hcap hE.vI c.two.tag mid acc (lV htw.2.1 htw.2.2) hmid ha
   rw [pU,show fM (rV c.two.tag mid acc) s.es=nN c s mid acc from rfl] at hmm
   obtain ⟨E,hEE⟩:∃ E,E=(bif decide (0≤nN c s mid acc) then s.es.getD (nN c s mid acc).toNat default else default):=⟨_,rfl⟩
   rw [← hEE] at hmm
   refine oV 17 16 [0,1,2,3,4,5,6,7,8,9,10,11,12,13,14] [15] [16] (⟨R2,#[.int .i64 0,.int .i64 0,.int .i64 0,.bool false,.int .i64 0],43⟩::⟨R1,#[.int .i64 0,.int .i64 0,.bool false,.bool false,.bool false,.bool false,.bool false,.int .i64 0,.int .i64 0],234⟩::⟨Wb,#[.slice p c.ws.length cap,.slice qe s.es.length ce,.slice qd ds.length cd,.int .i64 c.pk.cpu,.bool c.pk.fill,.bool c.pk.aO,.bool c.pk.walk,.int .i64 c.pk.drop,.bool c.pk.use,.bool c.one.on,.int .i64 c.one.frame,.int .i64 c.one.tag,.bool c.two.on,.int .i64 c.two.frame,.int .i64 c.two.tag,.int .i64 (c.page:Int),.int .i64 c.acc,.slice qr s.rd.length cr],194⟩::(he++hd++hr)) ?_
   refine dh ?_
   refine kU (fun wc hx hG=>hmm (h1.lie (fun b hb=>hG.here b aw9) av3) (h2.lie (fun b hb=>hG.here b aw9) av3)) ?_
   refine dh ?_
   refine dR ?_
   refine gZ ?_
   rintro _ _ ⟨X,rfl,rfl⟩
   simp only [DN,List.cons_append,List.nil_append,List.append_nil]
   refine aV (b:=X) (tb:=114) (cs:=#[.int .i64 0,.int .i64 0,.int .i64 0,.bool false,.int .i64 0,.int .i64 0,.int .i64 0,.int .i64 0,.bool false,.bool false,.bool false,.bool false,.bool false,.int .i64 0]) (cs':=#[.int .i64 E.kind,.int .i64 E.jm,.int .i64 E.ku,.bool E.all,.int .i64 E.page,.int .i64 E.level,.int .i64 E.frame,.int .i64 E.mid,.bool E.r,.bool E.w,.bool E.x,.bool E.af,.bool E.ng,.int .i64 E.soft]) (hp':=⟨R2,#[.int .i64 0,.int .i64 0,.int .i64 0,.bool false,.int .i64 0],43⟩::⟨R1,#[.int .i64 0,.int .i64 0,.bool false,.bool false,.bool false,.bool false,.bool false,.int .i64 0,.int .i64 0],234⟩::⟨Wb,#[.slice p c.ws.length cap,.slice qe s.es.length ce,.slice qd ds.length cd,.int .i64 c.pk.cpu,.bool c.pk.fill,.bool c.pk.aO,.bool c.pk.walk,.int .i64 c.pk.drop,.bool c.pk.use,.bool c.one.on,.int .i64 c.one.frame,.int .i64 c.one.tag,.bool c.two.on,.int .i64 c.two.frame,.int .i64 c.two.tag,.int .i64 (c.page:Int),.int .i64 c.acc,.slice qr s.rd.length cr],194⟩::(he++hd++hr)) ?_ (List.Perm.refl _)
   refine aH ?_
   refine di ?_
   refine run ?_
   refine aj _ rfl (fun hc2=>?_) (fun hc2=>?_)
   ·have h0:0≤nN c s mid acc:=by
     cases hq:decide (0≤nN c s mid acc) with
     | true=>exact of_decide_eq_true hq
     | false=>rw [hq] at hc2;simp at hc2
    have XD:dV c s mid acc=⟨s,E.frame,Zm E,jQ⟩:=by rw [hEE];simp only [dV,hc,h0,decide_true,Bool.and_self,cond_true]
    rw [XD]
    refine run ?_
    exact nO (cs:=#[.int .i64 E.frame,.int .i64 (mid:Int),.bool E.r,.bool E.w,.bool E.x,.bool E.af,.bool E.ng,.int .i64 E.soft,.int .i64 0]) (cs2:=#[.int .i64 0,.int .i64 0,.int .i64 0,.bool false,.int .i64 0]) ⟨⟨E.frame,mid,E.r,E.w,E.x,E.af,E.ng,E.soft,0⟩,_,_,_,he,hd,hr,rfl,⟨rfl,fun _=>⟨rfl,rfl⟩⟩,h1,h2,h3,by (exact ak)⟩
   ·refine run ?_
    exact dA () (by
     rw [hc,Bool.true_and]
     cases hq:decide (0≤nN c s mid acc) with
     | false=>rfl
     | true=>rw [hq] at hc2;simp at hc2)
  ·refine run ?_
   exact dA () (by rw [hc];rfl)
 rintro ⟨⟩ hcut
 have XD:dV c s mid acc=vH c s mid (jo c.ws true c.two.frame mid acc):=by simp only [dV,hcut,cond_false]
 rw [XD]
 have hcl:∀ {wc:World},aB wc (.slice p c.ws.length cap) 1 (c.ws.map uV)→Fn Tryz.prog 194 [.agg #[.slice p c.ws.length cap],.agg #[.bool c.two.on,.int .i64 c.two.frame,.int .i64 c.two.tag],.int .i64 (mid:Int),.int .i64 acc].toArray wc [] (fun u hn=>∃ rv' hr',u=.tuple #[Sj (jo c.ws true c.two.frame mid acc).h,xZ (jo c.ws true c.two.frame mid acc).f,rv',.int .i64 0]∧Own 3 1 rv' hr' ((jo c.ws true c.two.frame mid acc).rd.map dH)∧aF hr' hn):=fun h=>by
  rw [hk.on]
  exact XL c.ws hk.uZ cap hk.mem hcc h c.two.frame c.two.tag htw.1.1 htw.1.2 mid hmid acc ha
 refine run ?_
 refine iR 18 [0,1,2,3,4,5,6,7,8,9] [10,16,17] [11,12,13,14,15] [20,21] [18,19] ?_
 refine fB ?_
 refine iW (fun wc hG=>hcl (hm.good hG)) (hcl hm.at_).some ?_
 refine dR ?_
 refine dR ?_
 refine gZ ?_
 rintro _ _ ⟨F,rfl,rfl⟩ _ _ ⟨H,rfl,rfl⟩ u hn2 ⟨v2,h2',rfl,hO,hle2⟩
 have hL4:=EU c.ws c.two.frame mid acc
 have QL:=EO (ws:=c.ws) (frame:=c.two.frame) (mid:=mid) (acc:=acc)
 have hLh:=Q8 c.ws c.two.frame mid acc
 generalize jo c.ws true c.two.frame mid acc=L at hO hL4 QL hLh ⊢
 obtain ⟨q2,c2,e2⟩:=hO.opened
 rw [List.length_map] at e2
 subst e2
 refine ni ?_
 refine aS ?_
 refine aS ?_
 refine aS ?_
 refine aS ?_
 refine fC ?_
 refine iE ?_
 refine iE ?_
 refine fC ?_
 simp only [DN,List.cons_append,List.nil_append,List.append_nil]
 refine aV (b:=H) (tb:=234) (cs:=#[.int .i64 0,.int .i64 0,.bool false,.bool false,.bool false,.bool false,.bool false,.int .i64 0,.int .i64 0]) (cs':=#[.int .i64 L.h.frame,.int .i64 L.h.mid,.bool L.h.r,.bool L.h.w,.bool L.h.x,.bool L.h.af,.bool L.h.ng,.int .i64 L.h.soft,.int .i64 L.h.level]) (hp':=⟨F,#[.int .i64 0,.int .i64 0,.int .i64 0,.bool false,.int .i64 0],43⟩::(hn2++(⟨R2,#[.int .i64 0,.int .i64 0,.int .i64 0,.bool false,.int .i64 0],43⟩::⟨R1,#[.int .i64 0,.int .i64 0,.bool false,.bool false,.bool false,.bool false,.bool false,.int .i64 0,.int .i64 0],234⟩::⟨Wb,#[.slice p c.ws.length cap,.slice qe s.es.length ce,.slice qd ds.length cd,.int .i64 c.pk.cpu,.bool c.pk.fill,.bool c.pk.aO,.bool c.pk.walk,.int .i64 c.pk.drop,.bool c.pk.use,.bool c.one.on,.int .i64 c.one.frame,.int .i64 c.one.tag,.bool c.two.on,.int .i64 c.two.frame,.int .i64 c.two.tag,.int .i64 (c.page:Int),.int .i64 c.acc,.slice qr s.rd.length cr],194⟩::(he++hd++hr)))) ?_ au
 refine aV (b:=F) (tb:=43) (cs:=#[.int .i64 0,.int .i64 0,.int .i64 0,.bool false,.int .i64 0]) (cs':=#[.int .i64 L.f.kind,.int .i64 L.f.stage,.int .i64 L.f.level,.bool L.f.walk,.int .i64 L.f.page]) (hp':=⟨H,#[.int .i64 L.h.frame,.int .i64 L.h.mid,.bool L.h.r,.bool L.h.w,.bool L.h.x,.bool L.h.af,.bool L.h.ng,.int .i64 L.h.soft,.int .i64 L.h.level],234⟩::(hn2++(⟨R2,#[.int .i64 0,.int .i64 0,.int .i64 0,.bool false,.int .i64 0],43⟩::⟨R1,#[.int .i64 0,.int .i64 0,.bool false,.bool false,.bool false,.bool false,.bool false,.int .i64 0,.int .i64 0],234⟩::⟨Wb,#[.slice p c.ws.length cap,.slice qe s.es.length ce,.slice qd ds.length cd,.int .i64 c.pk.cpu,.bool c.pk.fill,.bool c.pk.aO,.bool c.pk.walk,.int .i64 c.pk.drop,.bool c.pk.use,.bool c.one.on,.int .i64 c.one.frame,.int .i64 c.one.tag,.bool c.two.on,.int .i64 c.two.frame,.int .i64 c.two.tag,.int .i64 (c.page:Int),.int .i64 c.acc,.slice qr s.rd.length cr],194⟩::(he++hd++hr)))) ?_ au
 refine aH ?_
 refine di ?_
 refine aJ (⟨F,#[.int .i64 L.f.kind,.int .i64 L.f.stage,.int .i64 L.f.level,.bool L.f.walk,.int .i64 L.f.page],43⟩::⟨H,#[.int .i64 L.h.frame,.int .i64 L.h.mid,.bool L.h.r,.bool L.h.w,.bool L.h.x,.bool L.h.af,.bool L.h.ng,.int .i64 L.h.soft,.int .i64 L.h.level],234⟩::⟨R2,#[.int .i64 0,.int .i64 0,.int .i64 0,.bool false,.int .i64 0],43⟩::⟨R1,#[.int .i64 0,.int .i64 0,.bool false,.bool false,.bool false,.bool false,.bool false,.int .i64 0,.int .i64 0],234⟩::⟨Wb,#[.slice p c.ws.length cap,.slice qe s.es.length ce,.slice qd ds.length cd,.int .i64 c.pk.cpu,.bool c.pk.fill,.bool c.pk.aO,.bool c.pk.walk,.int .i64 c.pk.drop,.bool c.pk.use,.bool c.one.on,.int .i64 c.one.frame,.int .i64 c.one.tag,.bool c.two.on,.int .i64 c.two.frame,.int .i64 c.two.tag,.int .i64 (c.page:Int),.int .i64 c.acc,.slice qr s.rd.length cr],194⟩::(he++hd++hr++h2')) (cnt1 hle2) ?_
 refine run ?_
 refine pM (L.rd.map dH) (⟨F,#[.int .i64 L.f.kind,.int .i64 L.f.stage,.int .i64 L.f.level,.bool L.f.walk,.int .i64 L.f.page],43⟩::⟨H,#[.int .i64 L.h.frame,.int .i64 L.h.mid,.bool L.h.r,.bool L.h.w,.bool L.h.x,.bool L.h.af,.bool L.h.ng,.int .i64 L.h.soft,.int .i64 L.h.level],234⟩::⟨R2,#[.int .i64 0,.int .i64 0,.int .i64 0,.bool false,.int .i64 0],43⟩::⟨R1,#[.int .i64 0,.int .i64 0,.bool false,.bool false,.bool false,.bool false,.bool false,.int .i64 0,.int .i64 0],234⟩::⟨Wb,#[.slice p c.ws.length cap,.slice qe s.es.length ce,.slice qd ds.length cd,.int .i64 c.pk.cpu,.bool c.pk.fill,.bool c.pk.aO,.bool c.pk.walk,.int .i64 c.pk.drop,.bool c.pk.use,.bool c.one.on,.int .i64 c.one.frame,.int .i64 c.one.tag,.bool c.two.on,.int .i64 c.two.frame,.int .i64 c.two.tag,.int .i64 (c.page:Int),.int .i64 c.acc,.slice qr s.rd.length cr],194⟩::(he++hd++h2')) h3 (uH.own hO ak) (fun v4 h4 hO4=>?_) (by simp only [List.length_map];omega) (fun c hc=>by obtain ⟨x,_,rfl⟩:=List.mem_map.1 hc;exact ⟨rfl,rfl⟩) (hperm:=by (exact au))
 rw [← List.map_append] at hO4
 obtain ⟨q4,c4,e4⟩:=hO4.opened
 rw [List.length_map] at e4
 subst e4
 refine aJ (⟨F,#[.int .i64 L.f.kind,.int .i64 L.f.stage,.int .i64 L.f.level,.bool L.f.walk,.int .i64 L.f.page],43⟩::⟨H,#[.int .i64 L.h.frame,.int .i64 L.h.mid,.bool L.h.r,.bool L.h.w,.bool L.h.x,.bool L.h.af,.bool L.h.ng,.int .i64 L.h.soft,.int .i64 L.h.level],234⟩::⟨R2,#[.int .i64 0,.int .i64 0,.int .i64 0,.bool false,.int .i64 0],43⟩::⟨R1,#[.int .i64 0,.int .i64 0,.bool false,.bool false,.bool false,.bool false,.bool false,.int .i64 0,.int .i64 0],234⟩::⟨Wb,#[.slice p c.ws.length cap,.slice qe s.es.length ce,.slice qd ds.length cd,.int .i64 c.pk.cpu,.bool c.pk.fill,.bool c.pk.aO,.bool c.pk.walk,.int .i64 c.pk.drop,.bool c.pk.use,.bool c.one.on,.int .i64 c.one.frame,.int .i64 c.one.tag,.bool c.two.on,.int .i64 c.two.frame,.int .i64 c.two.tag,.int .i64 (c.page:Int),.int .i64 c.acc,.slice qr s.rd.length cr],194⟩::(he++hd++h4)) ak ?_
 refine az ?_
 obtain ⟨es',hes⟩:∃ es',es'=(bif decide (L.f.kind=0) && c.pk.aO then fG s.es (uJ c.two.tag mid L.h) else s.es):=⟨_,rfl⟩
 have hYs:vH c s mid L=⟨⟨es',s.rd++L.rd⟩,L.h.frame,bif decide (L.f.kind=0) then ⟨L.h.r,L.h.w,L.h.x,L.h.af,L.h.ng⟩ else EN,L.f⟩:=by
  rw [hes]
  unfold vH
  cases hc:decide (L.f.kind=0) with
  | true=>rfl
  | false=>
   simp only [Bool.not_false,cond_true,cond_false,Bool.false_and]
   rw [hLh.2 (of_decide_eq_false hc)]
 rw [hYs]
 dsimp only
 refine dX (σ:=Value × Value × Hp × Hp) (fun _=>[]) (fun z=>⟨F,#[.int .i64 L.f.kind,.int .i64 L.f.stage,.int .i64 L.f.level,.bool L.f.walk,.int .i64 L.f.page],43⟩::⟨H,#[.int .i64 L.h.frame,.int .i64 L.h.mid,.bool L.h.r,.bool L.h.w,.bool L.h.x,.bool L.h.af,.bool L.h.ng,.int .i64 L.h.soft,.int .i64 L.h.level],234⟩::⟨R2,#[.int .i64 0,.int .i64 0,.int .i64 0,.bool false,.int .i64 0],43⟩::⟨R1,#[.int .i64 0,.int .i64 0,.bool false,.bool false,.bool false,.bool false,.bool false,.int .i64 0,.int .i64 0],234⟩::⟨Wb,#[.slice p c.ws.length cap,z.1,z.2.1,.int .i64 c.pk.cpu,.bool c.pk.fill,.bool c.pk.aO,.bool c.pk.walk,.int .i64 c.pk.drop,.bool c.pk.use,.bool c.one.on,.int .i64 c.one.frame,.int .i64 c.one.tag,.bool c.two.on,.int .i64 c.two.frame,.int .i64 c.two.tag,.int .i64 (c.page:Int),.int .i64 c.acc,.slice q4 (s.rd++L.rd).length c4],194⟩::(z.2.2.1++z.2.2.2++h4)) (fun z=>Own 114 14 z.1 z.2.2.1 (es'.map bI)∧Own 121 4 z.2.1 z.2.2.2 (ds.map dJ)) ?_ ?_
 ·refine aj _ rfl (fun hc=>?_) (fun hc=>?_)
  ·rw [hc,cond_true] at hes
   subst hes
   rw [Bool.and_eq_true] at hc
   obtain ⟨hLf,hLn,hLg⟩:=QL (of_decide_eq_true hc.1)
   refine run ?_
   refine oV 13 12 [0,1,2,3,4,5,6,7,8,9,10] [11] [12] (⟨Wb,#[.slice p c.ws.length cap,.slice qe s.es.length ce,.slice qd ds.length cd,.int .i64 c.pk.cpu,.bool c.pk.fill,.bool c.pk.aO,.bool c.pk.walk,.int .i64 c.pk.drop,.bool c.pk.use,.bool c.one.on,.int .i64 c.one.frame,.int .i64 c.one.tag,.bool c.two.on,.int .i64 c.two.frame,.int .i64 c.two.tag,.int .i64 (c.page:Int),.int .i64 c.acc,.slice q4 (s.rd++L.rd).length c4],194⟩::⟨F,#[.int .i64 L.f.kind,.int .i64 L.f.stage,.int .i64 L.f.level,.bool L.f.walk,.int .i64 L.f.page],43⟩::⟨H,#[.int .i64 L.h.frame,.int .i64 L.h.mid,.bool L.h.r,.bool L.h.w,.bool L.h.x,.bool L.h.af,.bool L.h.ng,.int .i64 L.h.soft,.int .i64 L.h.level],234⟩::⟨R2,#[.int .i64 0,.int .i64 0,.int .i64 0,.bool false,.int .i64 0],43⟩::⟨R1,#[.int .i64 0,.int .i64 0,.bool false,.bool false,.bool false,.bool false,.bool false,.int .i64 0,.int .i64 0],234⟩::(he++hd++h4)) ?_
   refine dh ?_
   refine dR ?_
   refine gZ ?_
   rintro _ _ ⟨X,rfl,rfl⟩
   simp only [DN,List.cons_append,List.nil_append,List.append_nil]
   refine aV (b:=X) (tb:=114) (cs:=#[.int .i64 0,.int .i64 0,.int .i64 0,.bool false,.int .i64 0,.int .i64 0,.int .i64 0,.int .i64 0,.bool false,.bool false,.bool false,.bool false,.bool false,.int .i64 0]) (cs':=#[.int .i64 2,.int .i64 c.two.tag,.int .i64 0,.bool true,.int .i64 (mid:Int),.int .i64 0,.int .i64 L.h.frame,.int .i64 0,.bool L.h.r,.bool L.h.w,.bool L.h.x,.bool L.h.af,.bool L.h.ng,.int .i64 L.h.soft]) (hp':=⟨Wb,#[.slice p c.ws.length cap,.slice qe s.es.length ce,.slice qd ds.length cd,.int .i64 c.pk.cpu,.bool c.pk.fill,.bool c.pk.aO,.bool c.pk.walk,.int .i64 c.pk.drop,.bool c.pk.use,.bool c.one.on,.int .i64 c.one.frame,.int .i64 c.one.tag,.bool c.two.on,.int .i64 c.two.frame,.int .i64 c.two.tag,.int .i64 (c.page:Int),.int .i64 c.acc,.slice q4 (s.rd++L.rd).length c4],194⟩::⟨F,#[.int .i64 L.f.kind,.int .i64 L.f.stage,.int .i64 L.f.level,.bool L.f.walk,.int .i64 L.f.page],43⟩::⟨H,#[.int .i64 L.h.frame,.int .i64 L.h.mid,.bool L.h.r,.bool L.h.w,.bool L.h.x,.bool L.h.af,.bool L.h.ng,.int .i64 L.h.soft,.int .i64 L.h.level],234⟩::⟨R2,#[.int .i64 0,.int .i64 0,.int .i64 0,.bool false,.int .i64 0],43⟩::⟨R1,#[.int .i64 0,.int .i64 0,.bool false,.bool false,.bool false,.bool false,.bool false,.int .i64 0,.int .i64 0],234⟩::(he++hd++h4)) ?_ (List.Perm.refl _)
   refine aH ?_
   refine di ?_
   refine run ?_
   have hen:uJ c.two.tag mid L.h=⟨2,c.two.tag,0,true,mid,0,L.h.frame,0,L.h.r,L.h.w,L.h.x,L.h.af,false,0⟩:=by unfold uJ;rw [hLg]
   have hmay:=Ho hk hmid hLf hLg
   rw [hen] at hmay ⊢
   refine dK (⟨Wb,#[.slice p c.ws.length cap,.slice qe s.es.length ce,.slice qd ds.length cd,.int .i64 c.pk.cpu,.bool c.pk.fill,.bool c.pk.aO,.bool c.pk.walk,.int .i64 c.pk.drop,.bool c.pk.use,.bool c.one.on,.int .i64 c.one.frame,.int .i64 c.one.tag,.bool c.two.on,.int .i64 c.two.frame,.int .i64 c.two.tag,.int .i64 (c.page:Int),.int .i64 c.acc,.slice q4 (s.rd++L.rd).length c4],194⟩::(he++hd++h4)) (⟨X,#[.int .i64 2,.int .i64 c.two.tag,.int .i64 0,.bool true,.int .i64 (mid:Int),.int .i64 0,.int .i64 L.h.frame,.int .i64 0,.bool L.h.r,.bool L.h.w,.bool L.h.x,.bool L.h.af,.bool false,.int .i64 0],114⟩::⟨F,#[.int .i64 L.f.kind,.int .i64 L.f.stage,.int .i64 L.f.level,.bool L.f.walk,.int .i64 L.f.page],43⟩::⟨H,#[.int .i64 L.h.frame,.int .i64 L.h.mid,.bool L.h.r,.bool L.h.w,.bool L.h.x,.bool L.h.af,.bool L.h.ng,.int .i64 L.h.soft,.int .i64 L.h.level],234⟩::[⟨R2,#[.int .i64 0,.int .i64 0,.int .i64 0,.bool false,.int .i64 0],43⟩,⟨R1,#[.int .i64 0,.int .i64 0,.bool false,.bool false,.bool false,.bool false,.bool false,.int .i64 0,.int .i64 0],234⟩]) (fun wc hG=>Bz c s.es ds hE.vI ⟨2,c.two.tag,0,true,mid,0,L.h.frame,0,L.h.r,L.h.w,L.h.x,L.h.af,false,0⟩ hmay ⟨_,_,_,rfl⟩ ⟨_,_,_,rfl⟩ h1 h2 hG.dG) ?_ au
   rintro u7 ZC ⟨ZE,ZF,ZG,hd7,rfl,h17,h27,Cm⟩
   simp only [vJ] at Cm
   refine run ?_
   exact dA (ZE,ZF,ZG,hd7) ⟨h17,h27⟩ (h2:=by (exact cnt1 Cm))
  ·rw [hc,cond_false] at hes
   subst hes
   refine run ?_
   exact dA (.slice qe s.es.length ce,.slice qd ds.length cd,he,hd) ⟨h1,h2⟩ (h2:=by (exact ak))
 rintro ⟨wM,yY,he2,hd2⟩ ⟨h1',Hl⟩
 dsimp only at h1' Hl ⊢
 refine run ?_
 refine dN 4 2 [0,1] [2,3] (⟨F,#[.int .i64 L.f.kind,.int .i64 L.f.stage,.int .i64 L.f.level,.bool L.f.walk,.int .i64 L.f.page],43⟩::⟨H,#[.int .i64 L.h.frame,.int .i64 L.h.mid,.bool L.h.r,.bool L.h.w,.bool L.h.x,.bool L.h.af,.bool L.h.ng,.int .i64 L.h.soft,.int .i64 L.h.level],234⟩::⟨Wb,#[.slice p c.ws.length cap,wM,yY,.int .i64 c.pk.cpu,.bool c.pk.fill,.bool c.pk.aO,.bool c.pk.walk,.int .i64 c.pk.drop,.bool c.pk.use,.bool c.one.on,.int .i64 c.one.frame,.int .i64 c.one.tag,.bool c.two.on,.int .i64 c.two.frame,.int .i64 c.two.tag,.int .i64 (c.page:Int),.int .i64 c.acc,.slice q4 (s.rd++L.rd).length c4],194⟩::(he2++hd2++h4)) ?_
 refine dh ?_
 refine aV (b:=R1) (tb:=234) (cs:=#[.int .i64 0,.int .i64 0,.bool false,.bool false,.bool false,.bool false,.bool false,.int .i64 0,.int .i64 0]) (cs':=#[.int .i64 L.h.frame,.int .i64 L.h.mid,.bool L.h.r,.bool L.h.w,.bool L.h.x,.bool L.h.af,.bool L.h.ng,.int .i64 L.h.soft,.int .i64 L.h.level]) (hp':=⟨R2,#[.int .i64 0,.int .i64 0,.int .i64 0,.bool false,.int .i64 0],43⟩::⟨F,#[.int .i64 L.f.kind,.int .i64 L.f.stage,.int .i64 L.f.level,.bool L.f.walk,.int .i64 L.f.page],43⟩::⟨H,#[.int .i64 L.h.frame,.int .i64 L.h.mid,.bool L.h.r,.bool L.h.w,.bool L.h.x,.bool L.h.af,.bool L.h.ng,.int .i64 L.h.soft,.int .i64 L.h.level],234⟩::⟨Wb,#[.slice p c.ws.length cap,wM,yY,.int .i64 c.pk.cpu,.bool c.pk.fill,.bool c.pk.aO,.bool c.pk.walk,.int .i64 c.pk.drop,.bool c.pk.use,.bool c.one.on,.int .i64 c.one.frame,.int .i64 c.one.tag,.bool c.two.on,.int .i64 c.two.frame,.int .i64 c.two.tag,.int .i64 (c.page:Int),.int .i64 c.acc,.slice q4 (s.rd++L.rd).length c4],194⟩::(he2++hd2++h4)) ?_ au
 refine aV (b:=R2) (tb:=43) (cs:=#[.int .i64 0,.int .i64 0,.int .i64 0,.bool false,.int .i64 0]) (cs':=#[.int .i64 L.f.kind,.int .i64 L.f.stage,.int .i64 L.f.level,.bool L.f.walk,.int .i64 L.f.page]) (hp':=⟨R1,#[.int .i64 L.h.frame,.int .i64 L.h.mid,.bool L.h.r,.bool L.h.w,.bool L.h.x,.bool L.h.af,.bool L.h.ng,.int .i64 L.h.soft,.int .i64 L.h.level],234⟩::⟨F,#[.int .i64 L.f.kind,.int .i64 L.f.stage,.int .i64 L.f.level,.bool L.f.walk,.int .i64 L.f.page],43⟩::⟨H,#[.int .i64 L.h.frame,.int .i64 L.h.mid,.bool L.h.r,.bool L.h.w,.bool L.h.x,.bool L.h.af,.bool L.h.ng,.int .i64 L.h.soft,.int .i64 L.h.level],234⟩::⟨Wb,#[.slice p c.ws.length cap,wM,yY,.int .i64 c.pk.cpu,.bool c.pk.fill,.bool c.pk.aO,.bool c.pk.walk,.int .i64 c.pk.drop,.bool c.pk.use,.bool c.one.on,.int .i64 c.one.frame,.int .i64 c.one.tag,.bool c.two.on,.int .i64 c.two.frame,.int .i64 c.two.tag,.int .i64 (c.page:Int),.int .i64 c.acc,.slice q4 (s.rd++L.rd).length c4],194⟩::(he2++hd2++h4)) ?_ au
 refine aH ?_
 refine di ?_
 refine run ?_
 exact nO (cs:=#[.int .i64 L.h.frame,.int .i64 L.h.mid,.bool L.h.r,.bool L.h.w,.bool L.h.x,.bool L.h.af,.bool L.h.ng,.int .i64 L.h.soft,.int .i64 L.h.level]) (cs2:=#[.int .i64 L.f.kind,.int .i64 L.f.stage,.int .i64 L.f.level,.bool L.f.walk,.int .i64 L.f.page]) ⟨L.h,_,_,_,he2,hd2,h4,rfl,⟨rfl,fun hk0=>⟨hLh.1 hk0,by rw [show decide (L.f.kind=0)=true from decide_eq_true hk0];rfl⟩⟩,h1',Hl,hO4,by (exact ak)⟩
theorem Fh {fn:Func} {R:Value→Hp→Prop} {l:Fm} {hp:Hp} {s0 s1 a t b:Nat} {cs:Array Value} {tb:TypeId} {v v1:Value} (h:R (.tuple #[v,v1,.agg cs]) hp) (hr:fn.results=#[.tmp s0,.tmp s1,.cell a t]:=by rfl) (h0:look l s0=some v:=by rfl) (h1:look l s1=some v1:=by rfl) (hv:look l a=some (.pointer (some ⟨b,0,none⟩)):=by rfl) (hag:mem Tb.ag t=true:=by rfl) (hm:(⟨b,cs,tb⟩:aI)∈hp:=by (first | (with_reducible apply mh) | (focus ((repeat (first | (with_reducible apply mh) | (with_reducible apply mt) | (with_reducible apply List.mem_append_right)));done)))) (hz:lk Tb.sz t=some cs.size:=by rfl):Fin Tryz.prog fn R .ret l hp:=
 ⟨.inl rfl,[v,v1,.agg cs],by rw [hr];exact ⟨h0,h1,⟨⟨b,cs,tb⟩,hm,hv,.inr ⟨ay.zH hag,ay.tH hz,rfl⟩⟩,trivial⟩,h⟩
theorem Dz (c:kW) (hk:kX c) (cap:Nat) (hcc:c.ws.length≤cap) {p:Option Addr} {w:World} {Wb:Nat} {ev dv rv:Value} {he hd hr:Hp} (s:qx) (ds:List dB) (mid level:Nat) (hmid:mid≤4095) (hlv:level≤3) (hE:gU c.ws.length s.es ds) (hrl:s.rd.length<90000)
  (hm:dP w (Wb::(he++hd++hr).map (·.b)) (.slice p c.ws.length cap) 1 (c.ws.map uV)) (h1:Own 114 14 ev he (s.es.map bI)) (h2:Own 121 4 dv hd (ds.map dJ)) (h3:Own 3 1 rv hr (s.rd.map dH)) (hN:eP (⟨Wb,vJ c (.slice p c.ws.length cap) ev dv rv,194⟩::(he++hd++hr)) w):
  Fn Tryz.prog 199 [.pointer (some ⟨Wb,0,none⟩),.int .i64 (mid:Int),.int .i64 (level:Int)].toArray w (Wb::(he++hd++hr).map (·.b)) (fun u hn=>∃ (lv:Int) (ev' rZ rv':Value) (he' hd' hr':Hp),u=.tuple #[.int .i64 (jH c s mid level).n,.int .i64 lv,xZ (jH c s mid level).f]∧((jH c s mid level).f.kind=0→lv=(level:Int))∧Own 114 14 ev' he' ((jH c s mid level).s.es.map bI)∧Own 121 4 rZ hd' (ds.map dJ)∧Own 3 1 rv' hr' ((jH c s mid level).s.rd.map dH)∧aF (⟨Wb,vJ c (.slice p c.ws.length cap) ev' rZ rv',194⟩::(he'++hd'++hr')) hn):=by
 simp only [vJ] at hN ⊢
 have BV:=bD hk.mem
 have hem:=hE.may
 refine eF _ hN Tryz.func199 ?_
 refine run ?_
 intro R
 refine dK (⟨Wb,#[.slice p c.ws.length cap,ev,dv,.int .i64 c.pk.cpu,.bool c.pk.fill,.bool c.pk.aO,.bool c.pk.walk,.int .i64 c.pk.drop,.bool c.pk.use,.bool c.one.on,.int .i64 c.one.frame,.int .i64 c.one.tag,.bool c.two.on,.int .i64 c.two.frame,.int .i64 c.two.tag,.int .i64 (c.page:Int),.int .i64 c.acc,rv],194⟩::(he++hd++hr)) [⟨R,#[.int .i64 0,.int .i64 0,.int .i64 0,.bool false,.int .i64 0],43⟩] (fun wc hG=>Fg c hk cap hcc s ds mid hmid 0 rfl hE au' (hm.into hG) h1 h2 h3 hG.dG) ?_ au
 rintro u1 hn1 ⟨H,ev1,o6,pR,he1,hd1,hr1,rfl,⟨hH1,hH2⟩,h11,h21,h31,hle1⟩
 simp only [vJ] at hle1
 obtain ⟨hMs,VY⟩:=pO hk hE (mid:=mid) hmid 0
 rw [jH]
 generalize dV c s mid 0=Y at hH1 hH2 h11 h31 hMs VY ⊢
 refine aJ (⟨R,#[.int .i64 0,.int .i64 0,.int .i64 0,.bool false,.int .i64 0],43⟩::⟨Wb,#[.slice p c.ws.length cap,ev1,o6,.int .i64 c.pk.cpu,.bool c.pk.fill,.bool c.pk.aO,.bool c.pk.walk,.int .i64 c.pk.drop,.bool c.pk.use,.bool c.one.on,.int .i64 c.one.frame,.int .i64 c.one.tag,.bool c.two.on,.int .i64 c.two.frame,.int .i64 c.two.tag,.int .i64 (c.page:Int),.int .i64 c.acc,pR],194⟩::(he1++hd1++hr1)) (cnt1 hle1) ?_
 refine run ?_
 intro HB F
 refine aj _ rfl (fun hc=>?_) (fun hc=>?_)
 ·rw [hc,cond_true]
  refine run ?_
  refine iw 6 ?_
  refine iw 7 ?_
  refine dN 4 3 [0,1,2] [3] (⟨F,#[.int .i64 Y.f.kind,.int .i64 Y.f.stage,.int .i64 Y.f.level,.bool true,.int .i64 Y.f.page],43⟩::⟨HB,#[.int .i64 H.frame,.int .i64 H.mid,.bool H.r,.bool H.w,.bool H.x,.bool H.af,.bool H.ng,.int .i64 H.soft,.int .i64 H.level],234⟩::⟨Wb,#[.slice p c.ws.length cap,ev1,o6,.int .i64 c.pk.cpu,.bool c.pk.fill,.bool c.pk.aO,.bool c.pk.walk,.int .i64 c.pk.drop,.bool c.pk.use,.bool c.one.on,.int .i64 c.one.frame,.int .i64 c.one.tag,.bool c.two.on,.int .i64 c.two.frame,.int .i64 c.two.tag,.int .i64 (c.page:Int),.int .i64 c.acc,pR],194⟩::(he1++hd1++hr1)) ?_
  refine dh ?_
  refine aV (b:=R) (tb:=43) (cs:=#[.int .i64 0,.int .i64 0,.int .i64 0,.bool false,.int .i64 0]) (cs':=#[.int .i64 Y.f.kind,.int .i64 Y.f.stage,.int .i64 Y.f.level,.bool true,.int .i64 Y.f.page]) (hp':=⟨F,#[.int .i64 Y.f.kind,.int .i64 Y.f.stage,.int .i64 Y.f.level,.bool true,.int .i64 Y.f.page],43⟩::⟨HB,#[.int .i64 H.frame,.int .i64 H.mid,.bool H.r,.bool H.w,.bool H.x,.bool H.af,.bool H.ng,.int .i64 H.soft,.int .i64 H.level],234⟩::⟨Wb,#[.slice p c.ws.length cap,ev1,o6,.int .i64 c.pk.cpu,.bool c.pk.fill,.bool c.pk.aO,.bool c.pk.walk,.int .i64 c.pk.drop,.bool c.pk.use,.bool c.one.on,.int .i64 c.one.frame,.int .i64 c.one.tag,.bool c.two.on,.int .i64 c.two.frame,.int .i64 c.two.tag,.int .i64 (c.page:Int),.int .i64 c.acc,pR],194⟩::(he1++hd1++hr1)) ?_ au
  refine aH ?_
  refine di ?_
  refine run ?_
  exact Fh (cs:=#[.int .i64 Y.f.kind,.int .i64 Y.f.stage,.int .i64 Y.f.level,.bool true,.int .i64 Y.f.page]) ⟨0,_,_,_,he1,hd1,hr1,rfl,fun h0=>absurd h0 aA0,h11,h21,h31,by (exact ak)⟩
 ·rw [hc,cond_false]
  obtain ⟨JD,XG,Zw⟩:=VY aA0
  rw [show decide (0<level)=decide ((0:Int)<(level:Int)) by rw [Bool.eq_iff_iff];simp]
  refine az ?_
  obtain ⟨es',hes⟩:∃ es',es'=(bif decide ((0:Int)<(level:Int)) && c.pk.walk then fG Y.s.es (x8 c level Y.n) else Y.s.es):=⟨_,rfl⟩
  rw [← hes]
  dsimp only
  have hle3:oZ (level - 1)=3 * (4 - level)∨level=0:=by unfold oZ;omega
  refine dX (σ:=Value × Value × Hp × Hp) (fun _=>[]) (fun z=>⟨F,#[.int .i64 Y.f.kind,.int .i64 Y.f.stage,.int .i64 Y.f.level,.bool Y.f.walk,.int .i64 Y.f.page],43⟩::⟨HB,#[.int .i64 H.frame,.int .i64 H.mid,.bool H.r,.bool H.w,.bool H.x,.bool H.af,.bool H.ng,.int .i64 H.soft,.int .i64 H.level],234⟩::⟨R,#[.int .i64 0,.int .i64 0,.int .i64 0,.bool false,.int .i64 0],43⟩::⟨Wb,#[.slice p c.ws.length cap,z.1,z.2.1,.int .i64 c.pk.cpu,.bool c.pk.fill,.bool c.pk.aO,.bool c.pk.walk,.int .i64 c.pk.drop,.bool c.pk.use,.bool c.one.on,.int .i64 c.one.frame,.int .i64 c.one.tag,.bool c.two.on,.int .i64 c.two.frame,.int .i64 c.two.tag,.int .i64 (c.page:Int),.int .i64 c.acc,pR],194⟩::(z.2.2.1++z.2.2.2++hr1)) (fun z=>Own 114 14 z.1 z.2.2.1 (es'.map bI)∧Own 121 4 z.2.1 z.2.2.2 (ds.map dJ)) ?_ ?_
  ·refine aj _ rfl (fun hc3=>?_) (fun hc3=>?_)
   ·rw [hc3,cond_true] at hes
    subst hes
    rw [Bool.and_eq_true] at hc3
    have hl0:0<level:=by have:=of_decide_eq_true hc3.1;omega
    have hb:(3 * (4 - (level:Int)):Int)=((3 * (4 - level):Nat):Int):=by omega
    have hp5:=hk.page
    have hcut:((c.page >>> (3 * (4 - level))) <<< (3 * (4 - level)):Nat)=kL (level - 1) c.page:=by
     have h2:aP (level - 1)=2 ^ (3 * (4 - level)):=by
      unfold aP oZ
      rw [Nat.one_shiftLeft,show 3 * (3 - (level - 1))=3 * (4 - level) by omega]
     unfold kL
     rw [h2,Nat.shiftRight_eq_div_pow,Nat.shiftLeft_eq]
     have:=Nat.div_add_mod c.page (2 ^ (3 * (4 - level)))
     rw [Nat.mul_comm] at this
     omega
    have hcl:=QM (level - 1) c.page
    refine run ?_
    refine iV 23 ?_
    refine cu ?_
    refine qo (PN rfl rfl c.page (3 * (4 - level)) rfl hb au') ?_
    refine cu ?_
    refine qo (yP rfl rfl (c.page >>> (3 * (4 - level))) (3 * (4 - level)) rfl hb au' (by rw [hcut];omega)) ?_
    rw [hcut]
    refine cu ?_
    have hmay:=Bi hk hl0 hlv (n:=H.frame) (by rw [hH1];exact JD)
    refine dK (⟨Wb,#[.slice p c.ws.length cap,ev1,o6,.int .i64 c.pk.cpu,.bool c.pk.fill,.bool c.pk.aO,.bool c.pk.walk,.int .i64 c.pk.drop,.bool c.pk.use,.bool c.one.on,.int .i64 c.one.frame,.int .i64 c.one.tag,.bool c.two.on,.int .i64 c.two.frame,.int .i64 c.two.tag,.int .i64 (c.page:Int),.int .i64 c.acc,pR],194⟩::(he1++hd1++hr1)) (⟨F,#[.int .i64 Y.f.kind,.int .i64 Y.f.stage,.int .i64 Y.f.level,.bool Y.f.walk,.int .i64 Y.f.page],43⟩::⟨HB,#[.int .i64 H.frame,.int .i64 H.mid,.bool H.r,.bool H.w,.bool H.x,.bool H.af,.bool H.ng,.int .i64 H.soft,.int .i64 H.level],234⟩::⟨R,#[.int .i64 0,.int .i64 0,.int .i64 0,.bool false,.int .i64 0],43⟩::[]) (fun wc hG=>Bz c Y.s.es ds hMs.es.vI (x8 c level H.frame) hmay ⟨_,_,_,rfl⟩ ⟨_,_,_,h31.opened.choose_spec.choose_spec⟩ h11 h21 hG.dG) ?_ au
    rintro u7 ZC ⟨ZE,ZF,ZG,hd7,rfl,h17,h27,Cm⟩
    simp only [vJ] at Cm
    rw [hH1] at h17
    refine run ?_
    exact dA (ZE,ZF,ZG,hd7) ⟨h17,h27⟩ (h2:=by (exact cnt1 Cm))
   ·rw [hc3,cond_false] at hes
    subst hes
    refine run ?_
    exact dA (ev1,o6,he1,hd1) ⟨h11,h21⟩ (h2:=by (exact ak))
  rintro ⟨wM,yY,he2,hd2⟩ ⟨h1',Hl⟩
  dsimp only at h1' Hl ⊢
  refine run ?_
  refine iw 6 ?_
  refine iw 7 ?_
  refine dN 7 6 [0,1,2,3,4,5] [6] (⟨F,#[.int .i64 Y.f.kind,.int .i64 Y.f.stage,.int .i64 Y.f.level,.bool Y.f.walk,.int .i64 Y.f.page],43⟩::⟨HB,#[.int .i64 H.frame,.int .i64 H.mid,.bool H.r,.bool H.w,.bool H.x,.bool H.af,.bool H.ng,.int .i64 H.soft,.int .i64 H.level],234⟩::⟨Wb,#[.slice p c.ws.length cap,wM,yY,.int .i64 c.pk.cpu,.bool c.pk.fill,.bool c.pk.aO,.bool c.pk.walk,.int .i64 c.pk.drop,.bool c.pk.use,.bool c.one.on,.int .i64 c.one.frame,.int .i64 c.one.tag,.bool c.two.on,.int .i64 c.two.frame,.int .i64 c.two.tag,.int .i64 (c.page:Int),.int .i64 c.acc,pR],194⟩::(he2++hd2++hr1)) ?_
  refine dh ?_
  refine aV (b:=R) (tb:=43) (cs:=#[.int .i64 0,.int .i64 0,.int .i64 0,.bool false,.int .i64 0]) (cs':=#[.int .i64 Y.f.kind,.int .i64 Y.f.stage,.int .i64 Y.f.level,.bool Y.f.walk,.int .i64 Y.f.page]) (hp':=⟨F,#[.int .i64 Y.f.kind,.int .i64 Y.f.stage,.int .i64 Y.f.level,.bool Y.f.walk,.int .i64 Y.f.page],43⟩::⟨HB,#[.int .i64 H.frame,.int .i64 H.mid,.bool H.r,.bool H.w,.bool H.x,.bool H.af,.bool H.ng,.int .i64 H.soft,.int .i64 H.level],234⟩::⟨Wb,#[.slice p c.ws.length cap,wM,yY,.int .i64 c.pk.cpu,.bool c.pk.fill,.bool c.pk.aO,.bool c.pk.walk,.int .i64 c.pk.drop,.bool c.pk.use,.bool c.one.on,.int .i64 c.one.frame,.int .i64 c.one.tag,.bool c.two.on,.int .i64 c.two.frame,.int .i64 c.two.tag,.int .i64 (c.page:Int),.int .i64 c.acc,pR],194⟩::(he2++hd2++hr1)) ?_ au
  refine aH ?_
  refine di ?_
  refine run ?_
  refine Fh (v:=.int .i64 H.frame) (v1:=.int .i64 (level:Int)) (cs:=#[.int .i64 Y.f.kind,.int .i64 Y.f.stage,.int .i64 Y.f.level,.bool Y.f.walk,.int .i64 Y.f.page]) ?_
  exact ⟨level,_,_,_,he2,hd2,hr1,by rw [hH1,← XG],fun _=>rfl,h1',Hl,h31,by (exact ak)⟩
theorem Q9 (c:kW) (hk:kX c) (cap:Nat) (hcc:c.ws.length≤cap) {p:Option Addr} {w:World} {Wb:Nat} {ev dv rv:Value} {he hd hr:Hp} (s:qx) (ds:List dB) (hE:gU c.ws.length s.es ds)  (ha:PtD.bY c.acc 0 2=true) (level:Nat) (hl:level<4) (d:DsD) (hmay:d.may 1 level=true) (hk2:d.kind=2) (hrl:s.rd.length<90000)
  (hm:dP w (Wb::(he++hd++hr).map (·.b)) (.slice p c.ws.length cap) 1 (c.ws.map uV)) (h1:Own 114 14 ev he (s.es.map bI)) (h2:Own 121 4 dv hd (ds.map dJ)) (h3:Own 3 1 rv hr (s.rd.map dH)) (hN:eP (⟨Wb,vJ c (.slice p c.ws.length cap) ev dv rv,194⟩::(he++hd++hr)) w):
  Fn Tryz.prog 198 [.pointer (some ⟨Wb,0,none⟩),P7 d,.int .i64 (level:Int)].toArray w (Wb::(he++hd++hr).map (·.b)) (fun u hn=>∃ (H:kV) (X:Ym) (ev' rZ rv':Value) (he' hd' hr':Hp),X=(bif !decide ((gQ d.r d.w d.x d.af c.acc 1 level c.page).kind=0) then ⟨s,0,EN,gQ d.r d.w d.x d.af c.acc 1 level c.page⟩ else dV c s (iG c level d) c.acc)∧u=.tuple #[Sj H,xZ X.f]∧H.frame=X.n∧(X.f.kind=0→H.mid=(iG c level d:Int)∧H.soft=0∧(⟨H.r,H.w,H.x,H.af,H.ng⟩:AtD)=lZ ⟨d.r,d.w,d.x,d.af,d.ng⟩ X.a)∧Own 114 14 ev' he' (X.s.es.map bI)∧Own 121 4 rZ hd' (ds.map dJ)∧Own 3 1 rv' hr' (X.s.rd.map dH)∧aF (⟨Wb,vJ c (.slice p c.ws.length cap) ev' rZ rv',194⟩::(he'++hd'++hr')) hn):=by
 simp only [vJ] at hN ⊢
 have BV:=bD hk.mem
 have hem:=hE.may
 obtain ⟨hlf,Py⟩:=qL hmay hk2 hl c.page
 have hcv:=jc hl
 have hmod:=Nat.mod_lt c.page (show 0<aP level by omega)
 refine eF _ hN Tryz.func198 ?_
 refine run ?_
 intro D R1 R2
 refine run ?_
 refine oV 17 16 [0,1,2,3,4,5,6,7,8,9,10,11,12,13,14] [15] [16] (⟨R2,#[.int .i64 0,.int .i64 0,.int .i64 0,.bool false,.int .i64 0],43⟩::⟨R1,#[.int .i64 0,.int .i64 0,.bool false,.bool false,.bool false,.bool false,.bool false,.int .i64 0,.int .i64 0],234⟩::⟨D,#[.int .i64 d.kind,.int .i64 d.frame,.bool d.r,.bool d.w,.bool d.x,.bool d.af,.bool d.ng,.int .i64 d.soft,.int .i64 d.note],258⟩::⟨Wb,#[.slice p c.ws.length cap,ev,dv,.int .i64 c.pk.cpu,.bool c.pk.fill,.bool c.pk.aO,.bool c.pk.walk,.int .i64 c.pk.drop,.bool c.pk.use,.bool c.one.on,.int .i64 c.one.frame,.int .i64 c.one.tag,.bool c.two.on,.int .i64 c.two.frame,.int .i64 c.two.tag,.int .i64 (c.page:Int),.int .i64 c.acc,rv],194⟩::(he++hd++hr)) ?_
 refine dh ?_
 refine kU (fun wc hx hG=>KZ d.r d.w d.x d.af d.ng d.soft c.acc 1 level c.page ha wc) ?_
 refine dh ?_
 generalize gQ d.r d.w d.x d.af c.acc 1 level c.page=G
 refine dR ?_
 refine gZ ?_
 rintro _ _ ⟨F,rfl,rfl⟩
 simp only [DN,List.cons_append,List.nil_append,List.append_nil]
 refine aV (b:=F) (tb:=43) (cs:=#[.int .i64 0,.int .i64 0,.int .i64 0,.bool false,.int .i64 0]) (cs':=#[.int .i64 G.kind,.int .i64 G.stage,.int .i64 G.level,.bool G.walk,.int .i64 G.page]) (hp':=⟨R2,#[.int .i64 0,.int .i64 0,.int .i64 0,.bool false,.int .i64 0],43⟩::⟨R1,#[.int .i64 0,.int .i64 0,.bool false,.bool false,.bool false,.bool false,.bool false,.int .i64 0,.int .i64 0],234⟩::⟨D,#[.int .i64 d.kind,.int .i64 d.frame,.bool d.r,.bool d.w,.bool d.x,.bool d.af,.bool d.ng,.int .i64 d.soft,.int .i64 d.note],258⟩::⟨Wb,#[.slice p c.ws.length cap,ev,dv,.int .i64 c.pk.cpu,.bool c.pk.fill,.bool c.pk.aO,.bool c.pk.walk,.int .i64 c.pk.drop,.bool c.pk.use,.bool c.one.on,.int .i64 c.one.frame,.int .i64 c.one.tag,.bool c.two.on,.int .i64 c.two.frame,.int .i64 c.two.tag,.int .i64 (c.page:Int),.int .i64 c.acc,rv],194⟩::(he++hd++hr)) ?_ au
 refine aH ?_
 refine di ?_
 refine run ?_
 refine aj _ rfl (fun hc=>?_) (fun hc=>?_)
 ·rw [hc,cond_true]
  refine run ?_
  refine dN 4 2 [0,1] [2,3] (⟨F,#[.int .i64 G.kind,.int .i64 G.stage,.int .i64 G.level,.bool G.walk,.int .i64 G.page],43⟩::⟨D,#[.int .i64 d.kind,.int .i64 d.frame,.bool d.r,.bool d.w,.bool d.x,.bool d.af,.bool d.ng,.int .i64 d.soft,.int .i64 d.note],258⟩::⟨Wb,#[.slice p c.ws.length cap,ev,dv,.int .i64 c.pk.cpu,.bool c.pk.fill,.bool c.pk.aO,.bool c.pk.walk,.int .i64 c.pk.drop,.bool c.pk.use,.bool c.one.on,.int .i64 c.one.frame,.int .i64 c.one.tag,.bool c.two.on,.int .i64 c.two.frame,.int .i64 c.two.tag,.int .i64 (c.page:Int),.int .i64 c.acc,rv],194⟩::(he++hd++hr)) ?_
  refine dh ?_
  refine aV (b:=R1) (tb:=234) (cs:=#[.int .i64 0,.int .i64 0,.bool false,.bool false,.bool false,.bool false,.bool false,.int .i64 0,.int .i64 0]) (cs':=#[.int .i64 0,.int .i64 0,.bool false,.bool false,.bool false,.bool false,.bool false,.int .i64 0,.int .i64 0]) (hp':=⟨F,#[.int .i64 G.kind,.int .i64 G.stage,.int .i64 G.level,.bool G.walk,.int .i64 G.page],43⟩::⟨R2,#[.int .i64 0,.int .i64 0,.int .i64 0,.bool false,.int .i64 0],43⟩::⟨D,#[.int .i64 d.kind,.int .i64 d.frame,.bool d.r,.bool d.w,.bool d.x,.bool d.af,.bool d.ng,.int .i64 d.soft,.int .i64 d.note],258⟩::⟨Wb,#[.slice p c.ws.length cap,ev,dv,.int .i64 c.pk.cpu,.bool c.pk.fill,.bool c.pk.aO,.bool c.pk.walk,.int .i64 c.pk.drop,.bool c.pk.use,.bool c.one.on,.int .i64 c.one.frame,.int .i64 c.one.tag,.bool c.two.on,.int .i64 c.two.frame,.int .i64 c.two.tag,.int .i64 (c.page:Int),.int .i64 c.acc,rv],194⟩::(he++hd++hr)) ?_ au
  refine aV (b:=R2) (tb:=43) (cs:=#[.int .i64 0,.int .i64 0,.int .i64 0,.bool false,.int .i64 0]) (cs':=#[.int .i64 G.kind,.int .i64 G.stage,.int .i64 G.level,.bool G.walk,.int .i64 G.page]) (hp':=⟨R1,#[.int .i64 0,.int .i64 0,.bool false,.bool false,.bool false,.bool false,.bool false,.int .i64 0,.int .i64 0],234⟩::⟨F,#[.int .i64 G.kind,.int .i64 G.stage,.int .i64 G.level,.bool G.walk,.int .i64 G.page],43⟩::⟨D,#[.int .i64 d.kind,.int .i64 d.frame,.bool d.r,.bool d.w,.bool d.x,.bool d.af,.bool d.ng,.int .i64 d.soft,.int .i64 d.note],258⟩::⟨Wb,#[.slice p c.ws.length cap,ev,dv,.int .i64 c.pk.cpu,.bool c.pk.fill,.bool c.pk.aO,.bool c.pk.walk,.int .i64 c.pk.drop,.bool c.pk.use,.bool c.one.on,.int .i64 c.one.frame,.int .i64 c.one.tag,.bool c.two.on,.int .i64 c.two.frame,.int .i64 c.two.tag,.int .i64 (c.page:Int),.int .i64 c.acc,rv],194⟩::(he++hd++hr)) ?_ au
  refine aH ?_
  refine di ?_
  refine run ?_
  exact nO (cs:=#[.int .i64 0,.int .i64 0,.bool false,.bool false,.bool false,.bool false,.bool false,.int .i64 0,.int .i64 0]) (cs2:=#[.int .i64 G.kind,.int .i64 G.stage,.int .i64 G.level,.bool G.walk,.int .i64 G.page]) ⟨⟨0,0,false,false,false,false,false,0,0⟩,_,ev,dv,rv,he,hd,hr,rfl,rfl,rfl,fun h0=>absurd h0 aA0,h1,h2,h3,by (exact ak)⟩
 ·rw [hc,cond_false]
  refine run ?_
  refine ax (fun wc hG=>Di level hl wc) ?_
  refine run ?_
  have hcall:=fun (wc:World) (hG:eP (⟨Wb,#[.slice p c.ws.length cap,ev,dv,.int .i64 c.pk.cpu,.bool c.pk.fill,.bool c.pk.aO,.bool c.pk.walk,.int .i64 c.pk.drop,.bool c.pk.use,.bool c.one.on,.int .i64 c.one.frame,.int .i64 c.one.tag,.bool c.two.on,.int .i64 c.two.frame,.int .i64 c.two.tag,.int .i64 (c.page:Int),.int .i64 c.acc,rv],194⟩::(he++hd++hr)) wc) (hm:dP wc (Wb::(he++hd++hr).map (·.b)) (.slice p c.ws.length cap) 1 (c.ws.map uV))=>Fg c hk cap hcc s ds (iG c level d) hlf c.acc ha hE au' hm h1 h2 h3 hG
  refine Ql 20 14 (⟨Wb,#[.slice p c.ws.length cap,ev,dv,.int .i64 c.pk.cpu,.bool c.pk.fill,.bool c.pk.aO,.bool c.pk.walk,.int .i64 c.pk.drop,.bool c.pk.use,.bool c.one.on,.int .i64 c.one.frame,.int .i64 c.one.tag,.bool c.two.on,.int .i64 c.two.frame,.int .i64 c.two.tag,.int .i64 (c.page:Int),.int .i64 c.acc,rv],194⟩::(he++hd++hr)) (⟨F,#[.int .i64 G.kind,.int .i64 G.stage,.int .i64 G.level,.bool G.walk,.int .i64 G.page],43⟩::⟨R2,#[.int .i64 0,.int .i64 0,.int .i64 0,.bool false,.int .i64 0],43⟩::⟨R1,#[.int .i64 0,.int .i64 0,.bool false,.bool false,.bool false,.bool false,.bool false,.int .i64 0,.int .i64 0],234⟩::⟨D,#[.int .i64 d.kind,.int .i64 d.frame,.bool d.r,.bool d.w,.bool d.x,.bool d.af,.bool d.ng,.int .i64 d.soft,.int .i64 d.note],258⟩::[]) [0,1,2,3,4,5,6,7,8,9,10,11,12,13] [14,18,19] [15,16,17] [] [20,21] ?_
  refine fB ?_
  refine jC rfl (fun Yj=>fP rfl rfl c.page (aP level) rfl rfl au') ?_
  refine fB ?_
  rw [show d.frame + ((c.page % aP level:Nat):Int)=((iG c level d:Nat):Int) by unfold iG;omega]
  refine VS (fun wc hG=>hcall wc hG.dG (hm.into hG)) (hcall w hN hm).some ?_
  refine EH ?_
  refine EH ?_
  refine Zg ?_
  rintro _ _ ⟨A2,rfl,rfl⟩ _ _ ⟨A1,rfl,rfl⟩ u1 hn1 ⟨H,ev1,o6,pR,he1,hd1,hr1,rfl,⟨hH1,hH2⟩,h11,h21,h31,hle1⟩
  simp only [vJ] at hle1
  generalize dV c s (iG c level d) c.acc=Y at hH1 hH2 h11 h31 ⊢
  refine ni ?_
  refine aS ?_
  refine aS ?_
  refine fC ?_
  refine fC ?_
  simp only [DN,List.cons_append,List.nil_append,List.append_nil]
  refine aV (b:=A1) (tb:=234) (cs:=#[.int .i64 0,.int .i64 0,.bool false,.bool false,.bool false,.bool false,.bool false,.int .i64 0,.int .i64 0]) (cs':=#[.int .i64 H.frame,.int .i64 H.mid,.bool H.r,.bool H.w,.bool H.x,.bool H.af,.bool H.ng,.int .i64 H.soft,.int .i64 H.level]) (hp':=⟨A2,#[.int .i64 0,.int .i64 0,.int .i64 0,.bool false,.int .i64 0],43⟩::(hn1++[⟨F,#[.int .i64 G.kind,.int .i64 G.stage,.int .i64 G.level,.bool G.walk,.int .i64 G.page],43⟩,⟨R2,#[.int .i64 0,.int .i64 0,.int .i64 0,.bool false,.int .i64 0],43⟩,⟨R1,#[.int .i64 0,.int .i64 0,.bool false,.bool false,.bool false,.bool false,.bool false,.int .i64 0,.int .i64 0],234⟩,⟨D,#[.int .i64 d.kind,.int .i64 d.frame,.bool d.r,.bool d.w,.bool d.x,.bool d.af,.bool d.ng,.int .i64 d.soft,.int .i64 d.note],258⟩])) ?_ au
  refine aV (b:=A2) (tb:=43) (cs:=#[.int .i64 0,.int .i64 0,.int .i64 0,.bool false,.int .i64 0]) (cs':=#[.int .i64 Y.f.kind,.int .i64 Y.f.stage,.int .i64 Y.f.level,.bool Y.f.walk,.int .i64 Y.f.page]) (hp':=⟨A1,#[.int .i64 H.frame,.int .i64 H.mid,.bool H.r,.bool H.w,.bool H.x,.bool H.af,.bool H.ng,.int .i64 H.soft,.int .i64 H.level],234⟩::(hn1++[⟨F,#[.int .i64 G.kind,.int .i64 G.stage,.int .i64 G.level,.bool G.walk,.int .i64 G.page],43⟩,⟨R2,#[.int .i64 0,.int .i64 0,.int .i64 0,.bool false,.int .i64 0],43⟩,⟨R1,#[.int .i64 0,.int .i64 0,.bool false,.bool false,.bool false,.bool false,.bool false,.int .i64 0,.int .i64 0],234⟩,⟨D,#[.int .i64 d.kind,.int .i64 d.frame,.bool d.r,.bool d.w,.bool d.x,.bool d.af,.bool d.ng,.int .i64 d.soft,.int .i64 d.note],258⟩])) ?_ au
  refine aH ?_
  refine di ?_
  refine aJ (⟨A2,#[.int .i64 Y.f.kind,.int .i64 Y.f.stage,.int .i64 Y.f.level,.bool Y.f.walk,.int .i64 Y.f.page],43⟩::⟨A1,#[.int .i64 H.frame,.int .i64 H.mid,.bool H.r,.bool H.w,.bool H.x,.bool H.af,.bool H.ng,.int .i64 H.soft,.int .i64 H.level],234⟩::⟨R2,#[.int .i64 0,.int .i64 0,.int .i64 0,.bool false,.int .i64 0],43⟩::⟨R1,#[.int .i64 0,.int .i64 0,.bool false,.bool false,.bool false,.bool false,.bool false,.int .i64 0,.int .i64 0],234⟩::⟨D,#[.int .i64 d.kind,.int .i64 d.frame,.bool d.r,.bool d.w,.bool d.x,.bool d.af,.bool d.ng,.int .i64 d.soft,.int .i64 d.note],258⟩::⟨Wb,#[.slice p c.ws.length cap,ev1,o6,.int .i64 c.pk.cpu,.bool c.pk.fill,.bool c.pk.aO,.bool c.pk.walk,.int .i64 c.pk.drop,.bool c.pk.use,.bool c.one.on,.int .i64 c.one.frame,.int .i64 c.one.tag,.bool c.two.on,.int .i64 c.two.frame,.int .i64 c.two.tag,.int .i64 (c.page:Int),.int .i64 c.acc,pR],194⟩::(he1++hd1++hr1)) (cnt1 hle1) ?_
  refine run ?_
  intro Z
  refine ax (fun wc hG=>UJ ⟨d.r,d.w,d.x,d.af,d.ng⟩ ⟨H.r,H.w,H.x,H.af,H.ng⟩ d.soft H.soft (dL (xs:=([((⟨d.r,d.w,d.x,d.af,d.ng⟩:AtD),d.soft),((⟨H.r,H.w,H.x,H.af,H.ng⟩:AtD),H.soft)].map Sr)) (hG.here ⟨Z,#[.bool d.r,.bool d.w,.bool d.x,.bool d.af,.bool d.ng,.int .i64 d.soft,.bool H.r,.bool H.w,.bool H.x,.bool H.af,.bool H.ng,.int .i64 H.soft],112⟩ mh) (by simp [Sr]) av4)) ?_
  generalize hB:lZ ⟨d.r,d.w,d.x,d.af,d.ng⟩ ⟨H.r,H.w,H.x,H.af,H.ng⟩=B
  refine run ?_
  refine dN 4 2 [0,1] [2,3] (⟨A1,#[.int .i64 (⟨H.frame,H.mid,B.r,B.w,B.x,B.af,B.ng,0,H.level⟩:kV).frame,.int .i64 (⟨H.frame,H.mid,B.r,B.w,B.x,B.af,B.ng,0,H.level⟩:kV).mid,.bool (⟨H.frame,H.mid,B.r,B.w,B.x,B.af,B.ng,0,H.level⟩:kV).r,.bool (⟨H.frame,H.mid,B.r,B.w,B.x,B.af,B.ng,0,H.level⟩:kV).w,.bool (⟨H.frame,H.mid,B.r,B.w,B.x,B.af,B.ng,0,H.level⟩:kV).x,.bool (⟨H.frame,H.mid,B.r,B.w,B.x,B.af,B.ng,0,H.level⟩:kV).af,.bool (⟨H.frame,H.mid,B.r,B.w,B.x,B.af,B.ng,0,H.level⟩:kV).ng,.int .i64 (⟨H.frame,H.mid,B.r,B.w,B.x,B.af,B.ng,0,H.level⟩:kV).soft,.int .i64 (⟨H.frame,H.mid,B.r,B.w,B.x,B.af,B.ng,0,H.level⟩:kV).level],234⟩::⟨A2,#[.int .i64 Y.f.kind,.int .i64 Y.f.stage,.int .i64 Y.f.level,.bool Y.f.walk,.int .i64 Y.f.page],43⟩::⟨Wb,#[.slice p c.ws.length cap,ev1,o6,.int .i64 c.pk.cpu,.bool c.pk.fill,.bool c.pk.aO,.bool c.pk.walk,.int .i64 c.pk.drop,.bool c.pk.use,.bool c.one.on,.int .i64 c.one.frame,.int .i64 c.one.tag,.bool c.two.on,.int .i64 c.two.frame,.int .i64 c.two.tag,.int .i64 (c.page:Int),.int .i64 c.acc,pR],194⟩::(he1++hd1++hr1)) ?_
  refine dh ?_
  refine aV (b:=R1) (tb:=234) (cs:=#[.int .i64 0,.int .i64 0,.bool false,.bool false,.bool false,.bool false,.bool false,.int .i64 0,.int .i64 0]) (cs':=#[.int .i64 (⟨H.frame,H.mid,B.r,B.w,B.x,B.af,B.ng,0,H.level⟩:kV).frame,.int .i64 (⟨H.frame,H.mid,B.r,B.w,B.x,B.af,B.ng,0,H.level⟩:kV).mid,.bool (⟨H.frame,H.mid,B.r,B.w,B.x,B.af,B.ng,0,H.level⟩:kV).r,.bool (⟨H.frame,H.mid,B.r,B.w,B.x,B.af,B.ng,0,H.level⟩:kV).w,.bool (⟨H.frame,H.mid,B.r,B.w,B.x,B.af,B.ng,0,H.level⟩:kV).x,.bool (⟨H.frame,H.mid,B.r,B.w,B.x,B.af,B.ng,0,H.level⟩:kV).af,.bool (⟨H.frame,H.mid,B.r,B.w,B.x,B.af,B.ng,0,H.level⟩:kV).ng,.int .i64 (⟨H.frame,H.mid,B.r,B.w,B.x,B.af,B.ng,0,H.level⟩:kV).soft,.int .i64 (⟨H.frame,H.mid,B.r,B.w,B.x,B.af,B.ng,0,H.level⟩:kV).level]) (hp':=⟨A1,#[.int .i64 (⟨H.frame,H.mid,B.r,B.w,B.x,B.af,B.ng,0,H.level⟩:kV).frame,.int .i64 (⟨H.frame,H.mid,B.r,B.w,B.x,B.af,B.ng,0,H.level⟩:kV).mid,.bool (⟨H.frame,H.mid,B.r,B.w,B.x,B.af,B.ng,0,H.level⟩:kV).r,.bool (⟨H.frame,H.mid,B.r,B.w,B.x,B.af,B.ng,0,H.level⟩:kV).w,.bool (⟨H.frame,H.mid,B.r,B.w,B.x,B.af,B.ng,0,H.level⟩:kV).x,.bool (⟨H.frame,H.mid,B.r,B.w,B.x,B.af,B.ng,0,H.level⟩:kV).af,.bool (⟨H.frame,H.mid,B.r,B.w,B.x,B.af,B.ng,0,H.level⟩:kV).ng,.int .i64 (⟨H.frame,H.mid,B.r,B.w,B.x,B.af,B.ng,0,H.level⟩:kV).soft,.int .i64 (⟨H.frame,H.mid,B.r,B.w,B.x,B.af,B.ng,0,H.level⟩:kV).level],234⟩::⟨Z,#[.bool d.r,.bool d.w,.bool d.x,.bool d.af,.bool d.ng,.int .i64 d.soft,.bool H.r,.bool H.w,.bool H.x,.bool H.af,.bool H.ng,.int .i64 H.soft],112⟩::⟨A2,#[.int .i64 Y.f.kind,.int .i64 Y.f.stage,.int .i64 Y.f.level,.bool Y.f.walk,.int .i64 Y.f.page],43⟩::⟨R2,#[.int .i64 0,.int .i64 0,.int .i64 0,.bool false,.int .i64 0],43⟩::⟨D,#[.int .i64 d.kind,.int .i64 d.frame,.bool d.r,.bool d.w,.bool d.x,.bool d.af,.bool d.ng,.int .i64 d.soft,.int .i64 d.note],258⟩::⟨Wb,#[.slice p c.ws.length cap,ev1,o6,.int .i64 c.pk.cpu,.bool c.pk.fill,.bool c.pk.aO,.bool c.pk.walk,.int .i64 c.pk.drop,.bool c.pk.use,.bool c.one.on,.int .i64 c.one.frame,.int .i64 c.one.tag,.bool c.two.on,.int .i64 c.two.frame,.int .i64 c.two.tag,.int .i64 (c.page:Int),.int .i64 c.acc,pR],194⟩::(he1++hd1++hr1)) ?_ au
  refine aV (b:=R2) (tb:=43) (cs:=#[.int .i64 0,.int .i64 0,.int .i64 0,.bool false,.int .i64 0]) (cs':=#[.int .i64 Y.f.kind,.int .i64 Y.f.stage,.int .i64 Y.f.level,.bool Y.f.walk,.int .i64 Y.f.page]) (hp':=⟨R1,#[.int .i64 (⟨H.frame,H.mid,B.r,B.w,B.x,B.af,B.ng,0,H.level⟩:kV).frame,.int .i64 (⟨H.frame,H.mid,B.r,B.w,B.x,B.af,B.ng,0,H.level⟩:kV).mid,.bool (⟨H.frame,H.mid,B.r,B.w,B.x,B.af,B.ng,0,H.level⟩:kV).r,.bool (⟨H.frame,H.mid,B.r,B.w,B.x,B.af,B.ng,0,H.level⟩:kV).w,.bool (⟨H.frame,H.mid,B.r,B.w,B.x,B.af,B.ng,0,H.level⟩:kV).x,.bool (⟨H.frame,H.mid,B.r,B.w,B.x,B.af,B.ng,0,H.level⟩:kV).af,.bool (⟨H.frame,H.mid,B.r,B.w,B.x,B.af,B.ng,0,H.level⟩:kV).ng,.int .i64 (⟨H.frame,H.mid,B.r,B.w,B.x,B.af,B.ng,0,H.level⟩:kV).soft,.int .i64 (⟨H.frame,H.mid,B.r,B.w,B.x,B.af,B.ng,0,H.level⟩:kV).level],234⟩::⟨A1,#[.int .i64 (⟨H.frame,H.mid,B.r,B.w,B.x,B.af,B.ng,0,H.level⟩:kV).frame,.int .i64 (⟨H.frame,H.mid,B.r,B.w,B.x,B.af,B.ng,0,H.level⟩:kV).mid,.bool (⟨H.frame,H.mid,B.r,B.w,B.x,B.af,B.ng,0,H.level⟩:kV).r,.bool (⟨H.frame,H.mid,B.r,B.w,B.x,B.af,B.ng,0,H.level⟩:kV).w,.bool (⟨H.frame,H.mid,B.r,B.w,B.x,B.af,B.ng,0,H.level⟩:kV).x,.bool (⟨H.frame,H.mid,B.r,B.w,B.x,B.af,B.ng,0,H.level⟩:kV).af,.bool (⟨H.frame,H.mid,B.r,B.w,B.x,B.af,B.ng,0,H.level⟩:kV).ng,.int .i64 (⟨H.frame,H.mid,B.r,B.w,B.x,B.af,B.ng,0,H.level⟩:kV).soft,.int .i64 (⟨H.frame,H.mid,B.r,B.w,B.x,B.af,B.ng,0,H.level⟩:kV).level],234⟩::⟨Z,#[.bool d.r,.bool d.w,.bool d.x,.bool d.af,.bool d.ng,.int .i64 d.soft,.bool H.r,.bool H.w,.bool H.x,.bool H.af,.bool H.ng,.int .i64 H.soft],112⟩::⟨A2,#[.int .i64 Y.f.kind,.int .i64 Y.f.stage,.int .i64 Y.f.level,.bool Y.f.walk,.int .i64 Y.f.page],43⟩::⟨D,#[.int .i64 d.kind,.int .i64 d.frame,.bool d.r,.bool d.w,.bool d.x,.bool d.af,.bool d.ng,.int .i64 d.soft,.int .i64 d.note],258⟩::⟨Wb,#[.slice p c.ws.length cap,ev1,o6,.int .i64 c.pk.cpu,.bool c.pk.fill,.bool c.pk.aO,.bool c.pk.walk,.int .i64 c.pk.drop,.bool c.pk.use,.bool c.one.on,.int .i64 c.one.frame,.int .i64 c.one.tag,.bool c.two.on,.int .i64 c.two.frame,.int .i64 c.two.tag,.int .i64 (c.page:Int),.int .i64 c.acc,pR],194⟩::(he1++hd1++hr1)) ?_ au
  refine aH ?_
  refine di ?_
  refine run ?_
  exact nO (cs:=#[.int .i64 (⟨H.frame,H.mid,B.r,B.w,B.x,B.af,B.ng,0,H.level⟩:kV).frame,.int .i64 (⟨H.frame,H.mid,B.r,B.w,B.x,B.af,B.ng,0,H.level⟩:kV).mid,.bool (⟨H.frame,H.mid,B.r,B.w,B.x,B.af,B.ng,0,H.level⟩:kV).r,.bool (⟨H.frame,H.mid,B.r,B.w,B.x,B.af,B.ng,0,H.level⟩:kV).w,.bool (⟨H.frame,H.mid,B.r,B.w,B.x,B.af,B.ng,0,H.level⟩:kV).x,.bool (⟨H.frame,H.mid,B.r,B.w,B.x,B.af,B.ng,0,H.level⟩:kV).af,.bool (⟨H.frame,H.mid,B.r,B.w,B.x,B.af,B.ng,0,H.level⟩:kV).ng,.int .i64 (⟨H.frame,H.mid,B.r,B.w,B.x,B.af,B.ng,0,H.level⟩:kV).soft,.int .i64 (⟨H.frame,H.mid,B.r,B.w,B.x,B.af,B.ng,0,H.level⟩:kV).level]) (cs2:=#[.int .i64 Y.f.kind,.int .i64 Y.f.stage,.int .i64 Y.f.level,.bool Y.f.walk,.int .i64 Y.f.page]) ⟨⟨H.frame,H.mid,B.r,B.w,B.x,B.af,B.ng,0,H.level⟩,Y,_,_,_,he1,hd1,hr1,rfl,rfl,hH1,fun h0=>⟨(hH2 h0).1,rfl,by rw [← hB,(hH2 h0).2]⟩,h11,h21,h31,by (exact ak)⟩
def gW (c:kW) (s:qx):zD:=bif c.pk.use && decide (0≤fD c s.es) then ⟨s,(s.es.getD (fD c s.es).toNat default).frame,jQ⟩ else jH c s c.one.frame.toNat 0
def o7 (c:kW) (s:qx):Nat:=bif c.pk.use && decide (0≤fD c s.es) then (s.es.getD (fD c s.es).toNat default).level.toNat else 0
theorem NH (c:kW) (hk:kX c) (cap:Nat) (hcc:c.ws.length≤cap) {p:Option Addr} {w:World} {Wb:Nat} {ev dv rv:Value} {he hd hr:Hp} (s:qx) (ds:List dB) (hE:gU c.ws.length s.es ds)  (hrl:s.rd.length<80000)
  (hm:dP w (Wb::(he++hd++hr).map (·.b)) (.slice p c.ws.length cap) 1 (c.ws.map uV)) (h1:Own 114 14 ev he (s.es.map bI)) (h2:Own 121 4 dv hd (ds.map dJ)) (h3:Own 3 1 rv hr (s.rd.map dH)) (hN:eP (⟨Wb,vJ c (.slice p c.ws.length cap) ev dv rv,194⟩::(he++hd++hr)) w):
  Fn Tryz.prog 196 [.pointer (some ⟨Wb,0,none⟩)].toArray w (Wb::(he++hd++hr).map (·.b)) (fun u hn=>∃ (lv:Int) (ev' rZ rv':Value) (he' hd' hr':Hp),u=.tuple #[.int .i64 (gW c s).n,.int .i64 lv,xZ (gW c s).f]∧((gW c s).f.kind=0→lv=(o7 c s:Int))∧Own 114 14 ev' he' ((gW c s).s.es.map bI)∧Own 121 4 rZ hd' (ds.map dJ)∧Own 3 1 rv' hr' ((gW c s).s.rd.map dH)∧aF (⟨Wb,vJ c (.slice p c.ws.length cap) ev' rZ rv',194⟩::(he'++hd'++hr')) hn):=by
 have hcap:=h1.cap
 obtain ⟨qe,ce,ee⟩:=h1.opened
 obtain ⟨qd,cd,ed⟩:=h2.opened
 obtain ⟨qr,cr,er⟩:=h3.opened
 rw [List.length_map] at ee ed er
 subst ee ed er
 simp only [vJ] at hN ⊢
 have BV:=bD hk.mem
 have hem:=hE.may
 have ho:=bQ.iF hk.one
 have htw:=bQ.iF hk.two
 refine eF _ hN Tryz.func196 ?_
 refine run ?_
 intro F
 refine dX (σ:=Unit) (fun _=>[]) (fun _=>⟨F,#[.int .i64 0,.int .i64 0,.int .i64 0,.bool false,.int .i64 0],43⟩::⟨Wb,#[.slice p c.ws.length cap,.slice qe s.es.length ce,.slice qd ds.length cd,.int .i64 c.pk.cpu,.bool c.pk.fill,.bool c.pk.aO,.bool c.pk.walk,.int .i64 c.pk.drop,.bool c.pk.use,.bool c.one.on,.int .i64 c.one.frame,.int .i64 c.one.tag,.bool c.two.on,.int .i64 c.two.frame,.int .i64 c.two.tag,.int .i64 (c.page:Int),.int .i64 c.acc,.slice qr s.rd.length cr],194⟩::(he++hd++hr)) (fun _=>(c.pk.use && decide (0≤fD c s.es))=false) ?_ ?_
 ·refine aj _ rfl (fun hc=>?_) (fun hc=>?_)
  ·refine run ?_
   have hmm:=fun {wc:World} (ha1:aB wc (.slice qe s.es.length ce) 14 (s.es.map bI)) (hb1:aB wc (.slice qd ds.length cd) 4 (ds.map dJ))=>UR ha1 hb1 hcap hE.vI c.two.tag c.one.tag c.page (lV htw.2.1 htw.2.2) (lV ho.2.1 ho.2.2) hk.page
   rw [pU,show eX s.es (oC c.two.tag c.one.tag c.page) s.es.length=fD c s.es from rfl] at hmm
   obtain ⟨E,hEE⟩:∃ E,E=(bif decide (0≤fD c s.es) then s.es.getD (fD c s.es).toNat default else default):=⟨_,rfl⟩
   rw [← hEE] at hmm
   refine oV 24 23 [0,1,2,3,4,5,6,7,8,9,10,11,12,13,14,15,16,17,18,19,20,21] [22] [23] (⟨F,#[.int .i64 0,.int .i64 0,.int .i64 0,.bool false,.int .i64 0],43⟩::⟨Wb,#[.slice p c.ws.length cap,.slice qe s.es.length ce,.slice qd ds.length cd,.int .i64 c.pk.cpu,.bool c.pk.fill,.bool c.pk.aO,.bool c.pk.walk,.int .i64 c.pk.drop,.bool c.pk.use,.bool c.one.on,.int .i64 c.one.frame,.int .i64 c.one.tag,.bool c.two.on,.int .i64 c.two.frame,.int .i64 c.two.tag,.int .i64 (c.page:Int),.int .i64 c.acc,.slice qr s.rd.length cr],194⟩::(he++hd++hr)) ?_
   refine dh ?_
   refine kU (fun wc hx hG=>hmm (h1.lie (fun b hb=>hG.here b aw9) av3) (h2.lie (fun b hb=>hG.here b aw9) av3)) ?_
   refine dh ?_
   refine dR ?_
   refine gZ ?_
   rintro _ _ ⟨X,rfl,rfl⟩
   simp only [DN,List.cons_append,List.nil_append,List.append_nil]
   refine aV (b:=X) (tb:=114) (cs:=#[.int .i64 0,.int .i64 0,.int .i64 0,.bool false,.int .i64 0,.int .i64 0,.int .i64 0,.int .i64 0,.bool false,.bool false,.bool false,.bool false,.bool false,.int .i64 0]) (cs':=#[.int .i64 E.kind,.int .i64 E.jm,.int .i64 E.ku,.bool E.all,.int .i64 E.page,.int .i64 E.level,.int .i64 E.frame,.int .i64 E.mid,.bool E.r,.bool E.w,.bool E.x,.bool E.af,.bool E.ng,.int .i64 E.soft]) (hp':=⟨F,#[.int .i64 0,.int .i64 0,.int .i64 0,.bool false,.int .i64 0],43⟩::⟨Wb,#[.slice p c.ws.length cap,.slice qe s.es.length ce,.slice qd ds.length cd,.int .i64 c.pk.cpu,.bool c.pk.fill,.bool c.pk.aO,.bool c.pk.walk,.int .i64 c.pk.drop,.bool c.pk.use,.bool c.one.on,.int .i64 c.one.frame,.int .i64 c.one.tag,.bool c.two.on,.int .i64 c.two.frame,.int .i64 c.two.tag,.int .i64 (c.page:Int),.int .i64 c.acc,.slice qr s.rd.length cr],194⟩::(he++hd++hr)) ?_ au
   refine aH ?_
   refine di ?_
   refine run ?_
   refine aj _ rfl (fun hc2=>?_) (fun hc2=>?_)
   ·have h0:0≤fD c s.es:=by
     cases hq:decide (0≤fD c s.es) with
     | true=>exact of_decide_eq_true hq
     | false=>rw [hq] at hc2;simp at hc2
    have hA:gW c s=⟨s,E.frame,jQ⟩:=by rw [hEE];simp only [gW,hc,h0,decide_true,Bool.and_self,cond_true]
    have hL:o7 c s=E.level.toNat:=by rw [hEE];simp only [o7,hc,h0,decide_true,Bool.and_self,cond_true]
    obtain ⟨_,hw2,hw3,_⟩:=yf hE h0
    simp only [h0,decide_true,cond_true] at hEE
    rw [← hEE] at hw2 hw3
    rw [hA,hL]
    refine run ?_
    refine iw 2 ?_
    refine iw 3 ?_
    refine dN 8 7 [0,1,2,3,4,5,6] [7] (⟨X,#[.int .i64 E.kind,.int .i64 E.jm,.int .i64 E.ku,.bool E.all,.int .i64 E.page,.int .i64 E.level,.int .i64 E.frame,.int .i64 E.mid,.bool E.r,.bool E.w,.bool E.x,.bool E.af,.bool E.ng,.int .i64 E.soft],114⟩::⟨Wb,#[.slice p c.ws.length cap,.slice qe s.es.length ce,.slice qd ds.length cd,.int .i64 c.pk.cpu,.bool c.pk.fill,.bool c.pk.aO,.bool c.pk.walk,.int .i64 c.pk.drop,.bool c.pk.use,.bool c.one.on,.int .i64 c.one.frame,.int .i64 c.one.tag,.bool c.two.on,.int .i64 c.two.frame,.int .i64 c.two.tag,.int .i64 (c.page:Int),.int .i64 c.acc,.slice qr s.rd.length cr],194⟩::(he++hd++hr)) ?_
    refine dh ?_
    refine aV (b:=F) (tb:=43) (cs:=#[.int .i64 0,.int .i64 0,.int .i64 0,.bool false,.int .i64 0]) (cs':=#[.int .i64 0,.int .i64 0,.int .i64 0,.bool false,.int .i64 0]) (hp':=⟨X,#[.int .i64 E.kind,.int .i64 E.jm,.int .i64 E.ku,.bool E.all,.int .i64 E.page,.int .i64 E.level,.int .i64 E.frame,.int .i64 E.mid,.bool E.r,.bool E.w,.bool E.x,.bool E.af,.bool E.ng,.int .i64 E.soft],114⟩::⟨Wb,#[.slice p c.ws.length cap,.slice qe s.es.length ce,.slice qd ds.length cd,.int .i64 c.pk.cpu,.bool c.pk.fill,.bool c.pk.aO,.bool c.pk.walk,.int .i64 c.pk.drop,.bool c.pk.use,.bool c.one.on,.int .i64 c.one.frame,.int .i64 c.one.tag,.bool c.two.on,.int .i64 c.two.frame,.int .i64 c.two.tag,.int .i64 (c.page:Int),.int .i64 c.acc,.slice qr s.rd.length cr],194⟩::(he++hd++hr)) ?_ au
    refine aH ?_
    refine di ?_
    refine run ?_
    exact Fh (v:=.int .i64 E.frame) (v1:=.int .i64 E.level) (cs:=#[.int .i64 0,.int .i64 0,.int .i64 0,.bool false,.int .i64 0]) ⟨E.level,_,_,_,he,hd,hr,rfl,fun _=>by omega,h1,h2,h3,by (exact ak)⟩
   ·refine run ?_
    exact dA () (by
     rw [hc,Bool.true_and]
     cases hq:decide (0≤fD c s.es) with
     | false=>rfl
     | true=>rw [hq] at hc2;simp at hc2)
  ·refine run ?_
   exact dA () (by rw [hc];rfl)
 rintro ⟨⟩ hcut
 have hA:gW c s=jH c s c.one.frame.toNat 0:=by simp only [gW,hcut,cond_false]
 have hL:o7 c s=0:=by simp only [o7,hcut,cond_false]
 rw [hA,hL]
 have hT:=fun (wc:World) (hG:eP (⟨Wb,#[.slice p c.ws.length cap,.slice qe s.es.length ce,.slice qd ds.length cd,.int .i64 c.pk.cpu,.bool c.pk.fill,.bool c.pk.aO,.bool c.pk.walk,.int .i64 c.pk.drop,.bool c.pk.use,.bool c.one.on,.int .i64 c.one.frame,.int .i64 c.one.tag,.bool c.two.on,.int .i64 c.two.frame,.int .i64 c.two.tag,.int .i64 (c.page:Int),.int .i64 c.acc,.slice qr s.rd.length cr],194⟩::(he++hd++hr)) wc) (hm:dP wc (Wb::(he++hd++hr).map (·.b)) (.slice p c.ws.length cap) 1 (c.ws.map uV))=>Dz c hk cap hcc s ds c.one.frame.toNat 0 au' au' hE au' hm h1 h2 h3 hG
 rw [show ((c.one.frame.toNat:Nat):Int)=c.one.frame by omega] at hT
 refine run ?_
 refine dK (⟨Wb,#[.slice p c.ws.length cap,.slice qe s.es.length ce,.slice qd ds.length cd,.int .i64 c.pk.cpu,.bool c.pk.fill,.bool c.pk.aO,.bool c.pk.walk,.int .i64 c.pk.drop,.bool c.pk.use,.bool c.one.on,.int .i64 c.one.frame,.int .i64 c.one.tag,.bool c.two.on,.int .i64 c.two.frame,.int .i64 c.two.tag,.int .i64 (c.page:Int),.int .i64 c.acc,.slice qr s.rd.length cr],194⟩::(he++hd++hr)) [⟨F,#[.int .i64 0,.int .i64 0,.int .i64 0,.bool false,.int .i64 0],43⟩] (fun wc hG=>hT wc hG.dG (hm.into hG)) ?_ au
 rintro u1 hn1 ⟨lv,ev1,o6,pR,he1,hd1,hr1,rfl,hlv,h11,h21,h31,hle1⟩
 simp only [vJ] at hle1
 generalize jH c s c.one.frame.toNat 0=Y at hlv h11 h31 ⊢
 refine aJ (⟨F,#[.int .i64 0,.int .i64 0,.int .i64 0,.bool false,.int .i64 0],43⟩::⟨Wb,#[.slice p c.ws.length cap,ev1,o6,.int .i64 c.pk.cpu,.bool c.pk.fill,.bool c.pk.aO,.bool c.pk.walk,.int .i64 c.pk.drop,.bool c.pk.use,.bool c.one.on,.int .i64 c.one.frame,.int .i64 c.one.tag,.bool c.two.on,.int .i64 c.two.frame,.int .i64 c.two.tag,.int .i64 (c.page:Int),.int .i64 c.acc,pR],194⟩::(he1++hd1++hr1)) (cnt1 hle1) ?_
 refine run ?_
 exact Fh (v:=.int .i64 Y.n) (v1:=.int .i64 lv) (cs:=#[.int .i64 Y.f.kind,.int .i64 Y.f.stage,.int .i64 Y.f.level,.bool Y.f.walk,.int .i64 Y.f.page]) ⟨lv,_,_,_,he1,hd1,hr1,rfl,fun h0=>hlv h0,h11,h21,h31,by (exact ak)⟩
end
end Go.Proofs.YtndklbjnofdgeaaGreat
