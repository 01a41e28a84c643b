/- Texts of one's own, merged: the engine, what the functions do, plain laws. -/
import Derived.Test.YtiggoglimlnmmaaGreatPa3
namespace Go.Proofs.YtiggoglimlnmmaaGreat
open Go.RowKit
set_option linter.unusedVariables false
set_option linter.unusedSimpArgs false
set_option maxRecDepth 20000
section
section
variable {P : Program} {n : Nat} {w0 : World} {mu : List Nat} {l : Fm} {hp : Hp} {dd : Option Tmp} {ty : TypeId} {pos : String} {af : Array Edge} {gg : Option (Nat × Bool)} {t u : TypeId} {x y : Operand}
theorem EG {p q:Int} (hx:ev l x=some (.int .i64 p)) (hy:ev l y=some (.int .i64 q)):Hy P n w0 mu l hp ⟨dd,.binOp .andNot t x y u,ty,pos,af,gg⟩ (.int .i64 (bits .andNot .i64 p q)):=
 aT fun ac w hk _=>by
  simp only [execOp,hk.ev hx,hk.ev hy]
  simp [eqGuard_andNot,binOp_andNot,intBits_andNot]
end
theorem Iz:∀ l:Nat,l<3→∀ p:Nat,p<4096→bits .andNot .i64 (p:Int) ((ay l:Nat) - 1:Int)=((iq l p:Nat):Int):=by decide +kernel
end
section
attribute [local irreducible] Hy St Ops DH fE
theorem EH (m x:Int) (B:Nat) (w:World) (hB:w.cell? ⟨B,0,none⟩=some (.int .i64 m)):Fn Tryz.prog 200 ([]++[Value.int .i64 x]++[Value.pointer (some ⟨B,0,none⟩)]).toArray w [] (fun u _=>u=.bool (!PtD.bH x 0 m)):=by
 refine enter Tryz.func200 ?_
 refine aG ?_
 refine fin1 ?_
 unfold PtD.bH
 rw [Bool.not_and]
 congr 1
 rw [← decide_not,← decide_not]
 congr 1<;>(rw [Bool.eq_iff_iff,decide_eq_true_eq,decide_eq_true_eq];omega)
theorem gY (m:Int) (xs:List Int) {w:World} {v:Value} (h:aF w v 1 (xs.map dH)):Fn Tryz.prog 166 [.int .i64 m,v].toArray w [] (fun u _=>u=.bool (xs.all fun x=>PtD.bH x 0 m)):=by
 refine enter Tryz.func166 ?_
 refine run ?_
 intro B
 refine run ?_
 refine ax (fun wc hG=>nG (us:=[.pointer (some ⟨B,0,none⟩)]) (fun x=>!PtD.bH x 0 m) xs _ (h.good hG) (fun x _ w' ha=>EH m x B w' ?_)) ?_
 ·obtain ⟨hp,hg⟩:=ha
  exact hg.cell (by rw [cell_of_block (hG.here _ mh)];rfl) UC
 refine run ?_
 refine fin1 ?_
 rw [← List.not_all_eq_any_not,Bool.not_not]
theorem Dq (level:Nat) (h0:1≤level) (h:level<4) (page:Nat) (hp:page≤4095) (w:World):Fn Tryz.prog 167 [.int .i64 (page:Int),.int .i64 (level:Int)].toArray w [] (fun u _=>u=.int .i64 (iq (level - 1) page:Int)):=by
 refine enter Tryz.func167 ?_
 refine run ?_
 have h9:=fP (show level - 1<4 by omega)
 have hc:=Iz (level - 1) Uz page Uz
 have e3:∀ l:Nat,l<4→1≤l→(1 <<< (3 * (4 - l)):Nat)=ay (l - 1):=by decide
 refine lU UB (uP rfl rfl 1 (3 * (4 - level)) UB Uz Uz (by rw [e3 level h h0];exact Nat.lt_of_le_of_lt h9.2.1 UA)) ?_
 rw [e3 level h h0]
 refine run ?_
 refine lU UB (EG rfl rfl) ?_
 rw [hc]
 refine run ?_
 exact fin1 rfl
theorem Dt (e:aX) (w:World):Fn Tryz.prog 110 [.agg (cu e).toArray].toArray w [] (fun u _=>u=.bool e.may):=by
 have e1:eX false false=true:=rfl
 refine enter Tryz.func110 ?_
 refine run ?_
 intro B Z
 refine ax (fun wc hG=>gY 15 [e.iF,e.jf] (dm (xs:=[dH e.iF,dH e.jf]) (hG.here ⟨Z,#[.int .i64 e.iF,.int .i64 e.jf],3⟩ mh) U4 UC)) ?_
 refine aG ?_
 cases hq:([e.iF,e.jf].all fun x=>PtD.bH x 0 15) with
 | false=>
  simp only [List.all_cons,List.all_nil,Bool.and_true] at hq
  refine NJ (v:=.slice none 0 0) (hy:=fun hg=>by cases hg) (h:=?_)
  refine aG ?_
  refine ah _ rfl (fun hc=>?_) (fun hc=>by cases hc)
  refine run ?_
  refine fin1 ?_
  unfold aX.may aX.nums
  rw [hq];simp
 | true=>
  simp only [List.all_cons,List.all_nil,Bool.and_true] at hq
  simp only [Bool.not_true,e1,aW]
  refine ve ?_ rfl
  refine aG ?_
  intro Z2
  refine bz (fun hg wc hG=>gY 4095 [e.page,e.frame,e.mid] (dm (xs:=[dH e.page,dH e.frame,dH e.mid]) (hG.here ⟨Z2,#[.int .i64 e.page,.int .i64 e.frame,.int .i64 e.mid],3⟩ mh) U4 UC)) ?_
  refine aG ?_
  have hnn:(false || !([e.page,e.frame,e.mid].all fun x=>PtD.bH x 0 4095) || !decide (e.soft=0))=!e.nums:=by
   unfold aX.nums
   rw [hq]
   simp [Bool.and_assoc,Bool.or_assoc]
  rw [hnn]
  refine ah _ rfl (fun hn=>?_) (fun hn=>?_)
  ·refine run ?_
   refine fin1 ?_
   have hn':e.nums=false:=by simpa using hn
   simp [aX.may,hn']
  have hn':e.nums=true:=by simpa using hn
  clear hnn
  have hb:=hn'
  simp only [aX.nums,Bool.and_eq_true,decide_eq_true_eq] at hb
  have hpz:=jF hb.1.1.1.2
  refine run ?_
  refine ah _ rfl (fun hk=>?_) (fun hk=>?_)
  ·refine run ?_
   refine fin1 ?_
   simp [aX.may,hn',hk]
  refine run ?_
  refine ah _ rfl (fun hk2=>?_) (fun hk2=>?_)
  ·refine aG ?_
   refine fin1 ?_
   simp [aX.may,hn',hk,hk2]
  refine run ?_
  refine ah _ rfl (fun hk3=>?_) (fun hk3=>?_)
  ·refine aG ?_
   refine ja 36 ?_
   refine gy ?_
   refine ji (b:=decide (1≤e.level) && decide (e.level<4)) (want:=true) (v:=.int .i64 (iq (e.level.toNat - 1) e.page.toNat:Int)) (fun hg wc hG=>by
    simp [eX] at hg
    have h5:=Dq e.level.toNat Uz Uz e.page.toNat hpz.2 wc
    rw [hpz.1,show ((e.level.toNat:Nat):Int)=e.level by omega] at h5
    exact h5) ?_
   refine gy ?_
   refine run ?_
   refine fin1 ?_
   have hz:decide (e.page=((iq (e.level.toNat - 1) e.page.toNat:Nat):Int))=decide (iq (e.level.toNat - 1) e.page.toNat=e.page.toNat):=by
    rw [Bool.eq_iff_iff,decide_eq_true_eq,decide_eq_true_eq]
    have:=hpz.1
    omega
   have hl4:decide (e.level<4)=decide (e.level≤3):=by rw [Bool.eq_iff_iff,decide_eq_true_eq,decide_eq_true_eq];omega
   rw [hz,hl4]
   simp only [aX.may,hn',hk3,show decide (e.kind=1)=false by simpa using hk,show decide (e.kind=2)=false by simpa using hk2,cond_false,cond_true,Bool.true_and,PtD.bH,aX.bare,aQ,kK]
   cases e.r<;>cases e.w<;>cases e.x<;>cases e.af<;>cases e.ng<;>simp
  ·refine run ?_
   refine fin1 ?_
   simp [aX.may,hn',hk,hk2,hk3]
theorem P7 (i:eH) (w:World):Fn Tryz.prog 114 [.agg (iw i).toArray].toArray w [] (fun u _=>u=.bool i.may):=by
 have e1:eX true true=true:=rfl
 refine enter Tryz.func114 ?_
 refine run ?_
 intro B
 refine aG ?_
 cases hq:(decide (1≤i.kind) && decide (i.kind≤6)) with
 | false=>
  refine NJ (v:=.slice none 0 0) (hy:=fun hg=>by cases hg) (h:=?_)
  refine aG ?_
  refine fin1 ?_
  simp only [eH.may,PtD.bH,hq,Bool.false_and]
 | true=>
  simp only [e1,aW]
  refine ve ?_ rfl
  refine aG ?_
  intro Z
  refine bz (fun hg wc hG=>gY 15 [i.iF,i.jf] (dm (xs:=[dH i.iF,dH i.jf]) (hG.here ⟨Z,#[.int .i64 i.iF,.int .i64 i.jf],3⟩ mh) U4 UC)) ?_
  refine aG ?_
  simp only [Bool.true_and]
  refine aG ?_
  cases hq2:([i.iF,i.jf].all fun x=>PtD.bH x 0 15) with
  | false=>
   refine NJ (v:=.slice none 0 0) (hy:=fun hg=>by cases hg) (h:=?_)
   refine aG ?_
   refine fin1 ?_
   simp only [List.all_cons,List.all_nil,Bool.and_true] at hq2
   unfold eH.may
   rw [Bool.and_assoc (PtD.bH i.kind 1 6),hq2]
   simp
  | true=>
   simp only [e1,aW]
   refine ve ?_ rfl
   refine aG ?_
   intro Z2
   refine bz (fun hg wc hG=>gY 4095 [i.page] (dm (xs:=[dH i.page]) (hG.here ⟨Z2,#[.int .i64 i.page],3⟩ mh) U4 UC)) ?_
   refine aG ?_
   refine fin1 ?_
   simp only [List.all_cons,List.all_nil,Bool.and_true] at hq2
   unfold eH.may
   rw [Bool.and_assoc (PtD.bH i.kind 1 6),show PtD.bH i.kind 1 6=true from hq,hq2]
   simp
theorem IA (i:eH) (w:World):Fn Tryz.prog 113 ([]++[Value.agg (iw i).toArray]++[]).toArray w [] (fun u _=>u=.bool (!i.may)):=by
 refine enter Tryz.func113 ?_
 refine run ?_
 intro B
 refine ax (fun wc hG=>P7 i wc) ?_
 refine run ?_
 exact fin1 rfl
theorem nI {w:World} (es:List aX) (ds:List eH) (v u:Value) (h:aF w v 14 (es.map cu)) (hd:aF w u 4 (ds.map iw)) (hcap:∃ q c,v=.slice q es.length c∧es.length≤c):
  Fn Tryz.prog 62 [.agg #[v,u]].toArray w [] (fun r _=>r=.int .i64 (bif bZ es ds then 0 else 1)):=by
 obtain ⟨q,cap,rfl,hne,hle⟩:=h.opened
 obtain ⟨q2,cap2,rfl,hne2,hle2⟩:=hd.opened
 replace hcap:es.length≤cap:=by
  obtain ⟨_,_,e,hc⟩:=hcap
  injection e with _ _ e
  rw [e];exact hc
 refine enter Tryz.func62 ?_
 refine run ?_
 intro B
 refine aG ?_
 refine ah _ rfl (fun hc=>?_) (fun hc=>?_)
 ·refine run ?_
  refine fin1 ?_
  have:bZ es ds=false:=by
   unfold bZ
   simp only [Bool.or_eq_true,decide_eq_true_eq] at hc
   have h2:(decide (es.length≤8) && decide (ds.length≤8))=false:=by
    rcases hc with hc | hc
    ·rw [decide_eq_false (p:=es.length≤8) Uz,Bool.false_and]
    ·rw [decide_eq_false (p:=ds.length≤8) Uz,Bool.and_false]
   rw [Bool.and_assoc,h2,Bool.and_false]
  rw [this];rfl
 have h8:es.length≤8∧ds.length≤8:=by
  simp at hc;omega
 refine run ?_
 refine eF (σ:=Nat) (fun k=>[(18,.int .i64 (k:Int))]) (fun _=>[⟨B,#[.slice q es.length cap,.slice q2 ds.length cap2],35⟩]) (fun k=>k≤es.length∧∀ j,j<k→rD es j=true) (fun k=>es.length - k) 0 ⟨Nat.zero_le _,fun j hj=>absurd hj Uz⟩ ?_
 rintro k m rfl ⟨hk,hno⟩
 refine run ?_
 refine ah _ rfl (fun hc=>?_) (fun hc=>?_)
 ·have hlt:k<es.length:=by simpa using hc
  obtain ⟨b,o,rfl⟩:=hne UK
  have hr:=h.row hlt
  refine run ?_
  intro X
  refine run ?_
  refine lJ ?_
  refine gp ?_
  refine nY (fun wc hG=>Dt (es.getD k default) wc) ?_
  refine gy ?_
  refine Ej (v:=.slice (some ⟨b,o,none⟩) k cap) (hy:=fun hg=>zi aj UH UH UB Uz Uz (m':=k) UC (.inr ⟨_,_,rfl⟩)) (h:=?_)
  refine gy ?_
  refine ji (fun hg wc hG=>qp (es.getD k default) (es.take k) _ ((h.good hG).takeN Uz)) ?_
  refine gy ?_
  refine run ?_
  have he:(!(es.getD k default).may || (es.take k).any fun t=>decide (t=es.getD k default))=!rD es k:=by
   unfold rD
   rw [Bool.not_and,Bool.not_not]
  rw [he]
  refine ah _ rfl (fun hp=>?_) (fun hp=>?_)
  ·refine run ?_
   refine fin1 ?_
   rw [Dh hlt (by simpa using hp)];rfl
  ·refine run ?_
   refine dG (k + 1) ⟨hlt,fun j hj=>?_⟩
   rcases Nat.lt_succ_iff_lt_or_eq.1 hj with hj | rfl
   ·exact hno j hj
   ·simpa using hp
 ·have hge:k=es.length:=by simp at hc;omega
  subst hge
  refine run ?_
  refine ax (fun wc hG=>vT (us:=[]) (fun x=>!x.may) ds _ (hd.good hG) (fun x _ w' ha=>IA x w')) ?_
  refine run ?_
  have he:(ds.any fun x=>!x.may)=!ds.all eH.may:=by rw [List.not_all_eq_any_not]
  rw [he]
  refine ah _ rfl (fun hp=>?_) (fun hp=>?_)
  ·refine run ?_
   refine fin1 ?_
   have:bZ es ds=false:=by
    unfold bZ
    rw [show ds.all eH.may=false by simpa using hp];simp
   rw [this];rfl
  ·refine run ?_
   refine fin1 ?_
   have:bZ es ds=true:=by
    unfold bZ
    rw [ql hno,show ds.all eH.may=true by simpa using hp,decide_eq_true h8.1,decide_eq_true h8.2];rfl
   rw [this];rfl
end
def aX.stage (e:aX):Bool:=decide (e.kind=1) || decide (e.kind=3)
def eH.at_ (i:eH) (e:aX):Bool:=decide (e.page=bif decide (e.kind=3) then ((iq (e.level.toNat - 1) i.page.toNat:Nat):Int) else i.page)
theorem rE {xs:List aX}:∀ c∈xs.map cu,c.length=14∧c.all (·.oneCell')=true:=by
 intro c hc
 obtain ⟨x,_,rfl⟩:=List.mem_map.1 hc
 exact ⟨rfl,rfl⟩
theorem IB {xs:List eH}:∀ c∈xs.map iw,c.length=4∧c.all (·.oneCell')=true:=by
 intro c hc
 obtain ⟨x,_,rfl⟩:=List.mem_map.1 hc
 exact ⟨rfl,rfl⟩
section
attribute [local irreducible] Hy St Ops DH fE iK iE fU DS fD
theorem rF {w:World} (es:List aX) (ds:List eH) (v u:Value) (h:aF w v 14 (es.map cu)) (hd:aF w u 4 (ds.map iw)) (hl:es.length<1000000) (hl2:ds.length<1000000):
  Fn Tryz.prog 32 [.agg #[v,u]].toArray w [] (fun r hn=>∃ v1 h1 v2 h2,r=.agg #[v1,v2]∧Own 81 14 v1 h1 (es.map cu)∧Own 109 4 v2 h2 (ds.map iw)∧aI (h1++h2) hn):=by
 refine enter Tryz.func32 ?_
 refine run ?_
 intro B
 refine run ?_
 intro C
 refine run ?_
 refine mY 8 7 [0,1,3,4] [2,5] [6,7] [⟨B,#[v,u],35⟩] ?_
 refine dV ?_
 refine y7 (fun wc hG=>nH v (es.map cu) (h.good hG) rE (by simpa using hl)) (nH v (es.map cu) h rE (by simpa using hl)).some ?_
 refine y7 (fun wc hG=>oh u (ds.map iw) (hd.good hG) IB (by simpa using hl2)) (oh u (ds.map iw) hd IB (by simpa using hl2)).some ?_
 refine kM ?_
 intro v2 hn2 hO2 v1 hn1 vU
 simp only [DN,List.cons_append,List.nil_append,List.append_nil]
 obtain ⟨p1,c1,rfl⟩:=vU.opened
 obtain ⟨p2,c2,rfl⟩:=hO2.opened
 rw [List.length_map] at vU hO2 ⊢
 rw [List.length_map]
 refine NT ?_
 refine QW (b:=C) (cs:=#[.slice none 0 0,.slice none 0 0]) (tb:=35) (hp':=hn2++hn1++[⟨B,#[v,u],35⟩]) (hperm:=(List.perm_middle (l₁:=hn2++hn1)).symm) ?_
 refine bf ?_
 refine dY ?_
 refine run ?_
 refine jh (cs:=#[.slice p1 es.length c1,.slice p2 ds.length c2]) ?_
 exact ⟨_,hn1,_,hn2,rfl,vU,hO2,by (exact ak)⟩
end
structure bT (w:World) (mu:List Nat) (v:Value) (sz:Nat) (xs:List (List Value)):Prop where
 at_:aF w v sz xs
 off:∀ (i:Nat) (c:List Value),xs[i]?=some c→c ≠ []→∀ b o n k,v=.slice (some ⟨b,o,none⟩) n k→b ∉ mu
theorem bT.old {w:World} {v:Value} {sz:Nat} {xs:List (List Value)} (h:aF w v sz xs):bT w [] v sz xs:=⟨h,fun _ _ _ _ _ _ _ _ _=>by simp⟩
theorem bT.good {w w':World} {mu:List Nat} {hp:Hp} {v:Value} {sz:Nat} {xs:List (List Value)} (h:bT w mu v sz xs) (hG:Good w mu hp w'):aF w' v sz xs:=by
 obtain ⟨⟨⟨p,c,rfl,hp⟩,hl⟩,ho⟩:=h
 refine ⟨⟨p,c,rfl,fun hne=>?_⟩,hl⟩
 obtain ⟨b,off,rfl,hr⟩:=hp hne
 refine ⟨b,off,rfl,fun i c hc j u hj=>?_⟩
 exact hG.cell (hr i c hc j u hj) (ho i c hc (by intro e;subst e;simp at hj) _ _ _ _ rfl)
theorem bT.next {w w':World} {mu SH:List Nat} {hp:Hp} {v:Value} {sz:Nat} {xs:List (List Value)} (h:bT w mu v sz xs) (hG:Good w mu hp w') (hs:∀ b∈SH,∃ e∈hp,e.b=b):bT w' SH v sz xs:=by
 refine ⟨h.good hG,fun i c hc hcn b o n k e hm=>?_⟩
 subst e
 have hnm:=h.off i c hc hcn b o n k rfl
 obtain ⟨⟨p,c',e,hp'⟩,hl⟩:=h.at_
 injection e with e1 _ e3
 subst e1
 obtain ⟨b',off',e,hr⟩:=hp' (by intro e;subst e;simp at hc)
 injection e with e
 injection e with e1 e2 _
 subst e1 e2
 obtain ⟨x,hx,rfl⟩:=hs b hm
 rcases hG.own x hx with h5 | h5
 ·exact hnm h5
 ·match c,hcn with
  | u::r,_=>
   have h3:=hr i (u::r) hc 0 u rfl
   have h9:x.b<w.heap.size:=block_lt_of_cell h3
   omega
section
attribute [local irreducible] Hy St Ops DH fE iK iE fU DS fD
theorem Du {α:Type} {P:α→Prop} {c:Bool} {a b:α} (ha:P a) (hb:P b):P (bif c then a else b):=by cases c<;>assumption
theorem Oq {ws:List Nat} {stage:Int} {page:Nat}:∀ (k level:Nat) (f:Int) (rd:List Int),(Di ws stage page k level f rd).rd.length≤rd.length + k:=by
 intro k
 induction k with
 | zero=>intro level f rd;exact Nat.le_refl _
 | succ k ih=>
  intro level f rd
  rw [Di]
  refine Du (P:=fun x:Ey=>x.rd.length≤rd.length + (k + 1)) (Du (P:=fun x:Ey=>x.rd.length≤rd.length + (k + 1)) ?_ ?_) (by simp only;omega)
  ·have:=ih (level + 1) (iR ws stage (fF f level page) level).frame (rd++[f])
   simp only [List.length_append,List.length_singleton] at this
   omega
  ·unfold mg
   refine Du (P:=fun x:Ey=>x.rd.length≤rd.length + (k + 1)) UW (Du (P:=fun x:Ey=>x.rd.length≤rd.length + (k + 1)) UW UW)
theorem uh (ws:List Nat) (frame:Int) (mid:Nat) (acc:Int):(aV ws true frame mid acc).rd.length≤4:=by
 have h:=Oq (ws:=ws) (stage:=2) (page:=mid) 4 0 frame []
 simp only [aV,Bool.not_true,cond_false,vP]
 cases (!decide ((kY (bK ws 2 frame mid) mid acc).kind=0))<;>exact h
theorem KO {l c:List Value} {o n j:Nat} {v:Value} (h:(l.drop o).take n=c) (hv:nth c j=some v):nth l (o + j)=some v:=by
 rw [kJ] at hv ⊢
 subst h
 simp only [List.getElem?_toArray] at hv ⊢
 rw [List.getElem?_take] at hv
 split at hv
 ·rwa [List.getElem?_drop] at hv
 ·cases hv
theorem KP {α:Type} [Inhabited α] (p:α→Bool) (l:List α):-1≤dh p l∧dh p l<(l.length:Int):=by
 have h:=Iy p l
 cases ha:l.any p with
 | false=>
  have:dh p l=-1:=dS fun j hj=>by
   rw [List.any_eq_false] at ha
   have:=ha _ (getD_mem hj)
   simpa using this
  rw [this];omega
 | true=>
  obtain ⟨x,hx,hp⟩:=List.any_eq_true.1 ha
  obtain ⟨j,hj,rfl⟩:=List.getElem_of_mem hx
  have hjp:p (l.getD j default)=true:=by rw [List.getD_eq_getElem?_getD,List.getElem?_eq_getElem hj];exact hp
  obtain ⟨j0,h0,h1,h2⟩:=kX p l j hjp
  rw [gq (k:=j0) Uz h1 h2]
  omega
end
structure jX (c:gX):Prop where
 EI:wL c.ws
 mem:dL c.ws.length=true
 one:c.one.may=true
 two:c.two.may=true
 on:c.two.on=true
 page:c.page≤4095
theorem dX.fC {r:dX} (h:r.may=true):(0≤r.frame∧r.frame≤4095)∧0≤r.tag∧r.tag≤15:=by
 simpa only [dX.may,PtD.bH,Bool.and_eq_true,decide_eq_true_eq] using h
theorem yu {n:Nat} {f:Int} (hn:dL n=true) (h:bM n f=true):0≤f∧f≤63:=by
 have h1:=cO hn
 have h2:=kW h
 omega
theorem EJ {l p:Nat}:iq l (iq l p)=iq l p:=by
 unfold iq
 have:(p - p % ay l) % ay l=0:=by
  have h:=Nat.div_add_mod p (ay l)
  rw [show p - p % ay l=ay l * (p / ay l) by omega]
  exact Nat.mul_mod_right ..
 omega
theorem IC (l p:Nat):iq l p≤p:=by unfold iq;omega
theorem iO {z:Int} {a b:Int} (h:a≤z) (h2:z≤b):PtD.bH z a b=true:=by simp [PtD.bH,h,h2]
theorem zK {c:gX} (hk:jX c) {mid:Nat} (hm:mid≤4095) {h:gQ} (hf:bM c.ws.length h.frame=true) (hg:h.ng=false):(vS c.two.tag mid h).may=true:=by
 have h1:=dX.fC hk.two
 have h2:=yu hk.mem hf
 have e1:(vS c.two.tag mid h).nums=true:=by
  simp only [aX.nums,vS,decide_true,Bool.and_true,Bool.and_eq_true]
  exact ⟨⟨⟨⟨iO Uz Uz,iO Uz Uz⟩,iO Uz Uz⟩,iO Uz Uz⟩,iO Uz Uz⟩
 rw [aX.may,e1]
 simp [vS,hg]
theorem zL {c:gX} (hk:jX c) {level:Nat} (h0:0<level) (h3:level≤3) {n:Int} (hf:bM c.ws.length n=true):(sF c level n).may=true:=by
 have h1:=dX.fC hk.two
 have h4:=dX.fC hk.one
 have h2:=yu hk.mem hf
 have h5:=hk.page
 have h6:=IC (level - 1) c.page
 have e1:(sF c level n).nums=true:=by
  simp only [aX.nums,sF,decide_true,Bool.and_true,Bool.and_eq_true]
  exact ⟨⟨⟨⟨iO Uz Uz,iO Uz Uz⟩,iO Uz Uz⟩,iO Uz Uz⟩,iO Uz Uz⟩
 have e2:PtD.bH (sF c level n).level 1 3=true:=iO (by simp only [sF];omega) (by simp only [sF];omega)
 rw [aX.may,e1,e2]
 simp [sF,aX.bare,EJ]
theorem zM {c:gX} (hk:jX c) {n:Int} {mid:Nat} (hm:mid≤4095) {d:DsD} {a:AtD} (hf:bM c.ws.length n=true):(sG c n mid d a).may=true:=by
 have h1:=dX.fC hk.two
 have h4:=dX.fC hk.one
 have h2:=yu hk.mem hf
 have h5:=hk.page
 have e1:(sG c n mid d a).nums=true:=by
  simp only [aX.nums,sG,decide_true,Bool.and_true,Bool.and_eq_true]
  exact ⟨⟨⟨⟨iO Uz Uz,iO Uz Uz⟩,iO Uz Uz⟩,iO Uz Uz⟩,iO Uz Uz⟩
 rw [aX.may,e1]
 simp [sG]
structure yw (n:Nat) (ds:List eH) (k:Nat) (s:kZ) (x:kZ):Prop where
 es:gG n x.es ds
 rd:x.rd.length≤s.rd.length + k
theorem gG.IE {n:Nat} {es:List aX} {ds:List eH} (h:gG n es ds) {i:Nat} (hi:i<es.length):(es.getD i default).may=true∧bM n (es.getD i default).frame=true:=⟨h.may.1 _ (getD_mem hi),h.held _ (getD_mem hi)⟩
theorem KQ {e:aX} (h:e.may=true) (hk:e.kind=2):e.ng=false:=by
 simp only [aX.may,hk,decide_true,show decide ((2:Int)=1)=false from rfl,cond_true,cond_false,Bool.and_eq_true,Bool.not_eq_true'] at h
 exact h.2.2
theorem vg {α:Type} [Inhabited α] {p:α→Bool} {l:List α} (h:0≤dh p l):(dh p l).toNat<l.length∧p (l.getD (dh p l).toNat default)=true:=by
 have h1:=(KP p l).2
 refine ⟨by omega,?_⟩
 cases ha:l.any p with
 | false=>
  have:dh p l=-1:=dS fun j hj=>by
   rw [List.any_eq_false] at ha
   have:=ha _ (getD_mem hj)
   simpa using this
  omega
 | true=>
  obtain ⟨x,hx,hp⟩:=List.any_eq_true.1 ha
  obtain ⟨j,hj,rfl⟩:=List.getElem_of_mem hx
  have hjp:p (l.getD j default)=true:=by rw [List.getD_eq_getElem?_getD,List.getElem?_eq_getElem hj];exact hp
  obtain ⟨j0,h0,h2,h3⟩:=kX p l j hjp
  rw [gq (k:=j0) Uz h2 h3]
  simpa using h2
theorem KR {c:gX} (hk:jX c) {ds:List eH} {s:kZ} (hE:gG c.ws.length s.es ds) {mid:Nat} (hm:mid≤4095) (acc:Int):yw c.ws.length ds 4 s (nT c s mid (aV c.ws true c.two.frame mid acc)).s∧((nT c s mid (aV c.ws true c.two.frame mid acc)).f.kind=0→bM c.ws.length (nT c s mid (aV c.ws true c.two.frame mid acc)).n=true∧(nT c s mid (aV c.ws true c.two.frame mid acc)).f=eU∧(nT c s mid (aV c.ws true c.two.frame mid acc)).a.ng=false):=by
 have h4:=uh c.ws c.two.frame mid acc
 have h5:=ug (ws:=c.ws) (frame:=c.two.frame) (mid:=mid) (acc:=acc)
 generalize aV c.ws true c.two.frame mid acc=L at h4 h5 ⊢
 unfold nT
 cases hc:decide (L.f.kind=0) with
 | false=>
  simp only [Bool.not_false,cond_true]
  refine ⟨⟨hE,by simp only [List.length_append];omega⟩,fun h=>?_⟩
  simp [h] at hc
 | true=>
  obtain ⟨h6,h7,h8⟩:=h5 (of_decide_eq_true hc)
  simp only [Bool.not_true,cond_false]
  refine ⟨⟨?_,by simp only [List.length_append];omega⟩,fun h=>⟨h6,h7,h8⟩⟩
  cases c.pk.aP with
  | false=>exact hE
  | true=>exact yt hE (zK hk hm h6 h8) h6
theorem qw {c:gX} (hk:jX c) {ds:List eH} {s:kZ} (hE:gG c.ws.length s.es ds) {mid:Nat} (hm:mid≤4095) (acc:Int):yw c.ws.length ds 4 s (bV c s mid acc).s∧((bV c s mid acc).f.kind=0→bM c.ws.length (bV c s mid acc).n=true∧(bV c s mid acc).f=eU∧(bV c s mid acc).a.ng=false):=by
 unfold bV
 cases hc:(c.pk.use && decide (0≤oL c s mid acc)) with
 | false=>exact KR hk hE hm acc
 | true=>
  rw [Bool.and_eq_true,decide_eq_true_eq] at hc
  simp only [cond_true]
  obtain ⟨h1,h2⟩:=vg (p:=nC c.two.tag mid acc) (l:=s.es) hc.2
  have h3:=hE.IE h1
  refine ⟨⟨hE,by omega⟩,fun _=>⟨h3.2,by first | rfl | trivial,?_⟩⟩
  simp only [nC,Bool.and_eq_true,decide_eq_true_eq] at h2
  exact KQ h3.1 h2.1.1.1
theorem uj {c:gX} (hk:jX c) {ds:List eH} {s:kZ} (hE:gG c.ws.length s.es ds) {mid level:Nat} (hm:mid≤4095) (hl:level≤3):yw c.ws.length ds 4 s (dZ c s mid level).s∧((dZ c s mid level).f.kind=0→bM c.ws.length (dZ c s mid level).n=true):=by
 obtain ⟨h1,h2⟩:=qw hk hE hm 0
 unfold dZ
 generalize bV c s mid 0=M at h1 h2 ⊢
 cases hc:decide (M.f.kind=0) with
 | false=>
  simp only [Bool.not_false,cond_true]
  refine ⟨h1,fun h=>?_⟩
  simp [h] at hc
 | true=>
  obtain ⟨h3,h4,_⟩:=h2 (of_decide_eq_true hc)
  simp only [Bool.not_true,cond_false]
  refine ⟨⟨?_,h1.rd⟩,fun _=>h3⟩
  cases hw:(decide (0<level) && c.pk.walk) with
  | false=>exact h1.es
  | true=>
   rw [Bool.and_eq_true,decide_eq_true_eq] at hw
   exact yt h1.es (zL hk hw.1 hl h3) h3
theorem nJ {stage:Int} {level:Nat} {d:DsD} (hd:d.may stage level=true) (hk:d.kind=2) (hl:level<4) (page:Nat):d.frame.toNat + page % ay level≤4095∧((d.frame.toNat:Nat):Int)=d.frame:=by
 obtain ⟨_,_,_,h2⟩:=fA hd
 obtain ⟨h3,h4,h5,_,h6⟩:=h2 hk
 have hp:level=1∨level=2∨level=3:=by omega
 have hc:=Bl hl
 rcases hp with rfl | rfl | rfl<;>simp at hc<;>rw [hc] at h6 ⊢<;>omega
theorem IG {c:gX} (hk:jX c) {ds:List eH} {s:kZ} (hE:gG c.ws.length s.es ds) {level:Nat} {d:DsD} (hm:bQ c level d≤4095):yw c.ws.length ds 4 s (kF c s level d).s∧((kF c s level d).f.kind=0→bM c.ws.length (kF c s level d).n=true):=by
 obtain ⟨h1,h2⟩:=qw hk hE hm c.acc
 unfold kF
 generalize bV c s (bQ c level d) c.acc=M at h1 h2 ⊢
 generalize bP d.r d.w d.x d.af c.acc 1 level c.page=F
 cases hc:decide (F.kind=0) with
 | false=>
  simp only [Bool.not_false,cond_true]
  refine ⟨⟨hE,by omega⟩,fun h=>?_⟩
  simp [h] at hc
 | true=>
  simp only [Bool.not_true,cond_false]
  cases hc2:decide (M.f.kind=0) with
  | false=>
   simp only [Bool.not_false,cond_true]
   refine ⟨h1,fun h=>?_⟩
   simp [h] at hc2
  | true=>
   obtain ⟨h3,h4,_⟩:=h2 (of_decide_eq_true hc2)
   simp only [Bool.not_true,cond_false]
   refine ⟨⟨?_,h1.rd⟩,fun _=>h3⟩
   cases c.pk.fill with
   | false=>exact h1.es
   | true=>exact yt h1.es (zM hk hm h3) h3
def II (c:gX) (k level:Nat) (mid:Nat) (s:kZ):Ez:=bif !decide ((dZ c s mid level).f.kind=0) then ⟨(dZ c s mid level).s,0,(dZ c s mid level).f⟩ else qo c k level (dZ c s mid level).n (dZ c s mid level).s
theorem Dv {c:gX} (hk:jX c) {ds:List eH}:∀ (k level:Nat) (f:Int) (s:kZ),level + k=4→gG c.ws.length s.es ds→yw c.ws.length ds (5 * k) s (qo c k level f s).s:=by
 intro k
 induction k with
 | zero=>intro level f s hl hE;exact ⟨hE,Nat.le_refl _⟩
 | succ k ih=>
  intro level f s hl hE
  rw [qo]
  have hmay:=kE c.ws 1 (fF f level c.page) level
  generalize iR c.ws 1 (fF f level c.page) level=d at hmay ⊢
  obtain ⟨hkk,hk0,hk1,hk2⟩:=fA hmay
  cases h1:decide (d.kind=1) with
  | true=>
   obtain ⟨g1,g2,g3,g4⟩:=hk1 (of_decide_eq_true h1)
   obtain ⟨h2,h3⟩:=uj hk (s:=⟨s.es,s.rd++[f]⟩) hE (mid:=d.frame.toNat) (level:=level + 1) Uz Uz
   have h4:=h2.rd
   simp only [List.length_append,List.length_singleton] at h4
   simp only [cond_true]
   generalize dZ c ⟨s.es,s.rd++[f]⟩ d.frame.toNat (level + 1)=T at h2 h3 h4 ⊢
   cases hc:decide (T.f.kind=0) with
   | false=>simp only [Bool.not_false,cond_true];exact ⟨h2.es,by omega⟩
   | true=>
    simp only [Bool.not_true,cond_false]
    have:=ih (level + 1) T.n T.s Uz h2.es
    exact ⟨this.es,by have:=this.rd;omega⟩
  | false=>
   simp only [cond_false]
   cases h0:decide (d.kind=0) with
   | true=>simp only [cond_true];exact ⟨hE,by simp only [List.length_append,List.length_singleton];omega⟩
   | false=>
    simp only [cond_false]
    have hd2:d.kind=2:=by simp at h1 h0;omega
    have:=(IG hk (s:=⟨s.es,s.rd++[f]⟩) hE (d:=d) (level:=level) (nJ hmay hd2 Uz c.page).1).1
    exact ⟨this.es,by have:=this.rd;simp only [List.length_append,List.length_singleton] at this;omega⟩
theorem IJ {c:gX} (hk:jX c) {ds:List eH} {s:kZ} (hE:gG c.ws.length s.es ds):yw c.ws.length ds 24 s (rX c s).s:=by
 have h1:=dX.fC hk.one
 obtain ⟨h2,h3⟩:=uj hk hE (mid:=c.one.frame.toNat) (level:=0) Uz Uz
 unfold rX
 generalize dZ c s c.one.frame.toNat 0=T at h2 h3 ⊢
 cases hc:decide (T.f.kind=0) with
 | false=>simp only [Bool.not_false,cond_true];exact ⟨h2.es,by have:=h2.rd;omega⟩
 | true=>
  simp only [Bool.not_true,cond_false]
  have:=Dv hk 4 0 T.n T.s rfl h2.es
  exact ⟨this.es,by have:=this.rd;have:=h2.rd;omega⟩
theorem vw {es:List aX} {q:aX→Bool}:∀ k,0≤bW es q k→q (es.getD (bW es q k).toNat default)=true:=by
 intro k
 induction k with
 | zero=>intro h;rw [bW] at h;omega
 | succ k ih=>
  intro h
  rw [bW] at h ⊢
  cases hc:(q (es.getD k default) && (decide (bW es q k<0) || decide ((es.getD (bW es q k).toNat default).level<(es.getD k default).level))) with
  | true=>rw [Bool.and_eq_true] at hc;simpa using hc.1
  | false=>rw [hc] at h;exact ih h
theorem yx {e:aX} (h:e.may=true) (hk:e.kind=3):1≤e.level∧e.level≤3:=by
 simp only [aX.may,hk,decide_true,show decide ((3:Int)=1)=false from rfl,show decide ((3:Int)=2)=false from rfl,cond_true,cond_false,Bool.and_eq_true,PtD.bH,decide_eq_true_eq] at h
 exact h.2.1.1.1
theorem yz {c:gX} {ds:List eH} {es:List aX} (hE:gG c.ws.length es ds) (h:0≤dw c es):(dw c es).toNat<es.length∧1≤(es.getD (dw c es).toNat default).level∧(es.getD (dw c es).toNat default).level≤3∧bM c.ws.length (es.getD (dw c es).toNat default).frame=true:=by
 have h1:=(nD (es:=es) (q:=jW c.two.tag c.one.tag c.page) es.length).2
 have h2:=vw (es:=es) (q:=jW c.two.tag c.one.tag c.page) es.length h
 have h3:(dw c es).toNat<es.length:=by simp only [dw] at h ⊢;omega
 have h4:=hE.IE h3
 simp only [jW,Bool.and_eq_true,decide_eq_true_eq] at h2
 have h5:=yx h4.1 h2.1.1
 exact ⟨h3,h5.1,h5.2,h4.2⟩
theorem IK {c:gX} (hk:jX c) {ds:List eH} {es:List aX} (hE:gG c.ws.length es ds):yw c.ws.length ds 24 ⟨es,[]⟩ (kG c es).s:=by
 unfold kG
 cases c.one.on with
 | false=>
  simp only [Bool.not_false,cond_true]
  obtain ⟨h1,_⟩:=qw hk (s:=⟨es,[]⟩) hE hk.page c.acc
  exact ⟨h1.es,by have:=h1.rd;omega⟩
 | true=>
  simp only [Bool.not_true,cond_false]
  cases hc:(c.pk.use && decide (0≤fQ c es)) with
  | true=>simp only [cond_true];exact ⟨hE,by simp⟩
  | false=>
   simp only [cond_false]
   unfold zI
   cases hc2:(c.pk.use && decide (0≤dw c es)) with
   | true=>
    rw [Bool.and_eq_true,decide_eq_true_eq] at hc2
    obtain ⟨h1,h2,h3,h4⟩:=yz hE hc2.2
    simp only [cond_true]
    have:=Dv hk (ds:=ds) (4 - (es.getD (dw c es).toNat default).level.toNat) (es.getD (dw c es).toNat default).level.toNat (es.getD (dw c es).toNat default).frame ⟨es,[]⟩ Uz hE
    exact ⟨this.es,by have:=this.rd;omega⟩
   | false=>
    simp only [cond_false]
    have:=IJ hk (s:=⟨es,[]⟩) hE
    exact ⟨this.es,by have:=this.rd;omega⟩
theorem zN {c:gX} (hk:jX c) {ds:List eH} {es:List aX} (hE:gG c.ws.length es ds):yw c.ws.length ds 24 ⟨es,[]⟩ (dW c es).s:=by
 have:=IK hk (Dp hE c.pk.drop)
 exact ⟨this.es,this.rd⟩
section
section
variable {P : Program} {n : Nat} {w0 : World} {mu : List Nat} {l : Fm} {h0 hp hc : Hp} {Q : Exit → Fm → Hp → Prop} {all : Array Oper} {ds : List (Nat × Nat)} {t0 : Nat} {i d : Nat} {iv fr : Fm} {rest : List Oper} {op : Op} {ty : TypeId} {pos : String} {af : Array Edge} {j : Nat} {want : Bool} {dj : Nat} {b : Bool}
theorem Ot {v:Value} (hlk:lk ds i=some d) (hwt:Region.waitsFor .any all t0 i=true) (hj:(all[j]?).bind (·.dst)=some dj) (hb:look (au ds iv af.toList++l) dj=some (.bool b)) (hdj:Nat.blt dj n=true)
  (hy:eX b want=true→Hy P n w0 mu (au ds iv af.toList++l) hp ⟨some d,op,ty,pos,af,some (j,want)⟩ v)
  (h:lZ P n w0 mu all ds l h0 hp t0 Q (i + 1) rest ((i,gv (eX b want) v)::iv) ((d,gv (eX b want) v)::fr) hc):lZ P n w0 mu all ds l h0 hp t0 Q i (⟨some d,op,ty,pos,af,some (j,want)⟩::rest) iv fr hc:=
 fun e=>⟨_,fun hx=>by rw [hwt];exact ⟨dj,true,b,v,hj,hb,hdj,fun _=>hy,rfl⟩,h (eu hlk e)⟩
theorem Ou {v:Value} (hlk:lk ds i=some d) (hwt:Region.waitsFor .any all t0 i=false) (hj:(all[j]?).bind (·.dst)=some dj) (hb:look (au ds iv af.toList++l) dj=some (.bool b)) (hdj:Nat.blt dj n=true)
  (hy:∀ hx,eX b want=true→Hy P n w0 mu (au ds iv af.toList++l) (hx++h0) ⟨some d,op,ty,pos,af,some (j,want)⟩ v)
  (h:lZ P n w0 mu all ds l h0 hp t0 Q (i + 1) rest ((i,gv (eX b want) v)::iv) ((d,gv (eX b want) v)::fr) hc):lZ P n w0 mu all ds l h0 hp t0 Q i (⟨some d,op,ty,pos,af,some (j,want)⟩::rest) iv fr hc:=
 fun e=>⟨_,fun hx=>by rw [hwt];exact ⟨dj,true,b,v,hj,hb,hdj,fun _=>hy hx,rfl⟩,h (eu hlk e)⟩
end
section
variable {n : Nat} {w0 : World} {mu : List Nat} {l : Fm} {hp : Hp} {dd : Option Tmp} {ty : TypeId} {pos : String} {af : Array Edge} {gg : Option (Nat × Bool)}
end
section
variable {n : Nat} {w0 : World} {mu : List Nat} {l : Fm} {h0 hp hc : Hp} {all : Array Oper} {iv aB aK : Fm} {i d : Nat} {ds : List (Nat × Nat)} {r : List Nat} {Y : Fm → Hp → Prop} {ty : TypeId} {pos : String} {af : Array Edge}
end
attribute [local irreducible] Hy St Ops DH fE iK iE fU DS fD lZ
theorem zO {G R:Prop} (k:R) (h:nX R→G:=by (intro iD;(repeat (first | (with_reducible apply CO) | ((with_reducible apply CP);rfl;decide +kernel;(first | exact FD)) | ((with_reducible apply He);rfl;decide +kernel;(intro Nz;(first | exact FD))) | ((with_reducible apply LX aj);rfl;rfl;(exact gW);rfl;rfl;(exact qR);(exact D9);(exact Ea);(exact lI);(refine dQ fun a=>?_;simp only [fK,bu,kQ];omega)) | ((with_reducible apply Ot);rfl;decide +kernel;rfl;rfl;rfl;(intro hg1;(try simp only [hg1,aW,Bool.true_and]);(first | exact LY))) | ((with_reducible apply Ou);rfl;decide +kernel;rfl;rfl;rfl;(intro Nz;intro hg1;(try simp only [hg1,aW,Bool.true_and]);(first | exact LY)))));exact iD.get)):G:=h ⟨k⟩
end
section
attribute [local irreducible] Hy St Ops DH fE iK iE fU DS fD
abbrev Dw (a:AtD × Int):List Value:=[.bool a.1.r,.bool a.1.w,.bool a.1.x,.bool a.1.af,.bool a.1.ng,.int .i64 a.2]
def iJ (a b:AtD):AtD:=⟨a.r && b.r,a.w && b.w,a.x && b.x,a.af && b.af,a.ng || b.ng⟩
theorem Dx {fn:Func} {R:Value→Hp→Prop} {l:Fm} {hp:Hp} {s0 a t b:Nat} {cs:Array Value} {tb:TypeId} {v:Value} (h:R (.tuple #[v,.agg cs]) hp) (hr:fn.results=#[.tmp s0,.cell a t]:=by rfl) (h0:look l s0=some v:=by rfl) (hv:look l a=some (.pointer (some ⟨b,0,none⟩)):=by rfl) (hag:mem Tb.ag t=true:=by rfl) (hm:(⟨b,cs,tb⟩:jY)∈hp:=by (first | (with_reducible apply mh) | (focus ((repeat (first | (with_reducible apply mh) | (with_reducible apply mt) | (with_reducible apply List.mem_append_right)));done)))) (hz:lk Tb.sz t=some cs.size:=by rfl):Fin Tryz.prog fn R .ret l hp:=
 ⟨.inl rfl,[v,.agg cs],by rw [hr];exact ⟨h0,⟨⟨b,cs,tb⟩,hm,hv,.inr ⟨aj.Cb hag,aj.rH hz,rfl⟩⟩,trivial⟩,h⟩
theorem bT.into {w wc:World} {mu:List Nat} {hi rest:Hp} {v:Value} {sz:Nat} {xs:List (List Value)} (h:bT w mu v sz xs) (hG:Good w mu (hi++rest) wc):bT wc (hi.map (·.b)) v sz xs:=
 h.next hG fun b hb=>by obtain ⟨x,hx,rfl⟩:=List.mem_map.1 hb;exact ⟨x,List.mem_append_left _ hx,rfl⟩
instance : Inhabited AtD := ⟨zH⟩
theorem KT (a b:AtD) (sa sb:Int) {w:World} {v:Value} (h:aF w v 6 ([(a,sa),(b,sb)].map Dw)):Fn Tryz.prog 27 [v].toArray w [] (fun u _=>u=.agg (Q4 (iJ a b)).toArray):=by
 obtain ⟨q,cap,rfl,hne,hle⟩:=h.opened
 obtain ⟨b0,o0,rfl⟩:=hne UC
 rw [show ([(a,sa),(b,sb)]:List (AtD × Int)).length=2 from rfl] at h ⊢
 have r0:=h.row (k:=0) (by decide:0<2)
 have r1:=h.row (k:=1) (by decide:1<2)
 refine enter Tryz.func27 ?_
 refine run ?_
 intro R X
 refine eF (σ:=Nat × AtD) (fun z=>[(4,.int .i64 (z.1:Int))]) (fun z=>[⟨R,#[.bool false,.bool false,.bool false,.bool false,.bool false,.int .i64 0],46⟩,⟨X,#[.bool z.2.r,.bool z.2.w,.bool z.2.x,.bool z.2.af,.bool z.2.ng,.int .i64 0],46⟩]) (fun z=>z.1=0∧z.2=⟨true,true,true,true,false⟩∨z.1=1∧z.2=a∨z.1=2∧z.2=iJ a b) (fun z=>2 - z.1) (0,⟨true,true,true,true,false⟩) (.inl ⟨rfl,rfl⟩) ?_
 rintro ⟨k,x⟩ m hm hk
 dsimp only at hm hk ⊢
 rcases hk with ⟨e0,rfl⟩ | ⟨e0,rfl⟩ | ⟨e0,rfl⟩
 ·have hlt:k<2:=by omega
  have hr:w.rangeAt b0 (o0 + k * 6) (Dw (a,sa)):=by rw [e0];exact r0
  refine run ?_
  refine ah _ rfl (fun hc=>?_) (fun hc=>absurd hc UJ)
  refine ig ?_
  intro A
  refine ig ?_
  refine uK 31 [⟨R,#[.bool false,.bool false,.bool false,.bool false,.bool false,.int .i64 0],46⟩,⟨A,#[.bool a.r,.bool a.w,.bool a.x,.bool a.af,.bool a.ng,.int .i64 sa],46⟩] ?_
  refine zO ?_
  refine run ?_
  exact dG (k + 1,⟨true && a.r,true && a.w,true && a.x,true && a.af,false || a.ng⟩) (.inr (.inl ⟨by dsimp only;omega,by simp⟩)) (hm:=by dsimp only;omega) (h2:=by (exact ak))
 ·have hlt:k<2:=by omega
  have hr:w.rangeAt b0 (o0 + k * 6) (Dw (b,sb)):=by rw [e0];exact r1
  refine run ?_
  refine ah _ rfl (fun hc=>?_) (fun hc=>absurd hc UJ)
  refine ig ?_
  intro A
  refine ig ?_
  refine uK 31 [⟨R,#[.bool false,.bool false,.bool false,.bool false,.bool false,.int .i64 0],46⟩,⟨A,#[.bool b.r,.bool b.w,.bool b.x,.bool b.af,.bool b.ng,.int .i64 sb],46⟩] ?_
  refine zO ?_
  refine run ?_
  exact dG (k + 1,⟨x.r && b.r,x.w && b.w,x.x && b.x,x.af && b.af,x.ng || b.ng⟩) (.inr (.inr ⟨by dsimp only;omega,rfl⟩)) (hm:=by dsimp only;omega) (h2:=by (exact ak))
 ·refine run ?_
  refine ah _ rfl (fun hc=>absurd hc UJ) (fun hc=>?_)
  refine run ?_
  exact jh (cs:=#[.bool (iJ a b).r,.bool (iJ a b).w,.bool (iJ a b).x,.bool (iJ a b).af,.bool (iJ a b).ng,.int .i64 0]) rfl
end
section
attribute [local irreducible] Hy St Ops DH fE iK iE fU DS fD lZ
def KU (w0:World) (mu:List Nat) (hb:Hp) (v:Value) (sz:Nat) (xs:List (List Value)):Prop:=∀ hp w,(∀ b∈hb,b∈hp)→Good w0 mu hp w→aF w v sz xs
theorem KU.old {w0:World} {v:Value} {sz:Nat} {xs:List (List Value)} (h:aF w0 v sz xs):KU w0 [] [] v sz xs:=fun hp w _ hG=>(bT.old h).good hG
theorem KU.own {w0:World} {mu:List Nat} {e sz:Nat} {v:Value} {hb:Hp} {xs:List (List Value)} (hA:Own e sz v hb xs) (hl:xs.length≤1000000):KU w0 mu hb v sz xs:=fun hp w hb' hG=>hA.lie (fun b hb=>hG.here b (hb' b hb)) Uz
def Dy (n:Nat) (es:List aX):Bool:=es.all fun e=>decide (e.frame<((n / 8:Nat):Int))
def BF (one two:dX):Bool:=one.may && two.may && two.on
def nU (n:Nat) (es:List aX) (ds:List eH) (one two:dX) (page acc:Int):Bool:=dL n && bZ es ds && BF one two && PtD.bH page 0 4095 && PtD.bH acc 0 2 && Dy n es
theorem IL (r:dX) (w:World):Fn Tryz.prog 25 [.agg (jv r).toArray].toArray w [] (fun u _=>u=.bool r.may):=by
 refine enter Tryz.func25 ?_
 refine run ?_
 intro B
 refine aG ?_
 refine ax (fun wc hG=>lT r.frame wc) ?_
 refine aG ?_
 refine bz (fun _ wc hG=>zD r.tag 15 wc) ?_
 refine aG ?_
 exact fin1 rfl
theorem P8 (one two:dX) (w:World):Fn Tryz.prog 7 [.agg (jv one).toArray,.agg (jv two).toArray].toArray w [] (fun u _=>u=.bool (BF one two)):=by
 refine enter Tryz.func7 ?_
 refine run ?_
 intro B C
 refine aG ?_
 refine ax (fun wc hG=>IL one wc) ?_
 refine aG ?_
 refine bz (fun _ wc hG=>IL two wc) ?_
 refine aG ?_
 exact fin1 rfl
theorem KW {c:gX} {es:List aX} {ds:List eH} (hw:wL c.ws) (h:nU c.ws.length es ds c.one c.two (c.page:Int) c.acc=true):jX c∧gG c.ws.length es ds∧0≤c.acc∧c.acc≤2:=by
 simp only [nU,BF,Bool.and_eq_true] at h
 obtain ⟨⟨⟨⟨⟨h1,h2⟩,⟨h3,h4⟩,h5⟩,h6⟩,h7⟩,h8⟩:=h
 have h6':(0:Int)≤c.page∧(c.page:Int)≤4095:=by simpa [PtD.bH] using h6
 refine ⟨⟨hw,h1,h3,h4,h5,by omega⟩,⟨h2,fun e he=>?_⟩,by simpa [PtD.bH] using h7⟩
 have h9:=List.all_eq_true.1 h8 e he
 have h10:=(jC h2).1 e he
 simp only [aX.may,aX.nums,PtD.bH,Bool.and_eq_true,decide_eq_true_eq] at h10
 simp only [bM,Bool.and_eq_true,decide_eq_true_eq]
 exact ⟨h10.1.1.1.2.1,of_decide_eq_true h9⟩
theorem vz (n cap:Nat) (hn:n<4611686018427387904) (q:Option Addr) (w:World):Fn Tryz.prog 109 [.agg #[.slice q n cap]].toArray w [] (fun u _=>u=.int .i64 ((n / 8:Nat):Int)):=by
 refine enter Tryz.func109 ?_
 refine run ?_
 intro B
 refine run ?_
 refine lU UB (uQ rfl rfl n 8 UB UB UA Uz) ?_
 refine run ?_
 exact fin1 rfl
theorem EK (n cap:Nat) (hn:n<4611686018427387904) (q:Option Addr) (w:World):Fn Tryz.prog 60 [.agg #[.slice q n cap]].toArray w [] (fun u _=>u=.tuple #[.int .i64 (bif dL n then ((n / 8:Nat):Int) else 0),.int .i64 (bif dL n then 0 else 1)]):=by
 refine enter Tryz.func60 ?_
 refine run ?_
 intro B
 refine run ?_
 refine ax (fun wc hG=>qc n cap hn q wc) ?_
 refine run ?_
 refine ah _ rfl (fun hc=>?_) (fun hc=>?_)
 ·have hm:dL n=false:=by cases h:dL n<;>simp [h] at hc ⊢
  refine run ?_
  refine fin2 ?_
  rw [hm];rfl
 ·have hm:dL n=true:=by cases h:dL n<;>simp [h] at hc ⊢
  refine run ?_
  refine ax (fun wc hG=>vz n cap hn q wc) ?_
  refine run ?_
  refine fin2 ?_
  rw [hm];rfl
theorem KX (n cap:Nat) (hn:n<4611686018427387904) (q:Option Addr) (f:Int) (B:Nat) (w:World) (hB:w.cell? ⟨B,0,none⟩=some (.slice q n cap)):Fn Tryz.prog 224 ([]++[Value.int .i64 f]++[Value.pointer (some ⟨B,0,none⟩)]).toArray w [] (fun u _=>u=.bool (!bM n f)):=by
 have hr:w.rangeAt B 0 [.slice q n cap]:=fun j v hj=>by
  cases j with
  | zero=>simp at hj;subst hj;exact hB
  | succ j=>simp at hj
 refine enter Tryz.func224 ?_
 refine aG ?_
 refine bz (fun _ wc hG=>vz n cap hn q wc) ?_
 refine aG ?_
 refine fin1 ?_
 unfold bM
 rw [Bool.not_and]
 congr 1
 rw [← decide_not,← decide_not]
 congr 1<;>(rw [Bool.eq_iff_iff,decide_eq_true_eq,decide_eq_true_eq];omega)
theorem Ov (n cap:Nat) (hn:n<4611686018427387904) (q:Option Addr) (xs:List Int) {w:World} {v:Value} (h:aF w v 1 (xs.map dH)):Fn Tryz.prog 220 [.agg #[.slice q n cap],v].toArray w [] (fun u _=>u=.bool (xs.all (bM n))):=by
 refine enter Tryz.func220 ?_
 refine run ?_
 intro B
 refine run ?_
 refine ax (fun wc hG=>nG (us:=[.pointer (some ⟨B,0,none⟩)]) (fun x=>!bM n x) xs _ (h.good hG) (fun x _ w' ha=>KX n cap hn q x B w' ?_)) ?_
 ·obtain ⟨hp,hg⟩:=ha
  exact hg.cell (by rw [cell_of_block (hG.here _ mh)];rfl) UC
 refine run ?_
 refine fin1 ?_
 rw [← List.not_all_eq_any_not,Bool.not_not]
theorem Ox (n cap:Nat) (hn:n<4611686018427387904) (q:Option Addr) (xs:List Int) {w:World} {v:Value} (h:aF w v 1 (xs.map dH)):Fn Tryz.prog 203 [.agg #[.slice q n cap],v].toArray w [] (fun u _=>u=.int .i64 (bif !dL n then 1 else bif xs.all (bM n) then 0 else 2)):=by
 have h':=h
 obtain ⟨qv,cv,rfl,_,_⟩:=h.opened
 refine enter Tryz.func203 ?_
 refine run ?_
 intro B
 refine run ?_
 refine ax (fun wc hG=>Ir n cap hn q wc) ?_
 refine run ?_
 refine ah _ rfl (fun hc=>?_) (fun hc=>?_)
 ·refine run ?_
  refine fin1 ?_
  rw [hc];rfl
 ·refine run ?_
  refine ax (fun wc hG=>Ov n cap hn q xs ((bT.old h').good hG)) ?_
  refine run ?_
  rw [hc,cond_false]
  refine ah _ rfl (fun hc2=>?_) (fun hc2=>?_)
  ·refine run ?_
   refine fin1 ?_
   rw [show xs.all (bM n)=false by simpa using hc2];rfl
  ·refine run ?_
   refine fin1 ?_
   rw [show xs.all (bM n)=true by simpa using hc2];rfl
theorem aF.Q8 {w:World} {α:Type} {f:α→List Value} {xs:List α} {b o n cap sz i k c':Nat} (h:aF w (.slice (some ⟨b,o,none⟩) n cap) sz (xs.map f)) (hk:i + k≤xs.length):aF w (.slice (some ⟨b,o + i * sz,none⟩) k c') sz (((xs.drop i).take k).map f):=by
 obtain ⟨⟨q,c,e,hne⟩,hle⟩:=h
 injection e with e1 e2 e3
 subst e1 e3
 rw [List.length_map] at hle
 have hl:(((xs.drop i).take k).map f).length=k:=by rw [List.length_map,List.length_take,List.length_drop];omega
 refine ⟨⟨_,_,by rw [hl],fun hx=>?_⟩,by rw [hl];omega⟩
 obtain ⟨b',off,e,hr⟩:=hne (by intro e;rw [List.map_eq_nil_iff] at e;rw [e] at hx;simp at hx)
 injection e with e
 injection e with e1 e2 _
 subst e1 e2
 refine ⟨b,o + i * sz,rfl,fun j cc hj=>?_⟩
 rw [List.map_take,List.map_drop,List.getElem?_take] at hj
 split at hj
 ·rw [List.getElem?_drop] at hj
  have:=hr (i + j) cc hj
  rwa [Nat.add_mul,← Nat.add_assoc] at this
 ·cases hj
theorem P9 (n cap f:Nat) (hf:f * 8 + 8≤n) (hc:n≤cap) (hn:n<1000000) (b o:Nat) (w:World):Fn Tryz.prog 205 [.agg #[.slice (some ⟨b,o,none⟩) n cap],.int .i64 (f:Int)].toArray w [] (fun u _=>u=.slice (some ⟨b,o + f * 8,none⟩) 8 (cap - f * 8)):=by
 refine enter Tryz.func205 ?_
 refine run ?_
 intro B
 refine run ?_
 refine lU UB (wF aj rfl rfl rfl UB Uz Uz Uz Uz (o':=o + f * 8) Uz (m':=8) Uz (c':=cap - f * 8) Uz) ?_
 refine run ?_
 exact fin1 rfl
theorem IM (ws:List Nat) (cap:Nat) (hm:dL ws.length=true) (f:Int) (hf:bM ws.length f=true) (hc:ws.length≤cap) {w:World} {p:Option Addr} (h:aF w (.slice p ws.length cap) 1 (ws.map uV)):Fn Tryz.prog 178 [.agg #[.slice p ws.length cap],.int .i64 f].toArray w [] (fun u hn=>∃ v hv,u=.tuple #[v,.int .i64 0]∧Own 79 1 v hv (((ws.drop (f.toNat * 8)).take 8).map uV)∧aI hv hn):=by
 have Ac:=cO hm
 have hfi:=kW hf
 have h':=h
 obtain ⟨q,c0,e,hne,_⟩:=h.opened
 injection e with e1 _ e3
 subst e1
 obtain ⟨b,o,rfl⟩:=hne (by intro e;rw [e] at Ac;simp at Ac)
 refine enter Tryz.func178 ?_
 refine run ?_
 intro B X
 refine ax (fun wc hG=>Ox ws.length cap Uz _ [f] (dm (xs:=[dH f]) (hG.here ⟨X,#[.int .i64 f],3⟩ mh) U4 UC)) ?_
 rw [hm,show ([f]:List Int).all (bM ws.length)=true by simp [hf]]
 refine ig ?_
 obtain ⟨k,rfl⟩:∃ k:Nat,f=(k:Int):=⟨f.toNat,by omega⟩
 rw [Int.toNat_natCast] at hfi ⊢
 refine ax (fun wc hG=>P9 ws.length cap k Uz hc Uz b o wc) ?_
 refine run ?_
 have hcs:=fun {wc:World} (hG:aF wc (.slice (some ⟨b,o,none⟩) ws.length cap) 1 (ws.map uV))=>aF.Q8 hG (i:=k * 8) (k:=8) (c':=cap - k * 8) Uz
 rw [Nat.mul_one] at hcs
 refine jJ (fun wc hG=>yf _ (((ws.drop (k * 8)).take 8).map uV) (hcs ((bT.old h').good hG)) (fun c hc=>by obtain ⟨x,_,rfl⟩:=List.mem_map.1 hc;exact ⟨rfl,rfl⟩) UJ) ?_
 rintro v hv hO
 refine run ?_
 exact fin2 ⟨v,hv,rfl,hO,by (exact ak)⟩
theorem vC (r w x af ng:Bool) (soft acc:Int) (W:World):Fn Tryz.prog 61 [.agg #[.bool r,.bool w,.bool x,.bool af,.bool ng,.int .i64 soft],.int .i64 acc].toArray W [] (fun u _=>u=.tuple #[.bool (jV r w x acc),.int .i64 (bif PtD.bH acc 0 2 then 0 else 1)]):=by
 have hb:∀ b0 b1 b2:Bool,decide (acc=0)=b0→decide (acc=1)=b1→decide (acc=2)=b2→PtD.bH acc 0 2=(b0 || b1 || b2):=by
  intro b0 b1 b2 h0 h1 h2
  subst h0 h1 h2
  unfold PtD.bH
  rw [Bool.eq_iff_iff]
  simp only [Bool.and_eq_true,Bool.or_eq_true,decide_eq_true_eq]
  omega
 refine enter Tryz.func61 ?_
 refine run ?_
 intro B
 refine ah _ rfl (fun hc=>?_) (fun hc=>?_)
 ·refine run ?_
  refine fin2 ?_
  have:acc=0:=of_decide_eq_true hc
  subst this
  simp [jV,PtD.bH]
 refine run ?_
 refine ah _ rfl (fun hc2=>?_) (fun hc2=>?_)
 ·refine run ?_
  refine fin2 ?_
  have:acc=1:=of_decide_eq_true hc2
  subst this
  simp [jV,PtD.bH]
 refine run ?_
 refine ah _ rfl (fun hc3=>?_) (fun hc3=>?_)
 ·refine run ?_
  refine fin2 ?_
  have:acc=2:=of_decide_eq_true hc3
  subst this
  simp [jV,PtD.bH]
 refine run ?_
 refine fin2 ?_
 rw [hb _ _ _ hc hc2 hc3]
 simp only [jV,hc,hc2,hc3]
 rfl
theorem Dz (r w x af ng:Bool) (soft acc stage level page:Int) (ha:PtD.bH acc 0 2=true) (W:World):Fn Tryz.prog 173 [.agg #[.bool r,.bool w,.bool x,.bool af,.bool ng,.int .i64 soft],.int .i64 acc,.int .i64 stage,.int .i64 level,.int .i64 page].toArray W [] (fun u _=>u=.tuple #[yj (bP r w x af acc stage level page),.int .i64 0]):=by
 refine enter Tryz.func173 ?_
 refine run ?_
 intro B R
 refine run ?_
 refine ax (fun wc hG=>vC r w x af ng soft acc wc) ?_
 rw [ha]
 refine ig ?_
 intro F
 refine ig ?_
 refine ah _ rfl (fun hc=>?_) (fun hc=>?_)
 ·refine run ?_
  refine jo (cs:=#[.int .i64 3,.int .i64 stage,.int .i64 level,.bool false,.int .i64 page]) ?_
  simp only [bP,hc,cond_true]
 refine run ?_
 refine ah _ rfl (fun hc2=>?_) (fun hc2=>?_)
 ·refine run ?_
  refine jo (cs:=#[.int .i64 0,.int .i64 0,.int .i64 0,.bool false,.int .i64 0]) ?_
  simp only [bP,hc,hc2,cond_true,cond_false,Bool.not_true]
  rfl
 refine run ?_
 refine jo (cs:=#[.int .i64 4,.int .i64 stage,.int .i64 level,.bool false,.int .i64 page]) ?_
 simp only [bP,hc,hc2,cond_true,cond_false,Bool.not_false]
theorem KY (a b:AtD) (sa sb:Int) {w:World} {v:Value} (h:aF w v 6 ([(a,sa),(b,sb)].map Dw)):Fn Tryz.prog 171 [v].toArray w [] (fun u _=>u=.agg (Q4 (iJ a b)).toArray):=by
 obtain ⟨q,cap,rfl,hne,hle⟩:=h.opened
 obtain ⟨b0,o0,rfl⟩:=hne UC
 rw [show ([(a,sa),(b,sb)]:List (AtD × Int)).length=2 from rfl] at h ⊢
 have r0:=h.row (k:=0) (by decide:0<2)
 have r1:=h.row (k:=1) (by decide:1<2)
 refine enter Tryz.func171 ?_
 refine run ?_
 intro R X
 refine run ?_
 refine eF (σ:=Nat × AtD) (fun z=>[(9,.int .i64 (z.1:Int))]) (fun z=>[⟨R,#[.bool false,.bool false,.bool false,.bool false,.bool false,.int .i64 0],46⟩,⟨X,#[.bool z.2.r,.bool z.2.w,.bool z.2.x,.bool z.2.af,.bool z.2.ng,.int .i64 0],46⟩]) (fun z=>z.1=0∧z.2=⟨true,true,true,true,false⟩∨z.1=1∧z.2=a∨z.1=2∧z.2=iJ a b) (fun z=>2 - z.1) (0,⟨true,true,true,true,false⟩) (.inl ⟨rfl,rfl⟩) ?_
 rintro ⟨k,x⟩ m hm hk
 dsimp only at hm hk ⊢
 rcases hk with ⟨e0,rfl⟩ | ⟨e0,rfl⟩ | ⟨e0,rfl⟩
 ·have hlt:k<2:=by omega
  have hr:w.rangeAt b0 (o0 + k * 6) (Dw (a,sa)):=by rw [e0];exact r0
  refine run ?_
  refine ah _ rfl (fun hc=>?_) (fun hc=>absurd hc UJ)
  refine ig ?_
  intro A
  refine ig ?_
  refine uK 31 [⟨R,#[.bool false,.bool false,.bool false,.bool false,.bool false,.int .i64 0],46⟩,⟨A,#[.bool a.r,.bool a.w,.bool a.x,.bool a.af,.bool a.ng,.int .i64 sa],46⟩] ?_
  refine zO ?_
  refine run ?_
  exact dG (k + 1,⟨true && a.r,true && a.w,true && a.x,true && a.af,false || a.ng⟩) (.inr (.inl ⟨by dsimp only;omega,by simp⟩)) (hm:=by dsimp only;omega) (h2:=by (exact ak))
 ·have hlt:k<2:=by omega
  have hr:w.rangeAt b0 (o0 + k * 6) (Dw (b,sb)):=by rw [e0];exact r1
  refine run ?_
  refine ah _ rfl (fun hc=>?_) (fun hc=>absurd hc UJ)
  refine ig ?_
  intro A
  refine ig ?_
  refine uK 31 [⟨R,#[.bool false,.bool false,.bool false,.bool false,.bool false,.int .i64 0],46⟩,⟨A,#[.bool b.r,.bool b.w,.bool b.x,.bool b.af,.bool b.ng,.int .i64 sb],46⟩] ?_
  refine zO ?_
  refine run ?_
  exact dG (k + 1,⟨x.r && b.r,x.w && b.w,x.x && b.x,x.af && b.af,x.ng || b.ng⟩) (.inr (.inr ⟨by dsimp only;omega,rfl⟩)) (hm:=by dsimp only;omega) (h2:=by (exact ak))
 ·refine run ?_
  refine ah _ rfl (fun hc=>absurd hc UJ) (fun hc=>?_)
  refine run ?_
  exact jh (cs:=#[.bool (iJ a b).r,.bool (iJ a b).w,.bool (iJ a b).x,.bool (iJ a b).af,.bool (iJ a b).ng,.int .i64 0]) rfl
theorem jk {fn:Func} {R:Value→Hp→Prop} {l:Fm} {hp:Hp} {a t b a2 t2 b2:Nat} {cs cs2:Array Value} {tb tb2:TypeId} (h:R (.tuple #[.agg cs,.agg cs2]) hp) (hr:fn.results=#[.cell a t,.cell a2 t2]:=by rfl) (hv:look l a=some (.pointer (some ⟨b,0,none⟩)):=by rfl) (hw:look l a2=some (.pointer (some ⟨b2,0,none⟩)):=by rfl) (hag:mem Tb.ag t=true:=by rfl) (hm:(⟨b,cs,tb⟩:jY)∈hp:=by (first | (with_reducible apply mh) | (focus ((repeat (first | (with_reducible apply mh) | (with_reducible apply mt) | (with_reducible apply List.mem_append_right)));done)))) (hz:lk Tb.sz t=some cs.size:=by rfl) (Bv:mem Tb.ag t2=true:=by rfl) (hm2:(⟨b2,cs2,tb2⟩:jY)∈hp:=by (first | (with_reducible apply mh) | (focus ((repeat (first | (with_reducible apply mh) | (with_reducible apply mt) | (with_reducible apply List.mem_append_right)));done)))) (hz2:lk Tb.sz t2=some cs2.size:=by rfl):Fin Tryz.prog fn R .ret l hp:=
 ⟨.inl rfl,[.agg cs,.agg cs2],by rw [hr];exact ⟨⟨⟨b,cs,tb⟩,hm,hv,.inr ⟨aj.Cb hag,aj.rH hz,rfl⟩⟩,⟨⟨b2,cs2,tb2⟩,hm2,hw,.inr ⟨aj.Cb Bv,aj.rH hz2,rfl⟩⟩,trivial⟩,h⟩
theorem zQ (ws:List Nat) (hw:wL ws) (cap:Nat) (hm:dL ws.length=true) (hc':ws.length≤cap) {w:World} {p:Option Addr} (h:aF w (.slice p ws.length cap) 1 (ws.map uV)) (stage:Int) (hs:stage=1∨stage=2) (level:Nat) (hl:level<4) (f:Int) (hf:bM ws.length f=true) (page:Nat) (hp:page≤4095):Fn Tryz.prog 120 [.agg #[.slice p ws.length cap],.int .i64 stage,.int .i64 (level:Int),.int .i64 f,.int .i64 (page:Int)].toArray w [] (fun u _=>u=.tuple #[FH (iR ws stage (fF f level page) level),.int .i64 0]):=by
 have Ac:=cO hm
 have hfi:=kW hf
 have h':=h
 obtain ⟨ez,yL⟩:∃ z:Int,z=0:=⟨0,rfl⟩
 have hdi:∀ wc,Fn Tryz.prog 177 [.int .i64 (level:Int),.int .i64 (page:Int)].toArray wc [] (fun u _=>u=.tuple #[.int .i64 (iM level page:Int),.int .i64 ez]):=fun wc=>by rw [yL];exact Ik level hl page hp wc
 refine enter Tryz.func120 ?_
 refine run ?_
 intro B D
 refine run ?_
 refine ax (fun wc hG=>hdi wc) ?_
 refine aG ?_
 refine bz (fun _ wc hG=>qc ws.length cap Uz p wc) ?_
 refine aG ?_
 refine ah _ rfl (fun hc=>absurd hc (by rw [hm,yL];rcases hs with rfl | rfl<;>simp [gv,eX])) (fun hc=>?_)
 refine run ?_
 refine jJ (fun wc hG=>IM ws cap hm f hf hc' ((bT.old h').good hG)) ?_
 rintro u1 hn1 ⟨v,hv,rfl,hO,hle⟩
 refine aZ (hv++[⟨D,#[.int .i64 0,.int .i64 0,.bool false,.bool false,.bool false,.bool false,.bool false,.int .i64 0,.int .i64 0],93⟩,⟨B,#[.slice p ws.length cap],24⟩]) (cnt1 hle) ?_
 obtain ⟨g,cg,cur,rfl,rfl,hrow⟩:=hO.row (n:=8) UJ UA
 have hix:=ry level page
 have TL:nth cur.toList (iM level page)=some (.int .u64 ((ws.getD (fF f level page) 0:Nat):Int)):=by
  have h1:=hrow.cut (i:=iM level page) (c:=uV (ws.getD (fF f level page) 0)) (fun c hc=>by obtain ⟨x,_,rfl⟩:=List.mem_map.1 hc;rfl) (by
   rw [List.getElem?_map,List.getElem?_take,if_pos Uz,List.getElem?_drop,List.getElem?_eq_getElem Uz]
   simp only [Option.map_some,fF]
   rw [List.getD_eq_getElem?_getD,List.getElem?_eq_getElem Uz]
   rfl)
  have h2:=KO h1 (j:=0) rfl
  simpa using h2
 simp only [List.cons_append,List.nil_append]
 refine ig ?_
 have hw64:ws.getD (fF f level page) 0<18446744073709551616:=by
  rw [List.getD_eq_getElem?_getD]
  cases hq:ws[fF f level page]? with
  | none=>simp
  | some x=>exact hw x (List.mem_of_getElem? hq)
 refine ax (fun wc hG=>PY stage hs level hl _ hw64 wc) ?_
 rw [show C9 stage level (ws.getD (fF f level page) 0)=iR ws stage (fF f level page) level from rfl]
 refine run ?_
 exact jo (cs:=Qw (iR ws stage (fF f level page) level)) rfl
theorem vF (stage:Int) (page:Int) (kind level:Int) {w:World} {Wb:Nat} (hc1:w.cell? ⟨Wb,1,none⟩=some (.int .i64 stage)) (hc2:w.cell? ⟨Wb,2,none⟩=some (.int .i64 page)):Fn Tryz.prog 218 [.pointer (some ⟨Wb,0,none⟩),.int .i64 kind,.int .i64 level].toArray w [] (fun u _=>u=yj ⟨kind,stage,level,false,page⟩):=by
 refine enter Tryz.func218 ?_
 refine run ?_
 intro R
 refine run ?_
 refine ja 11 ?_
 refine gp ?_
 refine run ?_
 exact jh (cs:=#[.int .i64 kind,.int .i64 stage,.int .i64 level,.bool false,.int .i64 page]) rfl
theorem IP (n cap:Nat) (hn:n<4611686018427387904) (q:Option Addr) (f:Int) {w:World} {Wb:Nat} (hc0:w.cell? ⟨Wb,0,none⟩=some (.slice q n cap)):Fn Tryz.prog 217 [.pointer (some ⟨Wb,0,none⟩),.int .i64 f].toArray w [] (fun u _=>u=.bool (decide (f<((n / 8:Nat):Int)))):=by
 refine enter Tryz.func217 ?_
 refine run ?_
 refine lU UB (uQ rfl rfl n 8 UB UB UA Uz) ?_
 refine run ?_
 exact fin1 rfl
theorem KZ (n cap:Nat) (hn:n<1000000) (q:Option Addr) (stage:Int) (page level:Nat) (hl:level<4) (hp:page≤4095) (d:DsD) (hmay:d.may stage level=true) (hk2:d.kind=2) {w:World} {Wb:Nat} (hc0:w.cell? ⟨Wb,0,none⟩=some (.slice q n cap)) (hc1:w.cell? ⟨Wb,1,none⟩=some (.int .i64 stage)) (hc2:w.cell? ⟨Wb,2,none⟩=some (.int .i64 (page:Int))):Fn Tryz.prog 219 [.pointer (some ⟨Wb,0,none⟩),FH d,.int .i64 (level:Int)].toArray w [] (fun u _=>u=.tuple #[Iw (mg n stage page level d []).h,yj (mg n stage page level d []).f]):=by
 obtain ⟨hlf,J7⟩:=nJ hmay hk2 hl page
 have hcv:=fP hl
 have hmod:=Nat.mod_lt page (show 0<ay level by omega)
 refine enter Tryz.func219 ?_
 refine run ?_
 intro D H F
 refine run ?_
 refine ax (fun wc hG=>wK level hl wc) ?_
 refine run ?_
 refine lJ ?_
 refine gp ?_
 refine A7 (jM rfl rfl page (ay level) rfl rfl Uz) ?_
 refine gp ?_
 refine run ?_
 have hmu:Wb ∉ ([]:List Nat):=List.not_mem_nil
 refine ax (fun wc hG=>IP n cap Uz q _ (hG.cell hc0 hmu)) ?_
 refine run ?_
 have TM:decide (d.frame + ((page % ay level:Nat):Int)<((n / 8:Nat):Int))=bM n (d.frame + ((page % ay level:Nat):Int)):=by
  rw [bM,show decide (0≤d.frame + ((page % ay level:Nat):Int))=true from decide_eq_true Uz,Bool.true_and]
 rw [mg,show decide (d.kind=0)=false from decide_eq_false Uz,cond_false,← TM]
 refine ah _ rfl (fun hc=>?_) (fun hc=>?_)
 ·rw [show decide (d.frame + ((page % ay level:Nat):Int)<((n / 8:Nat):Int))=false by simpa using hc]
  refine run ?_
  refine ax (fun wc hG=>vF stage page 1 level (hG.cell hc1 hmu) (hG.cell hc2 hmu)) ?_
  refine run ?_
  exact jk (cs:=#[.int .i64 0,.int .i64 0,.bool false,.bool false,.bool false,.bool false,.bool false,.int .i64 0,.int .i64 0]) (cs2:=#[.int .i64 1,.int .i64 stage,.int .i64 level,.bool false,.int .i64 page]) rfl
 ·rw [show decide (d.frame + ((page % ay level:Nat):Int)<((n / 8:Nat):Int))=true by simpa using hc]
  refine run ?_
  exact jk (cs:=#[.int .i64 (d.frame + ((page % ay level:Nat):Int)),.int .i64 0,.bool d.r,.bool d.w,.bool d.x,.bool d.af,.bool d.ng,.int .i64 d.soft,.int .i64 (level:Int)]) (cs2:=#[.int .i64 0,.int .i64 0,.int .i64 0,.bool false,.int .i64 0]) rfl
theorem La (n:Nat) (stage:Int) (page level:Nat) (d:DsD) (rd:List Int):mg n stage page level d rd=⟨(mg n stage page level d []).h,(mg n stage page level d []).f,rd⟩:=by
 unfold mg
 cases decide (d.kind=0)<;>cases bM n (d.frame + ((page % ay level:Nat):Int))<;>rfl
theorem Lc (ws:List Nat) (hw:wL ws) (cap:Nat) (hmm:dL ws.length=true) (hcc:ws.length≤cap) {p:Option Addr} (stage:Int) (hs:stage=1∨stage=2) (frame:Int) (h0:0≤frame) (page:Nat) (hp:page≤4095) {w:World} {Wb:Nat}
  (hm:bT w [Wb] (.slice p ws.length cap) 1 (ws.map uV)) (hN:jb [⟨Wb,#[.slice p ws.length cap,.int .i64 stage,.int .i64 (page:Int),.slice none 0 0],311⟩] w):
  Fn Tryz.prog 202 [.pointer (some ⟨Wb,0,none⟩),.int .i64 frame].toArray w [Wb] (fun u hn=>∃ rv' hr',u=.tuple #[Iw (bK ws stage frame page).h,yj (bK ws stage frame page).f]∧Own 3 1 rv' hr' ((bK ws stage frame page).rd.map dH)∧aI (⟨Wb,#[.slice p ws.length cap,.int .i64 stage,.int .i64 (page:Int),rv'],311⟩::hr') hn):=by
 have hm':=hm
 refine kN _ hN Tryz.func202 ?_
 refine run ?_
 intro H F
 refine run ?_
 refine eF (σ:=Nat × Int × Value × Hp × List Int) (fun z=>[(9,.int .i64 (z.1:Int)),(1,.int .i64 z.2.1)]) (fun z=>⟨F,#[.int .i64 0,.int .i64 0,.int .i64 0,.bool false,.int .i64 0],50⟩::⟨H,#[.int .i64 0,.int .i64 0,.bool false,.bool false,.bool false,.bool false,.bool false,.int .i64 0,.int .i64 0],48⟩::⟨Wb,#[.slice p ws.length cap,.int .i64 stage,.int .i64 (page:Int),z.2.2.1],311⟩::z.2.2.2.1) (fun z=>z.1<4∧0≤z.2.1∧z.2.2.2.2.length=z.1∧Di ws stage page (4 - z.1) z.1 z.2.1 z.2.2.2.2=bK ws stage frame page∧Own 3 1 z.2.2.1 z.2.2.2.1 (z.2.2.2.2.map dH)) (fun z=>4 - z.1) (0,frame,_,[],[]) ⟨Nat.zero_lt_succ _,h0,rfl,rfl,Own.nil _ _⟩ ?_
 rintro ⟨level,f,rv,hr,rd⟩ m hm ⟨hl,hf0,hrd,hwk,hO⟩
 dsimp only at hm hl hf0 hrd hwk hO ⊢
 generalize bK ws stage frame page=X at hwk ⊢
 have Ac:=cO hmm
 refine run ?_
 refine ah _ rfl (fun hc=>?_) (fun hc=>absurd hc UJ)
 refine run ?_
 refine ax (fun wc hG=>IP ws.length cap Uz p _ UL) ?_
 refine run ?_
 rw [show 4 - level=(3 - level) + 1 by omega,Di] at hwk
 have e5:decide (f<((ws.length / 8:Nat):Int))=bM ws.length f:=by
  rw [bM,show decide (0≤f)=true from decide_eq_true hf0,Bool.true_and]
 rw [e5]
 refine ah _ rfl (fun hc=>?_) (fun hc=>?_)
 ·have hh:bM ws.length f=false:=by simpa using hc
  rw [hh,cond_false] at hwk
  rw [← hwk]
  refine run ?_
  refine ax (fun wc hG=>vF stage page 1 level UL UL) ?_
  refine run ?_
  exact jk (cs:=#[.int .i64 0,.int .i64 0,.bool false,.bool false,.bool false,.bool false,.bool false,.int .i64 0,.int .i64 0]) (cs2:=#[.int .i64 1,.int .i64 stage,.int .i64 level,.bool false,.int .i64 page]) ⟨rv,hr,rfl,hO,by (exact ak)⟩
 have hh:bM ws.length f=true:=by simpa using hc
 rw [hh,cond_true] at hwk
 refine run ?_
 intro T
 refine tH (c:=dH f) (⟨T,#[.int .i64 f],3⟩::⟨F,#[.int .i64 0,.int .i64 0,.int .i64 0,.bool false,.int .i64 0],50⟩::⟨H,#[.int .i64 0,.int .i64 0,.bool false,.bool false,.bool false,.bool false,.bool false,.int .i64 0,.int .i64 0],48⟩::[⟨Wb,#[.slice p ws.length cap,.int .i64 stage,.int .i64 (page:Int),rv],311⟩]) hO (fun v' ha' hA'=>?_) UJ (dP (m:=1) mh rfl) (hperm:=by (exact az))
 rw [show rd.map dH++[dH f]=(rd++[f]).map dH by simp] at hA'
 obtain ⟨q4,c4,e4⟩:=hA'.opened
 rw [List.length_map] at e4
 subst e4
 refine aZ (⟨F,#[.int .i64 0,.int .i64 0,.int .i64 0,.bool false,.int .i64 0],50⟩::⟨H,#[.int .i64 0,.int .i64 0,.bool false,.bool false,.bool false,.bool false,.bool false,.int .i64 0,.int .i64 0],48⟩::⟨Wb,#[.slice p ws.length cap,.int .i64 stage,.int .i64 (page:Int),rv],311⟩::ha') ak ?_
 refine run ?_
 refine mY 20 19 [0,1,2,3,4,5,6,7,8,9,10,11,12,13,14,15,16,17] [18] [19] (⟨Wb,#[.slice p ws.length cap,.int .i64 stage,.int .i64 (page:Int),.slice q4 (rd++[f]).length c4],311⟩::⟨F,#[.int .i64 0,.int .i64 0,.int .i64 0,.bool false,.int .i64 0],50⟩::⟨H,#[.int .i64 0,.int .i64 0,.bool false,.bool false,.bool false,.bool false,.bool false,.int .i64 0,.int .i64 0],48⟩::ha') ?_
 refine dV ?_
 refine rq (fun wc hx hG=>zQ ws hw cap hmm hcc (hm'.good hG) stage hs level hl f hh page hp) ?_
 refine dV ?_
 have hmay:=kE ws stage (fF f level page) level
 generalize iR ws stage (fF f level page) level=d at hwk hmay ⊢
 obtain ⟨hkk,hk0,hk1,hk2⟩:=fA hmay
 refine kL ?_
 refine kM ?_
 rintro _ _ ⟨D,rfl,rfl⟩
 simp only [DN,List.cons_append,List.nil_append,List.append_nil]
 refine aN (b:=D) (tb:=93) (cs:=#[.int .i64 0,.int .i64 0,.bool false,.bool false,.bool false,.bool false,.bool false,.int .i64 0,.int .i64 0]) (cs':=Qw d) (hp':=⟨Wb,#[.slice p ws.length cap,.int .i64 stage,.int .i64 (page:Int),.slice q4 (rd++[f]).length c4],311⟩::⟨F,#[.int .i64 0,.int .i64 0,.int .i64 0,.bool false,.int .i64 0],50⟩::⟨H,#[.int .i64 0,.int .i64 0,.bool false,.bool false,.bool false,.bool false,.bool false,.int .i64 0,.int .i64 0],48⟩::ha') ?_ (List.Perm.refl _)
 refine bf ?_
 refine dY ?_
 simp only [Qw]
 refine run ?_
 refine ah _ rfl (fun hc2=>?_) (fun hc2=>?_)
 ·have e0:d.kind=0:=of_decide_eq_true hc2
  rw [show decide (d.kind=1)=false from decide_eq_false Uz,cond_false,mg,hc2,cond_true] at hwk
  rw [← hwk]
  refine run ?_
  refine ax (fun wc hG=>vF stage page 2 level UE UE) ?_
  refine run ?_
  exact jk (cs:=#[.int .i64 0,.int .i64 0,.bool false,.bool false,.bool false,.bool false,.bool false,.int .i64 0,.int .i64 0]) (cs2:=#[.int .i64 2,.int .i64 stage,.int .i64 level,.bool false,.int .i64 page]) ⟨_,ha',rfl,hA',by (exact ak)⟩
 refine run ?_
 refine ah _ rfl (fun hc3=>?_) (fun hc3=>?_)
 ·have e2:d.kind=2:=of_decide_eq_true hc3
  rw [show decide (d.kind=1)=false from decide_eq_false Uz,cond_false,La] at hwk
  rw [← hwk]
  refine run ?_
  refine ax (fun wc hG=>KZ ws.length cap Uz p stage page level hl hp d hmay e2 UE UE UE) ?_
  generalize mg ws.length stage page level d []=Z
  refine run ?_
  exact jk (cs:=#[.int .i64 Z.h.frame,.int .i64 Z.h.mid,.bool Z.h.r,.bool Z.h.w,.bool Z.h.x,.bool Z.h.af,.bool Z.h.ng,.int .i64 Z.h.soft,.int .i64 Z.h.level]) (cs2:=#[.int .i64 Z.f.kind,.int .i64 Z.f.stage,.int .i64 Z.f.level,.bool Z.f.walk,.int .i64 Z.f.page]) ⟨_,ha',rfl,hA',by (exact ak)⟩
 refine run ?_
 have e1:d.kind=1:=by
  have h2:=of_decide_eq_false hc2
  have h3:=of_decide_eq_false hc3
  omega
 obtain ⟨k1,k2,k3,k4⟩:=hk1 e1
 rw [show decide (d.kind=1)=true from decide_eq_true e1,cond_true] at hwk
 refine dG (level + 1,d.frame,.slice q4 (rd++[f]).length c4,ha',rd++[f]) ⟨by dsimp only;omega,k2,by simp [hrd],by rw [← hwk,show 4 - (level + 1)=3 - level by omega],hA'⟩ (hm:=by dsimp only;omega) (h2:=by (exact ak))
theorem yA {fn:Func} {R:Value→Hp→Prop} {l:Fm} {hp:Hp} {a t b a2 t2 b2 s1 s2:Nat} {cs cs2:Array Value} {tb tb2:TypeId} {v1 v2:Value} (h:R (.tuple #[.agg cs,.agg cs2,v1,v2]) hp) (hr:fn.results=#[.cell a t,.cell a2 t2,.tmp s1,.tmp s2]:=by rfl) (hv:look l a=some (.pointer (some ⟨b,0,none⟩)):=by rfl) (hw:look l a2=some (.pointer (some ⟨b2,0,none⟩)):=by rfl) (h1:look l s1=some v1:=by rfl) (h2:look l s2=some v2:=by rfl) (hag:mem Tb.ag t=true:=by rfl) (hm:(⟨b,cs,tb⟩:jY)∈hp:=by (first | (with_reducible apply mh) | (focus ((repeat (first | (with_reducible apply mh) | (with_reducible apply mt) | (with_reducible apply List.mem_append_right)));done)))) (hz:lk Tb.sz t=some cs.size:=by rfl) (Bv:mem Tb.ag t2=true:=by rfl) (hm2:(⟨b2,cs2,tb2⟩:jY)∈hp:=by (first | (with_reducible apply mh) | (focus ((repeat (first | (with_reducible apply mh) | (with_reducible apply mt) | (with_reducible apply List.mem_append_right)));done)))) (hz2:lk Tb.sz t2=some cs2.size:=by rfl):Fin Tryz.prog fn R .ret l hp:=
 ⟨.inl rfl,[.agg cs,.agg cs2,v1,v2],by rw [hr];exact ⟨⟨⟨b,cs,tb⟩,hm,hv,.inr ⟨aj.Cb hag,aj.rH hz,rfl⟩⟩,⟨⟨b2,cs2,tb2⟩,hm2,hw,.inr ⟨aj.Cb Bv,aj.rH hz2,rfl⟩⟩,h1,h2,trivial⟩,h⟩
theorem Ld (ws:List Nat) (hw:wL ws) (cap:Nat) (hmm:dL ws.length=true) (hcc:ws.length≤cap) {p:Option Addr} {w:World} (h:aF w (.slice p ws.length cap) 1 (ws.map uV)) (stage:Int) (hs:stage=1∨stage=2) (frame:Int) (h0:0≤frame) (h1:frame≤4095) (page:Nat) (hp:page≤4095):
  Fn Tryz.prog 172 [.agg #[.slice p ws.length cap],.int .i64 stage,.int .i64 frame,.int .i64 (page:Int)].toArray w [] (fun u hn=>∃ rv' hr',u=.tuple #[Iw (bK ws stage frame page).h,yj (bK ws stage frame page).f,rv',.int .i64 0]∧Own 3 1 rv' hr' ((bK ws stage frame page).rd.map dH)∧aI hr' hn):=by
 have h':=h
 have Ac:=cO hmm
 refine enter Tryz.func172 ?_
 refine run ?_
 intro B H F
 refine aG ?_
 refine ax (fun wc hG=>qc ws.length cap Uz p wc) ?_
 rw [hmm]
 refine aG ?_
 refine ah _ rfl (fun hc=>absurd hc (by rcases hs with rfl | rfl<;>simp<;>omega)) (fun hc=>?_)
 refine run ?_
 intro Wb
 refine run ?_
 refine kR [⟨Wb,#[.slice p ws.length cap,.int .i64 stage,.int .i64 (page:Int),.slice none 0 0],311⟩] [⟨F,#[.int .i64 0,.int .i64 0,.int .i64 0,.bool false,.int .i64 0],50⟩,⟨H,#[.int .i64 0,.int .i64 0,.bool false,.bool false,.bool false,.bool false,.bool false,.int .i64 0,.int .i64 0],48⟩,⟨B,#[.slice p ws.length cap],24⟩] (fun wc hG=>Lc ws hw cap hmm hcc stage hs frame h0 page hp ((bT.old h').into hG) hG.jK) ?_ az
 rintro u1 hn1 ⟨rv,hr,rfl,hO,hle⟩
 generalize bK ws stage frame page=X at hO ⊢
 obtain ⟨q4,c4,e4⟩:=hO.opened
 rw [List.length_map] at e4
 subst e4
 refine aZ (⟨Wb,#[.slice p ws.length cap,.int .i64 stage,.int .i64 (page:Int),.slice q4 X.rd.length c4],311⟩::⟨F,#[.int .i64 0,.int .i64 0,.int .i64 0,.bool false,.int .i64 0],50⟩::⟨H,#[.int .i64 0,.int .i64 0,.bool false,.bool false,.bool false,.bool false,.bool false,.int .i64 0,.int .i64 0],48⟩::hr) (cnt1 hle) ?_
 refine run ?_
 refine eG 8 6 [0,1,2,3,4,5] [6,7] (⟨F,#[.int .i64 X.f.kind,.int .i64 X.f.stage,.int .i64 X.f.level,.bool X.f.walk,.int .i64 X.f.page],50⟩::⟨H,#[.int .i64 X.h.frame,.int .i64 X.h.mid,.bool X.h.r,.bool X.h.w,.bool X.h.x,.bool X.h.af,.bool X.h.ng,.int .i64 X.h.soft,.int .i64 X.h.level],48⟩::⟨Wb,#[.slice p ws.length cap,.int .i64 stage,.int .i64 (page:Int),.slice q4 X.rd.length c4],311⟩::hr) ?_
 refine dV ?_
 refine cSame (b:=H) (tb:=48) (cs:=#[.int .i64 X.h.frame,.int .i64 X.h.mid,.bool X.h.r,.bool X.h.w,.bool X.h.x,.bool X.h.af,.bool X.h.ng,.int .i64 X.h.soft,.int .i64 X.h.level]) ?_
 refine cSame (b:=F) (tb:=50) (cs:=#[.int .i64 X.f.kind,.int .i64 X.f.stage,.int .i64 X.f.level,.bool X.f.walk,.int .i64 X.f.page]) ?_
 refine bf ?_
 refine dY ?_
 refine run ?_
 exact yA (cs:=#[.int .i64 X.h.frame,.int .i64 X.h.mid,.bool X.h.r,.bool X.h.w,.bool X.h.x,.bool X.h.af,.bool X.h.ng,.int .i64 X.h.soft,.int .i64 X.h.level]) (cs2:=#[.int .i64 X.f.kind,.int .i64 X.f.stage,.int .i64 X.f.level,.bool X.f.walk,.int .i64 X.f.page]) ⟨_,hr,rfl,hO,by (exact ak)⟩
theorem IQ (xs:List Int) {w:World} {v:Value} (h:aF w v 1 (xs.map dH)):Fn Tryz.prog 201 [v].toArray w [] (fun u _=>u=.bool (xs.all fun x=>PtD.bH x 0 4095)):=by
 obtain ⟨q,cap,rfl,hne,hle⟩:=h.opened
 refine enter Tryz.func201 ?_
 refine run ?_
 refine eF (σ:=Nat) (fun k=>[(7,.int .i64 (k:Int))]) (fun _=>[]) (fun k=>k≤xs.length∧((xs.take k).all fun x=>PtD.bH x 0 4095)=true) (fun k=>xs.length - k) 0 ⟨by omega,rfl⟩ ?_
 rintro k m hm ⟨hk,hT⟩
 refine run ?_
 refine ah _ rfl (fun hc=>?_) (fun hc=>?_)
 ·have hlt:k<xs.length:=by simp at hc;omega
  obtain ⟨b,o,rfl⟩:=hne UK
  have hr:=dD (h.row hlt)
  rw [Nat.mul_one] at hr
  refine aG ?_
  refine ah _ rfl (fun hc2=>?_) (fun hc2=>?_)
  ·refine run ?_
   refine fin1 ?_
   rw [show (xs.all fun x=>PtD.bH x 0 4095)=false by
    rw [List.all_eq_false]
    exact ⟨_,getD_mem hlt,by simp [PtD.bH] at hc2 ⊢;omega⟩]
  ·refine run ?_
   refine dG (k + 1) ⟨hlt,?_⟩
   rw [Ei hlt,List.all_append,Bool.and_eq_true]
   exact ⟨hT,by simp [PtD.bH] at hc2 ⊢;omega⟩
 ·have:k=xs.length:=by simp at hc;omega
  subst this
  rw [List.take_length] at hT
  refine run ?_
  refine fin1 ?_
  rw [hT]
theorem IU (n cap:Nat) (hn:dL n=true) (p:Option Addr) (acc:Int) (ha:PtD.bH acc 0 2=true) (xs:List Int) (hx:(xs.all fun x=>PtD.bH x 0 4095)=true) {w:World} {v:Value} (h:aF w v 1 (xs.map dH)):Fn Tryz.prog 170 [.agg #[.slice p n cap],.int .i64 acc,v].toArray w [] (fun u _=>u=.bool true):=by
 have h':=h
 obtain ⟨qv,cv,rfl,_,_⟩:=h.opened
 have Ac:=cO hn
 obtain ⟨ez,yL⟩:∃ z:Int,z=0:=⟨0,rfl⟩
 have hpm:∀ wc,Fn Tryz.prog 61 [.agg #[.bool false,.bool false,.bool false,.bool false,.bool false,.int .i64 0],.int .i64 acc].toArray wc [] (fun u _=>u=.tuple #[.bool (jV false false false acc),.int .i64 ez]):=fun wc=>by
  have:=vC false false false false false 0 acc wc
  rw [ha] at this
  rw [yL];exact this
 refine enter Tryz.func170 ?_
 refine run ?_
 intro B
 refine run ?_
 refine ax (fun wc hG=>hpm wc) ?_
 refine aG ?_
 refine bz (fun _ wc hG=>qc n cap Uz p wc) ?_
 refine aG ?_
 refine bz (fun _ wc hG=>IQ xs ((bT.old h').good hG)) ?_
 refine aG ?_
 refine fin1 ?_
 rw [hn,hx,yL]
 rfl
theorem Oy (ws:List Nat) (hw:wL ws) (cap:Nat) (hmm:dL ws.length=true) (hcc:ws.length≤cap) {p:Option Addr} {w:World} (h:aF w (.slice p ws.length cap) 1 (ws.map uV)) (frame tag:Int) (h0:0≤frame) (h1:frame≤4095) (mid:Nat) (hp:mid≤4095) (acc:Int) (ha:PtD.bH acc 0 2=true):
  Fn Tryz.prog 117 [.agg #[.slice p ws.length cap],.agg #[.bool true,.int .i64 frame,.int .i64 tag],.int .i64 (mid:Int),.int .i64 acc].toArray w [] (fun u hn=>∃ rv' hr',u=.tuple #[Iw (aV ws true frame mid acc).h,yj (aV ws true frame mid acc).f,rv',.int .i64 0]∧Own 3 1 rv' hr' ((aV ws true frame mid acc).rd.map dH)∧aI hr' hn):=by
 have h':=h
 have Ac:=cO hmm
 refine enter Tryz.func117 ?_
 refine run ?_
 intro B C H F X
 refine ax (fun wc hG=>IU ws.length cap hmm p acc ha [frame,mid] (by simp only [List.all_cons,List.all_nil,Bool.and_true,Bool.and_eq_true];exact ⟨iO h0 h1,iO Uz Uz⟩) (dm (xs:=[dH frame,dH mid]) (hG.here ⟨X,#[.int .i64 frame,.int .i64 (mid:Int)],3⟩ mh) U4 UC)) ?_
 refine ig ?_
 refine jJ (fun wc hG=>Ld ws hw cap hmm hcc ((bT.old h').good hG) 2 (.inr rfl) frame h0 h1 mid hp) ?_
 rintro u1 hn1 ⟨rv,hr,rfl,hO,hle⟩
 rw [aV,Bool.not_true,cond_false]
 unfold vP kY
 generalize bK ws 2 frame mid=L at hO ⊢
 obtain ⟨q4,c4,e4⟩:=hO.opened
 rw [List.length_map] at e4
 subst e4
 refine aZ (⟨F,#[.int .i64 0,.int .i64 0,.int .i64 0,.bool false,.int .i64 0],50⟩::⟨H,#[.int .i64 0,.int .i64 0,.bool false,.bool false,.bool false,.bool false,.bool false,.int .i64 0,.int .i64 0],48⟩::⟨C,#[.bool true,.int .i64 frame,.int .i64 tag],29⟩::⟨B,#[.slice p ws.length cap],24⟩::hr) (cnt1 hle) ?_
 refine run ?_
 refine fZ (σ:=yh) (fun _=>[]) (fun z=>⟨F,#[.int .i64 z.kind,.int .i64 z.stage,.int .i64 z.level,.bool z.walk,.int .i64 z.page],50⟩::⟨H,#[.int .i64 L.h.frame,.int .i64 L.h.mid,.bool L.h.r,.bool L.h.w,.bool L.h.x,.bool L.h.af,.bool L.h.ng,.int .i64 L.h.soft,.int .i64 L.h.level],48⟩::⟨C,#[.bool true,.int .i64 frame,.int .i64 tag],29⟩::⟨B,#[.slice p ws.length cap],24⟩::hr) (fun z=>z=bif decide (L.f.kind=0) then bP L.h.r L.h.w L.h.x L.h.af acc 2 L.h.level mid else L.f) ?_ ?_
 ·refine ah _ rfl (fun hc=>?_) (fun hc=>?_)
  ·refine run ?_
   refine ax (fun wc hG=>Dz L.h.r L.h.w L.h.x L.h.af L.h.ng L.h.soft acc 2 L.h.level mid ha wc) ?_
   refine run ?_
   exact eY _ (by rw [hc,cond_true])
  ·refine run ?_
   exact eY _ (by rw [hc,cond_false])
 rintro G hG
 rw [← hG]
 clear hG
 refine run ?_
 refine ah _ rfl (fun hc=>?_) (fun hc=>?_)
 ·rw [hc,cond_true]
  refine run ?_
  refine eG 5 3 [0,1,2] [3,4] (⟨F,#[.int .i64 G.kind,.int .i64 G.stage,.int .i64 G.level,.bool G.walk,.int .i64 G.page],50⟩::⟨C,#[.bool true,.int .i64 frame,.int .i64 tag],29⟩::⟨B,#[.slice p ws.length cap],24⟩::hr) ?_
  refine dV ?_
  refine aN (b:=H) (tb:=48) (cs:=#[.int .i64 L.h.frame,.int .i64 L.h.mid,.bool L.h.r,.bool L.h.w,.bool L.h.x,.bool L.h.af,.bool L.h.ng,.int .i64 L.h.soft,.int .i64 L.h.level]) (cs':=#[.int .i64 0,.int .i64 0,.bool false,.bool false,.bool false,.bool false,.bool false,.int .i64 0,.int .i64 0]) (hp':=⟨F,#[.int .i64 G.kind,.int .i64 G.stage,.int .i64 G.level,.bool G.walk,.int .i64 G.page],50⟩::⟨C,#[.bool true,.int .i64 frame,.int .i64 tag],29⟩::⟨B,#[.slice p ws.length cap],24⟩::hr) ?_ az
  refine cSame (b:=F) (tb:=50) (cs:=#[.int .i64 G.kind,.int .i64 G.stage,.int .i64 G.level,.bool G.walk,.int .i64 G.page]) ?_
  refine bf ?_
  refine dY ?_
  refine run ?_
  exact yA (cs:=#[.int .i64 0,.int .i64 0,.bool false,.bool false,.bool false,.bool false,.bool false,.int .i64 0,.int .i64 0]) (cs2:=#[.int .i64 G.kind,.int .i64 G.stage,.int .i64 G.level,.bool G.walk,.int .i64 G.page]) ⟨_,hr,rfl,hO,by (exact ak)⟩
 ·rw [hc,cond_false]
  refine run ?_
  refine eG 5 3 [0,1,2] [3,4] (⟨H,#[.int .i64 L.h.frame,.int .i64 (mid:Int),.bool L.h.r,.bool L.h.w,.bool L.h.x,.bool L.h.af,.bool L.h.ng,.int .i64 L.h.soft,.int .i64 L.h.level],48⟩::⟨F,#[.int .i64 G.kind,.int .i64 G.stage,.int .i64 G.level,.bool G.walk,.int .i64 G.page],50⟩::⟨C,#[.bool true,.int .i64 frame,.int .i64 tag],29⟩::⟨B,#[.slice p ws.length cap],24⟩::hr) ?_
  refine dV ?_
  refine cSame (b:=H) (tb:=48) (cs:=#[.int .i64 L.h.frame,.int .i64 (mid:Int),.bool L.h.r,.bool L.h.w,.bool L.h.x,.bool L.h.af,.bool L.h.ng,.int .i64 L.h.soft,.int .i64 L.h.level]) ?_
  refine cSame (b:=F) (tb:=50) (cs:=#[.int .i64 G.kind,.int .i64 G.stage,.int .i64 G.level,.bool G.walk,.int .i64 G.page]) ?_
  refine bf ?_
  refine dY ?_
  refine run ?_
  exact yA (cs:=#[.int .i64 L.h.frame,.int .i64 (mid:Int),.bool L.h.r,.bool L.h.w,.bool L.h.x,.bool L.h.af,.bool L.h.ng,.int .i64 L.h.soft,.int .i64 L.h.level]) (cs2:=#[.int .i64 G.kind,.int .i64 G.stage,.int .i64 G.level,.bool G.walk,.int .i64 G.page]) ⟨_,hr,rfl,hO,by (exact ak)⟩
def aX.pg (e:aX) (P:Nat):Nat:=bif decide (e.kind=3) then iq (e.level.toNat - 1) P else P
def Oz (K V A:Int) (P:Nat) (e:aX):Bool:=decide (e.kind=K) && decide (e.iF=V) && (e.all || decide (e.jf=A)) && decide (e.page=((e.pg P:Nat):Int))
def vV (K V A:Int) (P:Nat) (acc:Int) (e:aX):Bool:=Oz K V A P e && jV e.r e.w e.x acc
theorem Me (e:aX) (he:e.may=true) (K V A:Int) (P:Nat) (hP:P≤4095) (w:World):Fn Tryz.prog 174 [.agg (cu e).toArray,.int .i64 K,.int .i64 V,.int .i64 A,.int .i64 (P:Int)].toArray w [] (fun u _=>u=.bool (Oz K V A P e)):=by
 refine enter Tryz.func174 ?_
 refine run ?_
 intro B
 refine run ?_
 refine fZ (σ:=Nat) (fun z=>[(4,.int .i64 (z:Int))]) (fun _=>[⟨B,(cu e).toArray,220⟩]) (fun z=>z=e.pg P) ?_ ?_
 ·refine ah _ rfl (fun hc=>?_) (fun hc=>?_)
  ·have hk3:e.kind=3:=of_decide_eq_true hc
   obtain ⟨hl1,hl3⟩:=yx he hk3
   refine run ?_
   have hb:=fun wc=>Dq e.level.toNat Uz Uz P hP wc
   rw [show ((e.level.toNat:Nat):Int)=e.level by omega] at hb
   refine ax (fun wc hG=>hb wc) ?_
   refine run ?_
   exact eY (iq (e.level.toNat - 1) P) (by unfold aX.pg;rw [hc,cond_true])
  ·refine run ?_
   exact eY P (by unfold aX.pg;rw [hc,cond_false])
 rintro z hz
 subst hz
 refine aG ?_
 refine fin1 ?_
 unfold Oz
 rfl
theorem Le (e:aX) (acc:Int) (w:World):Fn Tryz.prog 175 [.agg (cu e).toArray,.int .i64 acc].toArray w [] (fun u _=>u=.bool (jV e.r e.w e.x acc)):=by
 refine enter Tryz.func175 ?_
 refine run ?_
 intro B
 refine ax (fun wc hG=>vC e.r e.w e.x e.af e.ng e.soft acc wc) ?_
 refine run ?_
 exact fin1 rfl
theorem zS {w:World} (es:List aX) (ds:List eH) (v u:Value) (h:aF w v 14 (es.map cu)) (hd:aF w u 4 (ds.map iw)) (hcap:∃ q c,v=.slice q es.length c∧es.length≤c) (hok:bZ es ds=true) (K V A:Int) (P:Nat) (acc:Int) (hV:PtD.bH V 0 15=true) (hA:PtD.bH A 0 15=true) (hP:P≤4095) (ha:PtD.bH acc 0 2=true):
  Fn Tryz.prog 118 [.agg #[v,u],.int .i64 K,.int .i64 V,.int .i64 A,.int .i64 (P:Int),.int .i64 acc].toArray w [] (fun r _=>r=bif decide (0≤dh (vV K V A P acc) es) then .tuple #[.agg (cu (es.getD (dh (vV K V A P acc) es).toNat default)).toArray,.int .i64 0] else .tuple #[.agg (cu default).toArray,.int .i64 3]):=by
 have h':=h
 have hd':=hd
 have hcap':=hcap
 obtain ⟨q,cap,rfl,hne,hle⟩:=h.opened
 obtain ⟨q2,cap2,rfl,hne2,hle2⟩:=hd.opened
 have hem:=jC hok
 obtain ⟨ez,yL⟩:∃ z:Int,z=0:=⟨0,rfl⟩
 have hpm:∀ wc,Fn Tryz.prog 61 [.agg #[.bool false,.bool false,.bool false,.bool false,.bool false,.int .i64 0],.int .i64 acc].toArray wc [] (fun u _=>u=.tuple #[.bool (jV false false false acc),.int .i64 ez]):=fun wc=>by
  have:=vC false false false false false 0 acc wc
  rw [ha] at this
  rw [yL];exact this
 refine enter Tryz.func118 ?_
 refine run ?_
 intro B R
 refine run ?_
 refine ax (fun wc hG=>hpm wc) ?_
 refine run ?_
 refine ax (fun wc hG=>nI es ds _ _ ((bT.old h').good hG) ((bT.old hd').good hG) hcap') ?_
 refine aG ?_
 have hg0:eX (!decide ((bif bZ es ds then (0:Int) else 1)=0) || !decide (ez=0)) false=true:=by rw [hok,yL];rfl
 simp only [hg0,aW]
 refine ve ?_ hg0
 refine aG ?_
 intro Z
 refine bz (fun hg wc hG=>gY 15 [V,A] (dm (xs:=[dH V,dH A]) (hG.here ⟨Z,#[.int .i64 V,.int .i64 A],3⟩ mh) U4 UC)) ?_
 refine aG ?_
 have Qa:([V,A].all fun x=>PtD.bH x 0 15)=true:=by simp only [List.all_cons,List.all_nil,Bool.and_true,hV,hA]
 have hg1:eX (!decide ((bif bZ es ds then (0:Int) else 1)=0) || !decide (ez=0) || ![V,A].all fun x=>PtD.bH x 0 15) false=true:=by rw [hok,yL,Qa];rfl
 simp only [hg1,aW]
 refine ve ?_ hg1
 refine aG ?_
 intro Z2
 refine bz (fun hg wc hG=>gY 4095 [(P:Int)] (dm (xs:=[dH (P:Int)]) (hG.here ⟨Z2,#[.int .i64 (P:Int)],3⟩ mh) U4 UC)) ?_
 refine aG ?_
 have Q9:([(P:Int)].all fun x=>PtD.bH x 0 4095)=true:=by simp only [List.all_cons,List.all_nil,Bool.and_true];exact iO Uz Uz
 refine ah _ rfl (fun hc=>absurd hc (by rw [hok,yL,Qa,Q9];simp)) (fun hc=>?_)
 refine run ?_
 refine eF (σ:=Nat) (fun k=>[(49,.int .i64 (k:Int))]) (fun _=>[⟨R,(cu default).toArray,81⟩]) (fun k=>k≤es.length∧∀ j,j<k→vV K V A P acc (es.getD j default)=false) (fun k=>es.length - k) 0 ⟨by omega,fun j h=>absurd h Uz⟩ ?_
 rintro k m hm ⟨hk,hno⟩
 refine run ?_
 refine ah _ rfl (fun hc=>?_) (fun hc=>?_)
 ·have hlt:k<es.length:=by simp at hc;omega
  obtain ⟨b,o,rfl⟩:=hne UK
  have hr:=h.row hlt
  have OA:=hem.1 _ (getD_mem hlt)
  refine run ?_
  intro E
  refine run ?_
  intro X
  refine run ?_
  refine ax (fun wc hG=>Me (es.getD k default) OA K V A P hP wc) ?_
  refine aG ?_
  refine bz (fun _ wc hG=>Le (es.getD k default) acc wc) ?_
  refine aG ?_
  refine ah _ rfl (fun hc2=>?_) (fun hc2=>?_)
  ·rw [gq (k:=k) hlt hc2 hno]
   rw [show decide (0≤(k:Int))=true from decide_eq_true Uz,cond_true,Int.toNat_natCast]
   refine run ?_
   exact jo (cs:=(cu (es.getD k default)).toArray) rfl
  ·refine run ?_
   refine dG (k + 1) ⟨hlt,fun j hj=>?_⟩
   rcases Nat.lt_or_ge j k with h1 | h1
   ·exact hno j h1
   ·obtain rfl:j=k:=by omega
    exact hc2
 ·have:k=es.length:=by simp at hc;omega
  subst this
  rw [show dh (vV K V A P acc) es=-1 from dS hno]
  refine run ?_
  exact jo (cs:=#[.int .i64 0,.int .i64 0,.int .i64 0,.bool false,.int .i64 0,.int .i64 0,.int .i64 0,.int .i64 0,.bool false,.bool false,.bool false,.bool false,.bool false,.int .i64 0]) rfl
end
section
attribute [local irreducible] Hy St Ops DH fE iK iE fU DS fD lZ
theorem wO {α:Type} [Inhabited α] {p q:α→Bool} {l:List α} (h:∀ x∈l,p x=q x):dh p l=dh q l:=by
 cases ha:l.any p with
 | false=>
  rw [List.any_eq_false] at ha
  rw [dS fun j hj=>by simpa using ha _ (getD_mem hj),dS fun j hj=>by rw [← h _ (getD_mem hj)];simpa using ha _ (getD_mem hj)]
 | true=>
  obtain ⟨x,hx,hp⟩:=List.any_eq_true.1 ha
  obtain ⟨j,hj,rfl⟩:=List.getElem_of_mem hx
  have hjp:p (l.getD j default)=true:=by rw [List.getD_eq_getElem?_getD,List.getElem?_eq_getElem hj];exact hp
  obtain ⟨j0,h0,h2,h3⟩:=kX p l j hjp
  have hj0:j0<l.length:=by omega
  rw [gq (k:=j0) hj0 h2 h3,gq (k:=j0) hj0 (by rw [← h _ (getD_mem hj0)];exact h2) (fun i hi=>by rw [← h _ (getD_mem Uz)];exact h3 i hi)]
theorem EL (V A:Int) (P:Nat) (acc:Int) (e:aX):vV 1 V A P acc e=gU V A P acc e:=by
 unfold vV Oz gU aX.Qx aX.lets aX.pg
 by_cases h:e.kind=1
 ·simp [h,Bool.and_assoc]
 ·simp [h]
theorem Lh (V:Int) (P:Nat) (acc:Int) (e:aX) (he:e.may=true):vV 2 V 0 P acc e=nC V P acc e:=by
 unfold vV Oz nC aX.lets aX.pg
 by_cases h:e.kind=2
 ·have hall:e.all=true:=by
   simp only [aX.may,h,decide_true,show decide ((2:Int)=1)=false from rfl,cond_true,cond_false,Bool.and_eq_true,Bool.not_eq_true'] at he
   exact he.2.1.1.1.2
  simp [h,hall,Bool.and_assoc]
 ·simp [h]
theorem IV (V A:Int) (P:Nat) (e:aX):Oz 3 V A P e=jW V A P e:=by
 unfold Oz jW aX.Qx aX.pg
 by_cases h:e.kind=3
 ·simp [h,Bool.and_assoc]
 ·simp [h]
def yB (es:List aX) (q:aX→Bool) (k:Nat):aX:=bif decide (0≤bW es q k) then es.getD (bW es q k).toNat default else default
theorem wP {V A:Int} {P:Nat} {e:aX} (h:jW V A P e=true):e.kind=3:=by
 simp only [jW,Bool.and_eq_true,decide_eq_true_eq] at h
 exact h.1.1
theorem OB {es:List aX} {q:aX→Bool} {k:Nat} (hm:∀ x∈es,x.may=true) (hq:∀ x,q x=true→x.kind=3) (hk:k≤es.length):(!decide ((yB es q k).level=0))=decide (0≤bW es q k):=by
 unfold yB
 cases hc:decide (0≤bW es q k) with
 | false=>rfl
 | true=>
  rw [cond_true]
  have h0:=of_decide_eq_true hc
  have h1:=vw (es:=es) (q:=q) k h0
  have h2:=(nD (es:=es) (q:=q) k).2
  have h3:=yx (hm _ (getD_mem (l:=es) (k:=(bW es q k).toNat) Uz)) (hq _ h1)
  rw [decide_eq_false Uz];rfl
theorem IW {es:List aX} {q:aX→Bool} {k:Nat} (hm:∀ x∈es,x.may=true) (hq:∀ x,q x=true→x.kind=3) (hk:k<es.length):yB es q (k + 1)=bif q (es.getD k default) && decide ((yB es q k).level<(es.getD k default).level) then es.getD k default else yB es q k:=by
 have hlt:=(nD (es:=es) (q:=q) k).2
 have key:(q (es.getD k default) && (decide (bW es q k<0) || decide ((es.getD (bW es q k).toNat default).level<(es.getD k default).level)))=(q (es.getD k default) && decide ((yB es q k).level<(es.getD k default).level)):=by
  cases hqk:q (es.getD k default) with
  | false=>rfl
  | true=>
   rw [Bool.true_and,Bool.true_and]
   unfold yB
   cases hc:decide (0≤bW es q k) with
   | false=>
    have h0:=of_decide_eq_false hc
    have h3:=yx (hm _ (getD_mem hk)) (hq _ hqk)
    rw [cond_false,decide_eq_true (by omega:bW es q k<0),Bool.true_or]
    exact (decide_eq_true (show (default:aX).level<_ from by show (0:Int)<_;omega)).symm
   | true=>
    have h0:=of_decide_eq_true hc
    rw [cond_true,decide_eq_false (by omega:¬ bW es q k<0),Bool.false_or]
 show (bif decide (0≤bW es q (k + 1)) then es.getD (bW es q (k + 1)).toNat default else default)=_
 rw [bW,key]
 cases hc:(q (es.getD k default) && decide ((yB es q k).level<(es.getD k default).level)) with
 | true=>rw [cond_true,cond_true,decide_eq_true (by omega:(0:Int)≤(k:Int)),cond_true,Int.toNat_natCast]
 | false=>rw [cond_false,cond_false];rfl
def IX (es:List aX) (i:Int):Value:=bif decide (0≤i) then .tuple #[.agg (cu (es.getD i.toNat default)).toArray,.int .i64 0] else .tuple #[.agg (cu default).toArray,.int .i64 3]
theorem kH (es:List aX) (i:Int):IX es i=.tuple #[.agg (cu (bif decide (0≤i) then es.getD i.toNat default else default)).toArray,.int .i64 (bif decide (0≤i) then 0 else 3)]:=by
 unfold IX
 cases decide (0≤i)<;>rfl
section
variable {w : World} {es : List aX} {ds : List eH} {v u : Value}
theorem IY (h:aF w v 14 (es.map cu)) (hd:aF w u 4 (ds.map iw)) (hcap:∃ q c,v=.slice q es.length c∧es.length≤c) (hok:bZ es ds=true) (V A:Int) (P:Nat) (acc:Int) (hV:PtD.bH V 0 15=true) (hA:PtD.bH A 0 15=true) (hP:P≤4095) (ha:PtD.bH acc 0 2=true):
  Fn Tryz.prog 69 [.agg #[v,u],.int .i64 V,.int .i64 A,.int .i64 (P:Int),.int .i64 acc].toArray w [] (fun r _=>r=IX es (dh (gU V A P acc) es)):=by
 have h':=h
 have hd':=hd
 have hcap':=hcap
 obtain ⟨q,cap,rfl,_,_⟩:=h.opened
 obtain ⟨q2,cap2,rfl,_,_⟩:=hd.opened
 have hi:dh (vV 1 V A P acc) es=dh (gU V A P acc) es:=wO fun x hx=>EL V A P acc x
 have hf:∀ {wc:World},aF wc (.slice q es.length cap) 14 (es.map cu)→aF wc (.slice q2 ds.length cap2) 4 (ds.map iw)→Fn Tryz.prog 118 [.agg #[.slice q es.length cap,.slice q2 ds.length cap2],.int .i64 1,.int .i64 V,.int .i64 A,.int .i64 (P:Int),.int .i64 acc].toArray wc [] (fun r _=>r=.tuple #[.agg (cu (bif decide (0≤dh (gU V A P acc) es) then es.getD (dh (gU V A P acc) es).toNat default else default)).toArray,.int .i64 (bif decide (0≤dh (gU V A P acc) es) then 0 else 3)]):=fun ha1 hb1=>by
  have:=zS es ds _ _ ha1 hb1 hcap' hok 1 V A P acc hV hA hP ha
  rw [hi] at this
  rw [← kH]
  exact this
 rw [kH]
 generalize (bif decide (0≤dh (gU V A P acc) es) then es.getD (dh (gU V A P acc) es).toNat default else default)=E at hf ⊢
 generalize (bif decide (0≤dh (gU V A P acc) es) then (0:Int) else 3)=z at hf ⊢
 refine enter Tryz.func69 ?_
 refine run ?_
 intro B R
 refine run ?_
 refine ax (fun wc hG=>hf ((bT.old h').good hG) ((bT.old hd').good hG)) ?_
 refine run ?_
 exact jo (cs:=(cu E).toArray) rfl
theorem OC (h:aF w v 14 (es.map cu)) (hd:aF w u 4 (ds.map iw)) (hcap:∃ q c,v=.slice q es.length c∧es.length≤c) (hok:bZ es ds=true) (V:Int) (P:Nat) (acc:Int) (hV:PtD.bH V 0 15=true) (hP:P≤4095) (ha:PtD.bH acc 0 2=true):
  Fn Tryz.prog 116 [.agg #[v,u],.int .i64 V,.int .i64 (P:Int),.int .i64 acc].toArray w [] (fun r _=>r=IX es (dh (nC V P acc) es)):=by
 have h':=h
 have hd':=hd
 have hcap':=hcap
 obtain ⟨q,cap,rfl,_,_⟩:=h.opened
 obtain ⟨q2,cap2,rfl,_,_⟩:=hd.opened
 have hi:dh (vV 2 V 0 P acc) es=dh (nC V P acc) es:=wO fun x hx=>Lh V P acc x ((jC hok).1 x hx)
 have hf:∀ {wc:World},aF wc (.slice q es.length cap) 14 (es.map cu)→aF wc (.slice q2 ds.length cap2) 4 (ds.map iw)→Fn Tryz.prog 118 [.agg #[.slice q es.length cap,.slice q2 ds.length cap2],.int .i64 2,.int .i64 V,.int .i64 0,.int .i64 (P:Int),.int .i64 acc].toArray wc [] (fun r _=>r=.tuple #[.agg (cu (bif decide (0≤dh (nC V P acc) es) then es.getD (dh (nC V P acc) es).toNat default else default)).toArray,.int .i64 (bif decide (0≤dh (nC V P acc) es) then 0 else 3)]):=fun ha1 hb1=>by
  have:=zS es ds _ _ ha1 hb1 hcap' hok 2 V 0 P acc hV rfl hP ha
  rw [hi] at this
  rw [← kH]
  exact this
 rw [kH]
 generalize (bif decide (0≤dh (nC V P acc) es) then es.getD (dh (nC V P acc) es).toNat default else default)=E at hf ⊢
 generalize (bif decide (0≤dh (nC V P acc) es) then (0:Int) else 3)=z at hf ⊢
 refine enter Tryz.func116 ?_
 refine run ?_
 intro B R
 refine run ?_
 refine ax (fun wc hG=>hf ((bT.old h').good hG) ((bT.old hd').good hG)) ?_
 refine run ?_
 exact jo (cs:=(cu E).toArray) rfl
theorem Lj (h:aF w v 14 (es.map cu)) (hd:aF w u 4 (ds.map iw)) (hcap:∃ q c,v=.slice q es.length c∧es.length≤c) (hok:bZ es ds=true) (V A:Int) (P:Nat) (hV:PtD.bH V 0 15=true) (hA:PtD.bH A 0 15=true) (hP:P≤4095):
  Fn Tryz.prog 176 [.agg #[v,u],.int .i64 V,.int .i64 A,.int .i64 (P:Int)].toArray w [] (fun r _=>r=IX es (bW es (jW V A P) es.length)):=by
 have h':=h
 have hd':=hd
 have hcap':=hcap
 obtain ⟨q,cap,rfl,hne,hle⟩:=h.opened
 obtain ⟨q2,cap2,rfl,_,_⟩:=hd.opened
 have hem:=jC hok
 obtain ⟨ez,yL⟩:∃ z:Int,z=0:=⟨0,rfl⟩
 have hck:∀ {wc:World},aF wc (.slice q es.length cap) 14 (es.map cu)→aF wc (.slice q2 ds.length cap2) 4 (ds.map iw)→Fn Tryz.prog 62 [.agg #[.slice q es.length cap,.slice q2 ds.length cap2]].toArray wc [] (fun r _=>r=.int .i64 ez):=fun ha1 hb1=>by
  have:=nI es ds _ _ ha1 hb1 hcap'
  rw [hok] at this
  rw [yL];exact this
 refine enter Tryz.func176 ?_
 refine run ?_
 intro B R
 refine run ?_
 refine ax (fun wc hG=>hck ((bT.old h').good hG) ((bT.old hd').good hG)) ?_
 refine aG ?_
 have hg0:eX (!decide (ez=0)) false=true:=by rw [yL];rfl
 simp only [hg0,aW]
 refine ve ?_ hg0
 refine aG ?_
 intro Z
 refine bz (fun hg wc hG=>gY 15 [V,A] (dm (xs:=[dH V,dH A]) (hG.here ⟨Z,#[.int .i64 V,.int .i64 A],3⟩ mh) U4 UC)) ?_
 refine aG ?_
 have Qa:([V,A].all fun x=>PtD.bH x 0 15)=true:=by simp only [List.all_cons,List.all_nil,Bool.and_true,hV,hA]
 have hg1:eX (!decide (ez=0) || ![V,A].all fun x=>PtD.bH x 0 15) false=true:=by rw [yL,Qa];rfl
 simp only [hg1,aW]
 refine ve ?_ hg1
 refine aG ?_
 intro Z2
 refine bz (fun hg wc hG=>gY 4095 [(P:Int)] (dm (xs:=[dH (P:Int)]) (hG.here ⟨Z2,#[.int .i64 (P:Int)],3⟩ mh) U4 UC)) ?_
 refine aG ?_
 have Q9:([(P:Int)].all fun x=>PtD.bH x 0 4095)=true:=by simp only [List.all_cons,List.all_nil,Bool.and_true];exact iO Uz Uz
 refine ah _ rfl (fun hc=>absurd hc (by rw [yL,Qa,Q9];simp)) (fun hc=>?_)
 refine run ?_
 intro T
 refine run ?_
 refine eF (σ:=Nat × aX) (fun z=>[(33,.int .i64 (z.1:Int))]) (fun z=>[⟨T,#[.int .i64 z.2.kind,.int .i64 z.2.iF,.int .i64 z.2.jf,.bool z.2.all,.int .i64 z.2.page,.int .i64 z.2.level,.int .i64 z.2.frame,.int .i64 z.2.mid,.bool z.2.r,.bool z.2.w,.bool z.2.x,.bool z.2.af,.bool z.2.ng,.int .i64 z.2.soft],81⟩,⟨R,#[.int .i64 0,.int .i64 0,.int .i64 0,.bool false,.int .i64 0,.int .i64 0,.int .i64 0,.int .i64 0,.bool false,.bool false,.bool false,.bool false,.bool false,.int .i64 0],81⟩]) (fun z=>z.1≤es.length∧z.2=yB es (jW V A P) z.1) (fun z=>es.length - z.1) (0,default) ⟨Nat.zero_le _,rfl⟩ ?_
 rintro ⟨k,bst⟩ m hm ⟨hk,hB⟩
 dsimp only at hm hk hB ⊢
 refine run ?_
 refine ah _ rfl (fun hc=>?_) (fun hc=>?_)
 ·have hlt:k<es.length:=by simp at hc;omega
  obtain ⟨b,o,rfl⟩:=hne UK
  have hr:=h.row hlt
  have OA:=hem.1 _ (getD_mem hlt)
  have hstep:=IW (q:=jW V A P) (es:=es) (k:=k) (fun x hx=>hem.1 x hx) (fun x hx=>wP hx) hlt
  rw [← hB] at hstep
  refine run ?_
  intro E
  refine aG ?_
  refine ax (fun wc hG=>Me (es.getD k default) OA 3 V A P hP wc) ?_
  rw [IV]
  refine aG ?_
  refine ah _ rfl (fun hc2=>?_) (fun hc2=>?_)
  ·rw [hc2,cond_true] at hstep
   refine run ?_
   exact dG (k + 1,es.getD k default) ⟨hlt,hstep.symm⟩ (hm:=by dsimp only;omega) (h2:=by (exact ak))
  ·rw [hc2,cond_false] at hstep
   refine run ?_
   exact dG (k + 1,bst) ⟨hlt,hstep.symm⟩ (hm:=by dsimp only;omega) (h2:=by (exact ak))
 ·have:k=es.length:=by simp at hc;omega
  subst this
  rw [kH]
  have hbl:=nD (es:=es) (q:=jW V A P) es.length
  have hlv:=OB (q:=jW V A P) (es:=es) (k:=es.length) (fun x hx=>hem.1 x hx) (fun x hx=>wP hx) (Nat.le_refl _)
  rw [← hB] at hlv
  rw [show (bif decide (0≤bW es (jW V A P) es.length) then es.getD (bW es (jW V A P) es.length).toNat default else default)=bst from hB.symm]
  refine run ?_
  refine ah _ rfl (fun hc2=>?_) (fun hc2=>?_)
  ·rw [show decide (0≤bW es (jW V A P) es.length)=false by rw [← hlv];simpa using hc2]
   refine run ?_
   exact jo (cs:=(cu bst).toArray) rfl
  ·rw [show decide (0≤bW es (jW V A P) es.length)=true by rw [← hlv];simpa using hc2]
   refine run ?_
   exact jo (cs:=(cu bst).toArray) rfl
end
end
section
attribute [local irreducible] Hy St Ops DH fE iK iE fU DS fD lZ
section
variable {w : World} {es : List aX} {ds : List eH} {v u : Value}
theorem Ll (h:aF w v 14 (es.map cu)) (hd:aF w u 4 (ds.map iw)) (hcap:∃ q c,v=.slice q es.length c∧es.length≤c) (hok:bZ es ds=true) (e:aX) (he:e.may=true):
  Fn Tryz.prog 123 [.agg #[v,u],.agg (cu e).toArray].toArray w [] (fun r hn=>∃ v1 h1 v2 h2,r=.tuple #[.agg #[v1,v2],.int .i64 0]∧Own 81 14 v1 h1 ((iI es e).map cu)∧Own 109 4 v2 h2 (ds.map iw)∧aI (h1++h2) hn):=by
 have h':=h
 have hd':=hd
 have hcap':=hcap
 obtain ⟨q,cap,rfl,hne,hle⟩:=h.opened
 obtain ⟨q2,cap2,rfl,_,_⟩:=hd.opened
 have hem:=jC hok
 obtain ⟨ez,yL⟩:∃ z:Int,z=0:=⟨0,rfl⟩
 have hck:∀ {wc:World},aF wc (.slice q es.length cap) 14 (es.map cu)→aF wc (.slice q2 ds.length cap2) 4 (ds.map iw)→Fn Tryz.prog 62 [.agg #[.slice q es.length cap,.slice q2 ds.length cap2]].toArray wc [] (fun r _=>r=.int .i64 ez):=fun ha1 hb1=>by
  have:=nI es ds _ _ ha1 hb1 hcap'
  rw [hok] at this
  rw [yL];exact this
 refine enter Tryz.func123 ?_
 refine run ?_
 intro B C R
 refine run ?_
 refine ax (fun wc hG=>hck ((bT.old h').good hG) ((bT.old hd').good hG)) ?_
 refine aG ?_
 refine bz (fun hg wc hG=>Dt e wc) ?_
 refine aG ?_
 refine ah _ rfl (fun hc=>absurd hc (by rw [yL,he];simp)) (fun hc=>?_)
 refine run ?_
 refine jJ (fun wc hG=>rF es ds _ _ ((bT.old h').good hG) ((bT.old hd').good hG) Uz Uz) ?_
 rintro u1 hn1 ⟨v1,h1,v2,h2,rfl,vU,hO2,hle1⟩
 obtain ⟨q3,c3,e3⟩:=vU.opened
 obtain ⟨q4,c4,e4⟩:=hO2.opened
 rw [List.length_map] at e3 e4
 subst e3 e4
 refine aZ (⟨R,#[.slice none 0 0,.slice none 0 0],35⟩::⟨C,(cu e).toArray,81⟩::(h1++h2)) (cnt1 hle1) ?_
 refine run ?_
 intro X
 refine aG ?_
 refine bz (fun _ wc hG=>qp e es _ (vU.lie (fun b hb=>hG.here b UQ) UI)) ?_
 refine aG ?_
 have hcc:decide ((es.length:Int)<8)=decide (es.length<8):=by
  rw [Bool.eq_iff_iff,decide_eq_true_eq,decide_eq_true_eq];omega
 refine ah _ rfl (fun hc2=>?_) (fun hc2=>?_)
 ·have hfl:iI es e=es++[e]:=by
   unfold iI
   rw [show (!(es.any fun t=>decide (t=e)) && decide (es.length<8))=true by
    rw [Bool.and_comm,← hcc];exact hc2]
   rfl
  rw [hfl]
  refine run ?_
  intro T
  refine run ?_
  refine tH (c:=cu e) (⟨T,#[.int .i64 e.kind,.int .i64 e.iF,.int .i64 e.jf,.bool e.all,.int .i64 e.page,.int .i64 e.level,.int .i64 e.frame,.int .i64 e.mid,.bool e.r,.bool e.w,.bool e.x,.bool e.af,.bool e.ng,.int .i64 e.soft],81⟩::⟨X,#[.slice q3 es.length c3,.slice q4 ds.length c4],35⟩::⟨R,#[.slice none 0 0,.slice none 0 0],35⟩::⟨C,(cu e).toArray,81⟩::h2) vU (fun v' ha' hA'=>?_) UJ (dP (m:=14) mh rfl) (hperm:=by (exact az))
  rw [show es.map cu++[cu e]=(es++[e]).map cu by simp] at hA'
  obtain ⟨q5,c5,e5⟩:=hA'.opened
  rw [List.length_map] at e5
  subst e5
  refine aZ (⟨X,#[.slice q3 es.length c3,.slice q4 ds.length c4],35⟩::⟨R,#[.slice none 0 0,.slice none 0 0],35⟩::(ha'++h2)) ak ?_
  refine run ?_
  exact jo (cs:=#[.slice q5 (es++[e]).length c5,.slice q4 ds.length c4]) ⟨_,ha',_,h2,rfl,hA',hO2,by (exact ak)⟩
 ·have hfl:iI es e=es:=by
   unfold iI
   rw [show (!(es.any fun t=>decide (t=e)) && decide (es.length<8))=false by
    rw [Bool.and_comm,← hcc];exact hc2]
   rfl
  rw [hfl]
  refine run ?_
  exact jo (cs:=#[.slice q3 es.length c3,.slice q4 ds.length c4]) ⟨_,h1,_,h2,rfl,vU,hO2,by (exact ak)⟩
end
end
section
section
variable {P : Program} {T : Tab} {n : Nat} {w0 : World} {mu : List Nat} {l : Fm} {hp : Hp} {dd : Option Tmp} {ty : TypeId} {pos : String} {af : Array Edge} {gg : Option (Nat × Bool)} {Q : Exit → Fm → Hp → Prop} {all : Array Oper} {rest : List Oper}
theorem IZ (ok:aJ P T) {t e sz b o m c:Nat} {cs:Array Value} {tb:TypeId} {x:Operand} {z:Value} {hp':Hp} (hx:ev l x=some (.slice (some ⟨b,o,none⟩) m c)) (ht:lk T.sl t=some (e,sz)) (hz:lk T.zs e=some z) (hzs:z.cells.size=sz) (hz1:z.cells.toList.all (·.oneCell')=true) (h0:0<sz) (hm:0<m)
  (hperm:(⟨b,cs,tb⟩::hp').Perm hp) (hfit:o + m * sz≤cs.size)
  (h:∀ zs:List Value,zs.length=m * sz→Ops P n w0 mu all rest l (⟨b,putAt cs o zs,tb⟩::hp') Q):Ops P n w0 mu all (⟨none,.call { callee:=.builtin .clear,args:=#[x],argTypes:=#[t] },ty,pos,af,none⟩::rest) l hp Q:=by
 intro ac w hk hG
 obtain ⟨hu,hsz⟩:=ok.vX ht
 have hG':=hG.perm hperm
 have hb:=hG'.here _ (List.mem_cons_self ..)
 obtain ⟨zs,hrep⟩:∃ zs,zs=(Builtin.zeroCells z.cells m).toList:=⟨_,rfl⟩
 have hlen:zs.length=m * sz:=by rw [hrep,Array.length_toList,size_zeroCells,hzs,Nat.mul_comm]
 have hall:∀ u∈zs,u.oneCell'=true:=fun u hu=>by
  rw [hrep] at hu
  simp only [Builtin.zeroCells,Array.mem_toList_iff,Array.mem_map,Array.mem_range] at hu
  obtain ⟨i,hi,rfl⟩:=hu
  have hlt:i % z.cells.size<z.cells.size:=Nat.mod_lt _ Uz
  have h2:=(List.all_eq_true.1 hz1) (z.cells[i % z.cells.size]) UC
  simpa [hlt] using h2
 have hst:=run_storeCells_cells (P:=P) b o zs 0 w
  (fun j hj=>by rw [hlen] at hj;rw [cell_of_block hb];simp [show o + j<cs.size by omega])
  (fun j _=>gI hb) hall
 simp only [Nat.add_zero] at hst
 refine wpList_plain rfl fun K hK=>?_
 unfold Oper.wp execOp
 have hr:(Builtin.clear_ #[t] ty #[.slice (some ⟨b,o,none⟩) m c]).run P w=.ok (.tuple #[]) (w.setCells b o zs):=by
  obtain ⟨m',rfl⟩:∃ m',m=m' + 1:=⟨m - 1,by omega⟩
  simp [Builtin.clear_,run_underlying hu,oZ (ok.Jo hz) w,← hrep,hst]
 simp only [resolve,invoke,builtin,Sem.run_bind,Sem.run_pure,Result.andThen_ok,List.map_toArray,List.map_cons,List.map_nil,hk.ev hx,hr]
 exact hK _ _ (h zs hlen _ _ hk (Good.sets (w:=w) _ cs o w hG'))
end
theorem Row.Lm {g cap n i sz:Nat} {cur:Array Value} {xs:List (List Value)} (h:Row g cap cur sz n xs.flatten) (hall:∀ c∈xs,c.length=sz) (hi:i≤n) (hn:xs.length=n) {zs:List Value} (hz:i * sz + zs.length≤cur.size):Row g cap (putAt cur (i * sz) zs) sz i (xs.take i).flatten:=by
 have hle:i * sz≤n * sz:=Nat.mul_le_mul_right _ hi
 refine ⟨by rw [bD (xs.take i) (fun c hc=>hall c (List.mem_of_mem_take hc)),List.length_take,Nat.min_eq_left Uz],Nat.le_trans hi h.le,h.max,by rw [uM];exact h.size,?_⟩
 have hl:(cur.toList.take (i * sz)).length=i * sz:=by
  rw [List.length_take,Nat.min_eq_left];simp;omega
 rw [uN _ _ _ hz,List.append_assoc,List.take_left' hl]
 have h1:=congrArg (List.take (i * sz)) h.take
 rw [List.take_take,Nat.min_eq_left hle] at h1
 rw [h1]
 conv=>lhs;rw [← List.take_append_drop i xs]
 rw [List.flatten_append,List.take_left']
 rw [bD (xs.take i) (fun c hc=>hall c (List.mem_of_mem_take hc)),List.length_take,Nat.min_eq_left Uz]
attribute [local irreducible] Hy St Ops DH fE iK iE fU DS fD
end
section
section
variable {P : Program} {T : Tab} {n : Nat} {w0 : World} {mu : List Nat} {l : Fm} {hp : Hp} {ty : TypeId} {pos : String} {af : Array Edge} {Q : Exit → Fm → Hp → Prop} {all : Array Oper} {rest : List Oper}
theorem BG (ok:aJ P T) {dd:Option Tmp} {gg:Option (Nat × Bool)} {t e sz m cap:Nat} {p:Option Addr} {kl kh km:IntKind} {x lo hi mx:Operand} {i j k:Int} (hx:ev l x=some (.slice p m cap)) (hlo:ev l lo=some (.int kl i)) (hhi:ev l hi=some (.int kh j)) (hmx:ev l mx=some (.int km k)) (ht:lk T.sl t=some (e,sz))
  (h0:0≤i) (h1:i≤j) (h2:j≤k) (h3:k≤cap):
  Hy P n w0 mu l hp ⟨dd,.slice t x (some lo) (some hi) (some mx),ty,pos,af,gg⟩ (sliced p i.toNat j.toNat k.toNat sz):=by
 obtain ⟨hu,hsz⟩:=ok.vX ht
 refine aT fun a w hk _=>?_
 have he:P.elem t=e:=by simp [Program.elem,hu]
 have hs:=run_sizeOf hsz w
 simp only [execOp,Option.map_some,Option.map_none,hk.ev hx,hk.ev hlo,hk.ev hhi,hk.ev hmx]
 simp only [Sem.run_bind]
 rw [run_sliceAt_slice (w:=w) t _ _ _ _ (kz hu),run_slice_lhm (w:=w) t _ m cap (kz hu) kl kh km i j k h0 h1 h2 h3,he,hs]
 simp
theorem BH (ok:aJ P T) {t d e sz iP k m c a o g cap:Nat} {cur:Array Value} {x y:Operand} {z:Value} {xs news:List Value} {hp':Hp} (hd:Nat.blt d n=true) (hx:ev l x=some (.slice (some ⟨g,0,none⟩) k cap)) (hy:ev l y=some (.slice (some ⟨a,o,none⟩) m c)) (ht:lk T.sl t=some (e,sz))
  (hz:lk T.zs e=some z) (hzs:z.cells.size=sz) (hb:lk T.eb e=some iP) (hperm:(⟨g,cur,e⟩::hp').Perm hp) (hown:Row g cap cur sz k xs) (hl:news.length=m * sz) (hnews:jH w0 mu hp a o news) (h1:news.all (·.oneCell')=true) (hroom:k + m≤cap)
  (h:∀ cur',Row g cap cur' sz (k + m) (xs++news)→Ops P n w0 mu all rest ((d,.slice (some ⟨g,0,none⟩) (k + m) cap)::l) (⟨g,cur',e⟩::hp') Q):Ops P n w0 mu all (⟨some d,.call { callee:=.builtin .append,args:=#[x,y],argTypes:=#[t,t] },ty,pos,af,none⟩::rest) l hp Q:=by
 intro ac w hk hG
 have hput:∀ v,Knows n ((d,v)::l) (ac.put (some d) v):=fun v=>Knows.put (d:=some d) hk (fun t ht=>by cases ht;simpa using hd) v
 obtain ⟨hu,hsz⟩:=ok.vX ht
 have hbb:=List.all_eq_true.1 ok.eb _ (gB hb)
 simp only [beq_iff_eq] at hbb
 obtain ⟨i,hi,hiz,his,hib⟩:=tq hsz hbb (ok.Jo hz)
 subst his hib
 have hG':=hG.perm hperm
 have hg:=hG'.here _ (List.mem_cons_self ..)
 have hn:∀ j u,news[j]?=some u→w.cell? ((⟨a,o,none⟩:Addr).add j)=some u:=fun j u hj=>by rw [Addr.add_mid];exact hnews w hG j u hj
 refine wpList_plain rfl fun K hK=>?_
 have hfit:k * i.size + news.length≤cur.size:=by rw [hl,hown.size,← Nat.add_mul];exact Nat.mul_le_mul_right _ hroom
 have hr:=run_append_room (P:=P) w t ty e i hu hi g k cap cur hg ⟨a,o,none⟩ m c news hl hn (fun u hu=>List.all_eq_true.1 h1 u hu) hroom hfit
 unfold Oper.wp execOp
 simp only [resolve,invoke,builtin,Sem.run_bind,Sem.run_pure,Result.andThen_ok,List.map_toArray,List.map_cons,List.map_nil,hk.ev hx,hk.ev hy,hr]
 refine hK _ _ (h _ ⟨?_,hroom,hown.max,?_,?_⟩ _ _ (hput _) (hG'.row _))
 ·rw [List.length_append,hown.len,hl,Nat.add_mul]
 ·have:=hown.size
  simp only [List.size_toArray,List.length_append,List.length_take,List.length_drop,Array.length_toList]
  omega
 ·rw [hown.take,show (k + m) * i.size=(xs++news).length by rw [List.length_append,hown.len,hl,Nat.add_mul]]
  exact List.take_left
end
attribute [local irreducible] Hy St Ops DH fE iK iE fU DS fD lZ
theorem Row.pre {g cap n i sz:Nat} {cur:Array Value} {xs:List (List Value)} (h:Row g cap cur sz n xs.flatten) (hall:∀ c∈xs,c.length=sz) (hi:i≤n) (hn:xs.length=n):Row g cap cur sz i (xs.take i).flatten:=by
 have hle:i * sz≤n * sz:=Nat.mul_le_mul_right _ hi
 have hf:(xs.take i).flatten.length=i * sz:=by rw [bD (xs.take i) (fun c hc=>hall c (List.mem_of_mem_take hc)),List.length_take,Nat.min_eq_left Uz]
 refine ⟨hf,Nat.le_trans hi h.le,h.max,h.size,?_⟩
 have h1:=congrArg (List.take (i * sz)) h.take
 rw [List.take_take,Nat.min_eq_left hle] at h1
 rw [h1]
 conv=>lhs;rw [← List.take_append_drop i xs]
 rw [List.flatten_append,List.take_left' hf]
theorem Row.post {g cap n i sz:Nat} {cur:Array Value} {xs:List (List Value)} (h:Row g cap cur sz n xs.flatten) (hall:∀ c∈xs,c.length=sz) (hi:i≤n) (hn:xs.length=n):(cur.toList.drop (i * sz)).take ((n - i) * sz)=(xs.drop i).flatten:=by
 have hf:(xs.take i).flatten.length=i * sz:=by rw [bD (xs.take i) (fun c hc=>hall c (List.mem_of_mem_take hc)),List.length_take,Nat.min_eq_left Uz]
 have h1:=congrArg (List.drop (i * sz)) h.take
 rw [List.drop_take] at h1
 rw [Nat.sub_mul,h1]
 conv=>lhs;rw [← List.take_append_drop i xs]
 rw [List.flatten_append,List.drop_left' hf]
theorem EM {w:World} (es:List aX) (i:Nat) (hi:i<es.length) (hl:es.length<100000) {v:Value} {ha:Hp} (hA:Own 81 14 v ha (es.map cu)) (hN:jb ha w):
  Fn Tryz.prog 67 [v,.int .i64 (i:Int),.int .i64 ((i + 1:Nat):Int)].toArray w (ha.map (·.b)) (fun u hn=>Own 81 14 u hn ((es.eraseIdx i).map cu)):=by
 obtain ⟨g,cap,cur,rfl,rfl,hrow⟩:=hA.row (n:=es.length) UC Uz
 have hle:=hrow.le
 have hsz:=hrow.size
 refine kN _ hN Tryz.func67 ?_
 refine run ?_
 refine lU UB (BG aj rfl rfl rfl rfl UB Uz Uz Uz Uz) ?_
 refine run ?_
 refine ah _ rfl (fun hc=>absurd hc UJ) (fun hc=>?_)
 refine run ?_
 have hall:∀ c∈(es.drop (i + 1)).map cu,c.length=14∧c.all (·.oneCell')=true:=fun c hc=>by
  obtain ⟨x,_,rfl⟩:=List.mem_map.1 hc
  exact ⟨rfl,rfl⟩
 have hdl:(es.drop (i + 1)).length=es.length - (i + 1):=List.length_drop
 refine fZ (σ:=Array Value) (fun _=>[(0,.slice (some ⟨g,0,none⟩) (es.length - 1) cap)]) (fun cur'=>[⟨g,cur',81⟩]) (fun cur'=>Row g cap cur' 14 (es.length - 1) ((es.eraseIdx i).map cu).flatten) ?_ ?_
 ·refine ja 6 ?_
  refine gp ?_
  refine A7 (zi aj rfl rfl UB Uz Uz (m':=i) UC (.inr ⟨_,_,rfl⟩)) ?_
  refine gp ?_
  refine A7 (Eh aj rfl rfl UB Uz Uz) ?_
  refine gp ?_
  have hpre:=hrow.pre (fun c hc=>(rE c hc).1) (i:=i) Uz UC
  by_cases hlast:i + 1=es.length
  ·rw [show sliced (some ⟨g,0,none⟩) (((i + 1:Nat):Int)).toNat es.length cap 14=.slice (if cap=i + 1 then some ⟨g,0,none⟩ else some ⟨g,0 + (i + 1) * 14,none⟩) 0 (cap - (i + 1)) by
    simp [sliced,hlast,kS]]
   refine wM aj UB rfl Uz rfl UB UB ?_
   refine run ?_
   rw [show i=es.length - 1 by omega]
   refine eY cur ?_
   rw [List.eraseIdx_eq_take_drop_succ,show es.length - 1 + 1=es.length by omega,List.drop_length,List.append_nil,List.map_take]
   rw [show es.length - 1=i by omega]
   exact hpre
  ·rw [show sliced (some ⟨g,0,none⟩) (((i + 1:Nat):Int)).toNat es.length cap 14=.slice (some ⟨g,(i + 1) * 14,none⟩) (es.length - (i + 1)) (cap - (i + 1)) by
    have:¬ cap=i + 1:=by omega
    simp [sliced,this,kS]]
   have hpost:=hrow.post (fun c hc=>(rE c hc).1) (i:=i + 1) Uz UC
   rw [← List.map_drop] at hpost
   refine BH aj (hp':=[]) UB rfl rfl UB UB UB UB (.refl _) hpre (news:=((es.drop (i + 1)).map cu).flatten) (by rw [bD _ (fun c hc=>(hall c hc).1),List.length_map,hdl]) (dP (m:=(es.length - (i + 1)) * 14) mh hpost) (by
    rw [List.all_eq_true]
    intro u hu
    obtain ⟨c,hc,hu⟩:=List.mem_flatten.1 hu
    exact List.all_eq_true.1 (hall c hc).2 u hu) Uz (fun cur' hrow'=>?_)
   refine run ?_
   rw [show i + (es.length - (i + 1))=es.length - 1 by omega] at hrow' ⊢
   refine eY cur' ?_
   rw [List.eraseIdx_eq_take_drop_succ,List.map_append,List.flatten_append,List.map_take]
   exact hrow'
 rintro cur' hrow'
 have hsz':=hrow'.size
 have hel:(es.eraseIdx i).length=es.length - 1:=by rw [List.length_eraseIdx];simp [hi]
 refine run ?_
 refine lU UB (wF aj rfl rfl rfl UB Uz Uz Uz Uz (o':=(es.length - 1) * 14) Uz (m':=1) Uz (c':=cap - (es.length - 1)) Uz) ?_
 refine IZ aj (hp':=[]) rfl UB UB UB UB UA Uz (.refl _) (by rw [hsz'];omega) (fun zs hzs=>?_)
 refine run ?_
 refine fin1 ?_
 refine ⟨rE,.inr ⟨g,cap,putAt cur' ((es.length - 1) * 14) zs,by rw [List.length_map,hel],rfl,?_⟩⟩
 have:=hrow'.Lm (i:=es.length - 1) (fun c hc=>(rE c hc).1) (Nat.le_refl _) (by rw [List.length_map];exact hel) (zs:=zs) (by rw [hzs,hsz'];omega)
 rw [List.take_of_length_le (by rw [List.length_map,hel];exact Nat.le_refl _)] at this
 rw [List.length_map,hel]
 exact this
section
variable {w : World} {es : List aX} {ds : List eH} {v u : Value}
theorem Lp (h:aF w v 14 (es.map cu)) (hd:aF w u 4 (ds.map iw)) (hcap:∃ q c,v=.slice q es.length c∧es.length≤c) (hok:bZ es ds=true) (i:Int):
  Fn Tryz.prog 33 [.agg #[v,u],.int .i64 i].toArray w [] (fun r hn=>∃ v1 h1 v2 h2,r=.tuple #[.agg #[v1,v2],.int .i64 (bif decide (0≤i) && decide (i<(es.length:Int)) then 0 else 3)]∧((decide (0≤i) && decide (i<(es.length:Int)))=true→Own 81 14 v1 h1 ((jQ es i).map cu)∧Own 109 4 v2 h2 (ds.map iw))∧((decide (0≤i) && decide (i<(es.length:Int)))=false→v1=.slice none 0 0∧v2=.slice none 0 0)∧aI (h1++h2) hn):=by
 have h':=h
 have hd':=hd
 have hcap':=hcap
 obtain ⟨q,cap,rfl,hne,hle⟩:=h.opened
 obtain ⟨q2,cap2,rfl,_,_⟩:=hd.opened
 have hem:=jC hok
 refine enter Tryz.func33 ?_
 refine run ?_
 intro B R
 refine run ?_
 refine ax (fun wc hG=>nI es ds _ _ ((bT.old h').good hG) ((bT.old hd').good hG) hcap') ?_
 rw [hok]
 refine ig ?_
 have hin:(decide (0≤i) && decide (i<(es.length:Int)))=!(decide (i<0) || decide ((es.length:Int)≤i)):=by
  rw [Bool.not_or,← decide_not,← decide_not]
  congr 1<;>(rw [Bool.eq_iff_iff,decide_eq_true_eq,decide_eq_true_eq];omega)
 refine ah _ rfl (fun hc=>?_) (fun hc=>?_)
 ·rw [hin,hc]
  refine run ?_
  exact jo (cs:=#[.slice none 0 0,.slice none 0 0]) ⟨_,[],_,[],rfl,fun h=>absurd h UC,fun _=>⟨rfl,rfl⟩,by (exact ak)⟩
 ·rw [hin,hc]
  have hii:0≤i∧i<es.length:=by simp at hc;omega
  obtain ⟨k,rfl⟩:∃ k:Nat,i=(k:Int):=⟨i.toNat,by omega⟩
  have hdl:jQ es (k:Int)=es.eraseIdx k:=by
   unfold jQ
   rw [hin,hc];rfl
  rw [hdl]
  refine run ?_
  refine jJ (fun wc hG=>rF es ds _ _ ((bT.old h').good hG) ((bT.old hd').good hG) Uz Uz) ?_
  rintro u1 hn1 ⟨v1,h1,v2,h2,rfl,vU,hO2,hle1⟩
  obtain ⟨q3,c3,e3⟩:=vU.opened
  obtain ⟨q4,c4,e4⟩:=hO2.opened
  rw [List.length_map] at e3 e4
  subst e3 e4
  refine aZ (⟨R,#[.slice none 0 0,.slice none 0 0],35⟩::(h1++h2)) (cnt1 hle1) ?_
  refine run ?_
  intro X
  refine run ?_
  refine kR h1 (⟨X,#[.slice q3 es.length c3,.slice q4 ds.length c4],35⟩::⟨R,#[.slice none 0 0,.slice none 0 0],35⟩::h2) (fun wc hG=>EM es k Uz Uz vU hG.jK) ?_ az
  rintro v5 h5 Lr
  obtain ⟨q5,c5,e5⟩:=Lr.opened
  subst e5
  refine aZ (⟨X,#[.slice q3 es.length c3,.slice q4 ds.length c4],35⟩::⟨R,#[.slice none 0 0,.slice none 0 0],35⟩::(h5++h2)) ak ?_
  refine run ?_
  exact jo (cs:=#[.slice q5 ((es.eraseIdx k).map cu).length c5,.slice q4 ds.length c4]) ⟨_,h5,_,h2,rfl,fun _=>⟨Lr,hO2⟩,fun h=>absurd h UC,by (exact ak)⟩
end
end
section
attribute [local irreducible] Hy St Ops DH fE iK iE fU DS fD lZ
abbrev nV (c:gX) (mv ev dv rv:Value):Array Value:=#[mv,ev,dv,.int .i64 c.pk.cpu,.bool c.pk.fill,.bool c.pk.aP,.bool c.pk.walk,.int .i64 c.pk.drop,.bool c.pk.use,.bool c.one.on,.int .i64 c.one.frame,.int .i64 c.one.tag,.bool c.two.on,.int .i64 c.two.frame,.int .i64 c.two.tag,.int .i64 (c.page:Int),.int .i64 c.acc,rv]
theorem Own.cap {e sz:Nat} {v:Value} {hb:Hp} {α:Type} {f:α→List Value} {xs:List α} (hA:Own e sz v hb (xs.map f)):∃ q c,v=.slice q xs.length c∧xs.length≤c:=by
 rcases hA.2 with ⟨e1,e2,_⟩ | ⟨g,cap,cur,e1,_,hrow⟩
 ·rw [List.map_eq_nil_iff] at e1
  subst e1
  exact ⟨none,0,e2,Nat.le_refl _⟩
 ·rw [List.length_map] at e1 hrow
  exact ⟨_,cap,e1,hrow.le⟩
theorem vG (c:gX) {w:World} {Wb:Nat} {mv ev dv rv:Value} {he hd hr:Hp} (es:List aX) (ds:List eH) (hok:bZ es ds=true) (e:aX) (hem:e.may=true) (hm:∃ q n cp,mv=.slice q n cp) (hr':∃ q n cp,rv=.slice q n cp)
  (h1:Own 81 14 ev he (es.map cu)) (h2:Own 109 4 dv hd (ds.map iw)) (hN:jb (⟨Wb,nV c mv ev dv rv,99⟩::(he++hd++hr)) w):
  Fn Tryz.prog 71 [.pointer (some ⟨Wb,0,none⟩),.agg (cu e).toArray].toArray w (Wb::(he++hd++hr).map (·.b)) (fun u hn=>∃ ev' uk he' hd',u=.tuple #[]∧Own 81 14 ev' he' ((iI es e).map cu)∧Own 109 4 uk hd' (ds.map iw)∧aI (⟨Wb,nV c mv ev' uk rv,99⟩::(he'++hd'++hr)) hn):=by
 have hcap:=h1.cap
 have TN:=(jC hok).2
 obtain ⟨qm,nm,cm,rfl⟩:=hm
 obtain ⟨qr,nr,cr,rfl⟩:=hr'
 obtain ⟨qe,ce,ee⟩:=h1.opened
 obtain ⟨qd,cd,ed⟩:=h2.opened
 rw [List.length_map] at ee ed
 subst ee ed
 simp only [nV] at hN ⊢
 refine kN _ hN Tryz.func71 ?_
 refine run ?_
 intro B
 refine run ?_
 have hfl:=fun {wc:World} (ha:aF wc (.slice qe es.length ce) 14 (es.map cu)) (hb:aF wc (.slice qd ds.length cd) 4 (ds.map iw))=>Ll ha hb hcap hok e hem
 refine Bi 10 [0,1,2,3,4,5] [6] [7,8,9] [10,11] [12] ?_
 refine fJ ?_
 refine y7 (fun wc hG=>hfl (h1.lie (fun b hb=>hG.here b UQ) UI) (h2.lie (fun b hb=>hG.here b UQ) UI)) (hfl (h1.lie (fun b hb=>hN.here b UQ) UI) (h2.lie (fun b hb=>hN.here b UQ) UI)).some ?_
 refine kM ?_
 rintro u5 SI ⟨v5,h5,v6,h6,rfl,SK,SN,Ls⟩
 obtain ⟨q5,c5,e5⟩:=SK.opened
 obtain ⟨q6,c6,e6⟩:=SN.opened
 rw [List.length_map] at e5 e6
 subst e5 e6
 refine y8 ?_
 refine dR ?_
 refine dR ?_
 refine lK ?_
 refine Ew ?_
 refine Oe ?_
 refine lK ?_
 simp only [DN,List.cons_append,List.nil_append,List.append_nil]
 refine aN (b:=Wb) (tb:=99) (cs:=#[.slice qm nm cm,.slice qe es.length ce,.slice qd ds.length cd,.int .i64 c.pk.cpu,.bool c.pk.fill,.bool c.pk.aP,.bool c.pk.walk,.int .i64 c.pk.drop,.bool c.pk.use,.bool c.one.on,.int .i64 c.one.frame,.int .i64 c.one.tag,.bool c.two.on,.int .i64 c.two.frame,.int .i64 c.two.tag,.int .i64 (c.page:Int),.int .i64 c.acc,.slice qr nr cr]) (cs':=#[.slice qm nm cm,.slice q5 (iI es e).length c5,.slice q6 ds.length c6,.int .i64 c.pk.cpu,.bool c.pk.fill,.bool c.pk.aP,.bool c.pk.walk,.int .i64 c.pk.drop,.bool c.pk.use,.bool c.one.on,.int .i64 c.one.frame,.int .i64 c.one.tag,.bool c.two.on,.int .i64 c.two.frame,.int .i64 c.two.tag,.int .i64 (c.page:Int),.int .i64 c.acc,.slice qr nr cr]) (hp':=SI++(⟨B,(cu e).toArray,81⟩::(he++hd++hr))) ?_ az
 refine bf ?_
 refine dY ?_
 refine run ?_
 exact fin0 ⟨_,_,h5,h6,rfl,SK,SN,by (exact cnt1 Ls)⟩
theorem I4 (ws:List Nat) (frame:Int) (mid:Nat) (acc:Int):((aV ws true frame mid acc).f.kind=0→(aV ws true frame mid acc).h.mid=(mid:Int))∧((aV ws true frame mid acc).f.kind ≠ 0→(aV ws true frame mid acc).h.frame=0):=by
 simp only [aV,Bool.not_true,cond_false,vP]
 cases hc:decide ((kY (bK ws 2 frame mid) mid acc).kind=0) with
 | true=>exact ⟨fun _=>rfl,fun h=>absurd (of_decide_eq_true hc) h⟩
 | false=>exact ⟨fun h=>absurd h (of_decide_eq_false hc),fun _=>rfl⟩
theorem yC (c:gX) (hk:jX c) (cap:Nat) (hcc:c.ws.length≤cap) {p:Option Addr} {w:World} {Wb:Nat} {ev dv rv:Value} {he hd hr:Hp} (s:kZ) (ds:List eH) (mid:Nat) (hmid:mid≤4095) (acc:Int) (ha:PtD.bH acc 0 2=true) (hE:gG c.ws.length s.es ds) (hrl:s.rd.length<100000)
  (hm:bT w (Wb::(he++hd++hr).map (·.b)) (.slice p c.ws.length cap) 1 (c.ws.map uV)) (h1:Own 81 14 ev he (s.es.map cu)) (h2:Own 109 4 dv hd (ds.map iw)) (h3:Own 3 1 rv hr (s.rd.map dH)) (hN:jb (⟨Wb,nV c (.slice p c.ws.length cap) ev dv rv,99⟩::(he++hd++hr)) w):
  Fn Tryz.prog 68 [.pointer (some ⟨Wb,0,none⟩),.int .i64 (mid:Int),.int .i64 acc].toArray w (Wb::(he++hd++hr).map (·.b)) (fun u hn=>∃ (H:gQ) (ev' uk rv':Value) (he' hd' hr':Hp),u=.tuple #[Iw H,yj (bV c s mid acc).f]∧(H.frame=(bV c s mid acc).n∧((bV c s mid acc).f.kind=0→H.mid=(mid:Int)∧(⟨H.r,H.w,H.x,H.af,H.ng⟩:AtD)=(bV c s mid acc).a))∧Own 81 14 ev' he' ((bV c s mid acc).s.es.map cu)∧Own 109 4 uk hd' (ds.map iw)∧Own 3 1 rv' hr' ((bV c s mid acc).s.rd.map dH)∧aI (⟨Wb,nV c (.slice p c.ws.length cap) ev' uk rv',99⟩::(he'++hd'++hr')) hn):=by
 have hcap:=h1.cap
 obtain ⟨qe,ce,ee⟩:=h1.opened
 obtain ⟨qd,cd,ed⟩:=h2.opened
 obtain ⟨qr,cr,er⟩:=h3.opened
 rw [List.length_map] at ee ed er
 subst ee ed er
 simp only [nV] at hN ⊢
 have Ac:=cO hk.mem
 have hem:=hE.may
 have htw:=dX.fC hk.two
 refine kN _ hN Tryz.func68 ?_
 refine run ?_
 intro R1 R2
 refine run ?_
 refine fZ (σ:=Unit) (fun _=>[]) (fun _=>⟨R2,#[.int .i64 0,.int .i64 0,.int .i64 0,.bool false,.int .i64 0],50⟩::⟨R1,#[.int .i64 0,.int .i64 0,.bool false,.bool false,.bool false,.bool false,.bool false,.int .i64 0,.int .i64 0],48⟩::⟨Wb,#[.slice p c.ws.length cap,.slice qe s.es.length ce,.slice qd ds.length cd,.int .i64 c.pk.cpu,.bool c.pk.fill,.bool c.pk.aP,.bool c.pk.walk,.int .i64 c.pk.drop,.bool c.pk.use,.bool c.one.on,.int .i64 c.one.frame,.int .i64 c.one.tag,.bool c.two.on,.int .i64 c.two.frame,.int .i64 c.two.tag,.int .i64 (c.page:Int),.int .i64 c.acc,.slice qr s.rd.length cr],99⟩::(he++hd++hr)) (fun _=>(c.pk.use && decide (0≤oL c s mid acc))=false) ?_ ?_
 ·refine ah _ rfl (fun hc=>?_) (fun hc=>?_)
  ·refine run ?_
   have hmm:=fun {wc:World} (ha1:aF wc (.slice qe s.es.length ce) 14 (s.es.map cu)) (hb1:aF wc (.slice qd ds.length cd) 4 (ds.map iw))=>OC ha1 hb1 hcap hE.FI c.two.tag mid acc (iO htw.2.1 htw.2.2) hmid ha
   rw [kH,show dh (nC c.two.tag mid acc) s.es=oL c s mid acc from rfl] at hmm
   obtain ⟨E,hEE⟩:∃ E,E=(bif decide (0≤oL c s mid acc) then s.es.getD (oL c s mid acc).toNat default else default):=⟨_,rfl⟩
   rw [← hEE] at hmm
   refine mY 17 16 [0,1,2,3,4,5,6,7,8,9,10,11,12,13,14] [15] [16] (⟨R2,#[.int .i64 0,.int .i64 0,.int .i64 0,.bool false,.int .i64 0],50⟩::⟨R1,#[.int .i64 0,.int .i64 0,.bool false,.bool false,.bool false,.bool false,.bool false,.int .i64 0,.int .i64 0],48⟩::⟨Wb,#[.slice p c.ws.length cap,.slice qe s.es.length ce,.slice qd ds.length cd,.int .i64 c.pk.cpu,.bool c.pk.fill,.bool c.pk.aP,.bool c.pk.walk,.int .i64 c.pk.drop,.bool c.pk.use,.bool c.one.on,.int .i64 c.one.frame,.int .i64 c.one.tag,.bool c.two.on,.int .i64 c.two.frame,.int .i64 c.two.tag,.int .i64 (c.page:Int),.int .i64 c.acc,.slice qr s.rd.length cr],99⟩::(he++hd++hr)) ?_
   refine dV ?_
   refine rq (fun wc hx hG=>hmm (h1.lie (fun b hb=>hG.here b UQ) UI) (h2.lie (fun b hb=>hG.here b UQ) UI)) ?_
   refine dV ?_
   refine kL ?_
   refine kM ?_
   rintro _ _ ⟨X,rfl,rfl⟩
   simp only [DN,List.cons_append,List.nil_append,List.append_nil]
   refine aN (b:=X) (tb:=81) (cs:=#[.int .i64 0,.int .i64 0,.int .i64 0,.bool false,.int .i64 0,.int .i64 0,.int .i64 0,.int .i64 0,.bool false,.bool false,.bool false,.bool false,.bool false,.int .i64 0]) (cs':=#[.int .i64 E.kind,.int .i64 E.iF,.int .i64 E.jf,.bool E.all,.int .i64 E.page,.int .i64 E.level,.int .i64 E.frame,.int .i64 E.mid,.bool E.r,.bool E.w,.bool E.x,.bool E.af,.bool E.ng,.int .i64 E.soft]) (hp':=⟨R2,#[.int .i64 0,.int .i64 0,.int .i64 0,.bool false,.int .i64 0],50⟩::⟨R1,#[.int .i64 0,.int .i64 0,.bool false,.bool false,.bool false,.bool false,.bool false,.int .i64 0,.int .i64 0],48⟩::⟨Wb,#[.slice p c.ws.length cap,.slice qe s.es.length ce,.slice qd ds.length cd,.int .i64 c.pk.cpu,.bool c.pk.fill,.bool c.pk.aP,.bool c.pk.walk,.int .i64 c.pk.drop,.bool c.pk.use,.bool c.one.on,.int .i64 c.one.frame,.int .i64 c.one.tag,.bool c.two.on,.int .i64 c.two.frame,.int .i64 c.two.tag,.int .i64 (c.page:Int),.int .i64 c.acc,.slice qr s.rd.length cr],99⟩::(he++hd++hr)) ?_ (List.Perm.refl _)
   refine bf ?_
   refine dY ?_
   refine run ?_
   refine ah _ rfl (fun hc2=>?_) (fun hc2=>?_)
   ·have h0:0≤oL c s mid acc:=by
     cases hq:decide (0≤oL c s mid acc) with
     | true=>exact of_decide_eq_true hq
     | false=>rw [hq] at hc2;simp at hc2
    have Rh:bV c s mid acc=⟨s,E.frame,Q5 E,eU⟩:=by rw [hEE];simp only [bV,hc,h0,decide_true,Bool.and_self,cond_true]
    rw [Rh]
    refine run ?_
    exact jk (cs:=#[.int .i64 E.frame,.int .i64 (mid:Int),.bool E.r,.bool E.w,.bool E.x,.bool E.af,.bool E.ng,.int .i64 E.soft,.int .i64 0]) (cs2:=#[.int .i64 0,.int .i64 0,.int .i64 0,.bool false,.int .i64 0]) ⟨⟨E.frame,mid,E.r,E.w,E.x,E.af,E.ng,E.soft,0⟩,_,_,_,he,hd,hr,rfl,⟨rfl,fun _=>⟨rfl,rfl⟩⟩,h1,h2,h3,by (exact ak)⟩
   ·refine run ?_
    exact eY () (by
     rw [hc,Bool.true_and]
     cases hq:decide (0≤oL c s mid acc) with
     | false=>rfl
     | true=>rw [hq] at hc2;simp at hc2)
  ·refine run ?_
   exact eY () (by rw [hc];rfl)
 rintro ⟨⟩ hcut
 have Rh:bV c s mid acc=nT c s mid (aV c.ws true c.two.frame mid acc):=by simp only [bV,hcut,cond_false]
 rw [Rh]
 have hcl:∀ {wc:World},aF wc (.slice p c.ws.length cap) 1 (c.ws.map uV)→Fn Tryz.prog 117 [.agg #[.slice p c.ws.length cap],.agg #[.bool c.two.on,.int .i64 c.two.frame,.int .i64 c.two.tag],.int .i64 (mid:Int),.int .i64 acc].toArray wc [] (fun u hn=>∃ rv' hr',u=.tuple #[Iw (aV c.ws true c.two.frame mid acc).h,yj (aV c.ws true c.two.frame mid acc).f,rv',.int .i64 0]∧Own 3 1 rv' hr' ((aV c.ws true c.two.frame mid acc).rd.map dH)∧aI hr' hn):=fun h=>by
  rw [hk.on]
  exact Oy c.ws hk.EI cap hk.mem hcc h c.two.frame c.two.tag htw.1.1 htw.1.2 mid hmid acc ha
 refine run ?_
 refine Bi 18 [0,1,2,3,4,5,6,7,8,9] [10,16,17] [11,12,13,14,15] [20,21] [18,19] ?_
 refine fJ ?_
 refine y7 (fun wc hG=>hcl (hm.good hG)) (hcl hm.at_).some ?_
 refine kL ?_
 refine kL ?_
 refine kM ?_
 rintro _ _ ⟨F,rfl,rfl⟩ _ _ ⟨H,rfl,rfl⟩ u hn2 ⟨v2,h2',rfl,hO,hle2⟩
 have hL4:=uh c.ws c.two.frame mid acc
 have Qb:=ug (ws:=c.ws) (frame:=c.two.frame) (mid:=mid) (acc:=acc)
 have Ri:=I4 c.ws c.two.frame mid acc
 generalize aV c.ws true c.two.frame mid acc=L at hO hL4 Qb Ri ⊢
 obtain ⟨q2,c2,e2⟩:=hO.opened
 rw [List.length_map] at e2
 subst e2
 refine y8 ?_
 refine dR ?_
 refine dR ?_
 refine dR ?_
 refine dR ?_
 refine lK ?_
 refine yg ?_
 refine yg ?_
 refine lK ?_
 simp only [DN,List.cons_append,List.nil_append,List.append_nil]
 refine aN (b:=H) (tb:=48) (cs:=#[.int .i64 0,.int .i64 0,.bool false,.bool false,.bool false,.bool false,.bool false,.int .i64 0,.int .i64 0]) (cs':=#[.int .i64 L.h.frame,.int .i64 L.h.mid,.bool L.h.r,.bool L.h.w,.bool L.h.x,.bool L.h.af,.bool L.h.ng,.int .i64 L.h.soft,.int .i64 L.h.level]) (hp':=⟨F,#[.int .i64 0,.int .i64 0,.int .i64 0,.bool false,.int .i64 0],50⟩::(hn2++(⟨R2,#[.int .i64 0,.int .i64 0,.int .i64 0,.bool false,.int .i64 0],50⟩::⟨R1,#[.int .i64 0,.int .i64 0,.bool false,.bool false,.bool false,.bool false,.bool false,.int .i64 0,.int .i64 0],48⟩::⟨Wb,#[.slice p c.ws.length cap,.slice qe s.es.length ce,.slice qd ds.length cd,.int .i64 c.pk.cpu,.bool c.pk.fill,.bool c.pk.aP,.bool c.pk.walk,.int .i64 c.pk.drop,.bool c.pk.use,.bool c.one.on,.int .i64 c.one.frame,.int .i64 c.one.tag,.bool c.two.on,.int .i64 c.two.frame,.int .i64 c.two.tag,.int .i64 (c.page:Int),.int .i64 c.acc,.slice qr s.rd.length cr],99⟩::(he++hd++hr)))) ?_ az
 refine aN (b:=F) (tb:=50) (cs:=#[.int .i64 0,.int .i64 0,.int .i64 0,.bool false,.int .i64 0]) (cs':=#[.int .i64 L.f.kind,.int .i64 L.f.stage,.int .i64 L.f.level,.bool L.f.walk,.int .i64 L.f.page]) (hp':=⟨H,#[.int .i64 L.h.frame,.int .i64 L.h.mid,.bool L.h.r,.bool L.h.w,.bool L.h.x,.bool L.h.af,.bool L.h.ng,.int .i64 L.h.soft,.int .i64 L.h.level],48⟩::(hn2++(⟨R2,#[.int .i64 0,.int .i64 0,.int .i64 0,.bool false,.int .i64 0],50⟩::⟨R1,#[.int .i64 0,.int .i64 0,.bool false,.bool false,.bool false,.bool false,.bool false,.int .i64 0,.int .i64 0],48⟩::⟨Wb,#[.slice p c.ws.length cap,.slice qe s.es.length ce,.slice qd ds.length cd,.int .i64 c.pk.cpu,.bool c.pk.fill,.bool c.pk.aP,.bool c.pk.walk,.int .i64 c.pk.drop,.bool c.pk.use,.bool c.one.on,.int .i64 c.one.frame,.int .i64 c.one.tag,.bool c.two.on,.int .i64 c.two.frame,.int .i64 c.two.tag,.int .i64 (c.page:Int),.int .i64 c.acc,.slice qr s.rd.length cr],99⟩::(he++hd++hr)))) ?_ az
 refine bf ?_
 refine dY ?_
 refine aZ (⟨F,#[.int .i64 L.f.kind,.int .i64 L.f.stage,.int .i64 L.f.level,.bool L.f.walk,.int .i64 L.f.page],50⟩::⟨H,#[.int .i64 L.h.frame,.int .i64 L.h.mid,.bool L.h.r,.bool L.h.w,.bool L.h.x,.bool L.h.af,.bool L.h.ng,.int .i64 L.h.soft,.int .i64 L.h.level],48⟩::⟨R2,#[.int .i64 0,.int .i64 0,.int .i64 0,.bool false,.int .i64 0],50⟩::⟨R1,#[.int .i64 0,.int .i64 0,.bool false,.bool false,.bool false,.bool false,.bool false,.int .i64 0,.int .i64 0],48⟩::⟨Wb,#[.slice p c.ws.length cap,.slice qe s.es.length ce,.slice qd ds.length cd,.int .i64 c.pk.cpu,.bool c.pk.fill,.bool c.pk.aP,.bool c.pk.walk,.int .i64 c.pk.drop,.bool c.pk.use,.bool c.one.on,.int .i64 c.one.frame,.int .i64 c.one.tag,.bool c.two.on,.int .i64 c.two.frame,.int .i64 c.two.tag,.int .i64 (c.page:Int),.int .i64 c.acc,.slice qr s.rd.length cr],99⟩::(he++hd++hr++h2')) (cnt1 hle2) ?_
 refine run ?_
 refine yl (L.rd.map dH) (⟨F,#[.int .i64 L.f.kind,.int .i64 L.f.stage,.int .i64 L.f.level,.bool L.f.walk,.int .i64 L.f.page],50⟩::⟨H,#[.int .i64 L.h.frame,.int .i64 L.h.mid,.bool L.h.r,.bool L.h.w,.bool L.h.x,.bool L.h.af,.bool L.h.ng,.int .i64 L.h.soft,.int .i64 L.h.level],48⟩::⟨R2,#[.int .i64 0,.int .i64 0,.int .i64 0,.bool false,.int .i64 0],50⟩::⟨R1,#[.int .i64 0,.int .i64 0,.bool false,.bool false,.bool false,.bool false,.bool false,.int .i64 0,.int .i64 0],48⟩::⟨Wb,#[.slice p c.ws.length cap,.slice qe s.es.length ce,.slice qd ds.length cd,.int .i64 c.pk.cpu,.bool c.pk.fill,.bool c.pk.aP,.bool c.pk.walk,.int .i64 c.pk.drop,.bool c.pk.use,.bool c.one.on,.int .i64 c.one.frame,.int .i64 c.one.tag,.bool c.two.on,.int .i64 c.two.frame,.int .i64 c.two.tag,.int .i64 (c.page:Int),.int .i64 c.acc,.slice qr s.rd.length cr],99⟩::(he++hd++h2')) h3 (rW.own hO ak) (fun v4 h4 hO4=>?_) (by simp only [List.length_map];omega) (fun c hc=>by obtain ⟨x,_,rfl⟩:=List.mem_map.1 hc;exact ⟨rfl,rfl⟩) (hperm:=by (exact az))
 rw [← List.map_append] at hO4
 obtain ⟨q4,c4,e4⟩:=hO4.opened
 rw [List.length_map] at e4
 subst e4
 refine aZ (⟨F,#[.int .i64 L.f.kind,.int .i64 L.f.stage,.int .i64 L.f.level,.bool L.f.walk,.int .i64 L.f.page],50⟩::⟨H,#[.int .i64 L.h.frame,.int .i64 L.h.mid,.bool L.h.r,.bool L.h.w,.bool L.h.x,.bool L.h.af,.bool L.h.ng,.int .i64 L.h.soft,.int .i64 L.h.level],48⟩::⟨R2,#[.int .i64 0,.int .i64 0,.int .i64 0,.bool false,.int .i64 0],50⟩::⟨R1,#[.int .i64 0,.int .i64 0,.bool false,.bool false,.bool false,.bool false,.bool false,.int .i64 0,.int .i64 0],48⟩::⟨Wb,#[.slice p c.ws.length cap,.slice qe s.es.length ce,.slice qd ds.length cd,.int .i64 c.pk.cpu,.bool c.pk.fill,.bool c.pk.aP,.bool c.pk.walk,.int .i64 c.pk.drop,.bool c.pk.use,.bool c.one.on,.int .i64 c.one.frame,.int .i64 c.one.tag,.bool c.two.on,.int .i64 c.two.frame,.int .i64 c.two.tag,.int .i64 (c.page:Int),.int .i64 c.acc,.slice qr s.rd.length cr],99⟩::(he++hd++h4)) ak ?_
 refine aG ?_
 obtain ⟨es',hes⟩:∃ es',es'=(bif decide (L.f.kind=0) && c.pk.aP then iI s.es (vS c.two.tag mid L.h) else s.es):=⟨_,rfl⟩
 have hYs:nT c s mid L=⟨⟨es',s.rd++L.rd⟩,L.h.frame,bif decide (L.f.kind=0) then ⟨L.h.r,L.h.w,L.h.x,L.h.af,L.h.ng⟩ else zH,L.f⟩:=by
  rw [hes]
  unfold nT
  cases hc:decide (L.f.kind=0) with
  | true=>rfl
  | false=>
   simp only [Bool.not_false,cond_true,cond_false,Bool.false_and]
   rw [Ri.2 (of_decide_eq_false hc)]
 rw [hYs]
 dsimp only
 refine fZ (σ:=Value × Value × Hp × Hp) (fun _=>[]) (fun z=>⟨F,#[.int .i64 L.f.kind,.int .i64 L.f.stage,.int .i64 L.f.level,.bool L.f.walk,.int .i64 L.f.page],50⟩::⟨H,#[.int .i64 L.h.frame,.int .i64 L.h.mid,.bool L.h.r,.bool L.h.w,.bool L.h.x,.bool L.h.af,.bool L.h.ng,.int .i64 L.h.soft,.int .i64 L.h.level],48⟩::⟨R2,#[.int .i64 0,.int .i64 0,.int .i64 0,.bool false,.int .i64 0],50⟩::⟨R1,#[.int .i64 0,.int .i64 0,.bool false,.bool false,.bool false,.bool false,.bool false,.int .i64 0,.int .i64 0],48⟩::⟨Wb,#[.slice p c.ws.length cap,z.1,z.2.1,.int .i64 c.pk.cpu,.bool c.pk.fill,.bool c.pk.aP,.bool c.pk.walk,.int .i64 c.pk.drop,.bool c.pk.use,.bool c.one.on,.int .i64 c.one.frame,.int .i64 c.one.tag,.bool c.two.on,.int .i64 c.two.frame,.int .i64 c.two.tag,.int .i64 (c.page:Int),.int .i64 c.acc,.slice q4 (s.rd++L.rd).length c4],99⟩::(z.2.2.1++z.2.2.2++h4)) (fun z=>Own 81 14 z.1 z.2.2.1 (es'.map cu)∧Own 109 4 z.2.1 z.2.2.2 (ds.map iw)) ?_ ?_
 ·refine ah _ rfl (fun hc=>?_) (fun hc=>?_)
  ·rw [hc,cond_true] at hes
   subst hes
   rw [Bool.and_eq_true] at hc
   obtain ⟨TP,hLn,SQ⟩:=Qb (of_decide_eq_true hc.1)
   refine run ?_
   refine mY 13 12 [0,1,2,3,4,5,6,7,8,9,10] [11] [12] (⟨Wb,#[.slice p c.ws.length cap,.slice qe s.es.length ce,.slice qd ds.length cd,.int .i64 c.pk.cpu,.bool c.pk.fill,.bool c.pk.aP,.bool c.pk.walk,.int .i64 c.pk.drop,.bool c.pk.use,.bool c.one.on,.int .i64 c.one.frame,.int .i64 c.one.tag,.bool c.two.on,.int .i64 c.two.frame,.int .i64 c.two.tag,.int .i64 (c.page:Int),.int .i64 c.acc,.slice q4 (s.rd++L.rd).length c4],99⟩::⟨F,#[.int .i64 L.f.kind,.int .i64 L.f.stage,.int .i64 L.f.level,.bool L.f.walk,.int .i64 L.f.page],50⟩::⟨H,#[.int .i64 L.h.frame,.int .i64 L.h.mid,.bool L.h.r,.bool L.h.w,.bool L.h.x,.bool L.h.af,.bool L.h.ng,.int .i64 L.h.soft,.int .i64 L.h.level],48⟩::⟨R2,#[.int .i64 0,.int .i64 0,.int .i64 0,.bool false,.int .i64 0],50⟩::⟨R1,#[.int .i64 0,.int .i64 0,.bool false,.bool false,.bool false,.bool false,.bool false,.int .i64 0,.int .i64 0],48⟩::(he++hd++h4)) ?_
   refine dV ?_
   refine kL ?_
   refine kM ?_
   rintro _ _ ⟨X,rfl,rfl⟩
   simp only [DN,List.cons_append,List.nil_append,List.append_nil]
   refine aN (b:=X) (tb:=81) (cs:=#[.int .i64 0,.int .i64 0,.int .i64 0,.bool false,.int .i64 0,.int .i64 0,.int .i64 0,.int .i64 0,.bool false,.bool false,.bool false,.bool false,.bool false,.int .i64 0]) (cs':=#[.int .i64 2,.int .i64 c.two.tag,.int .i64 0,.bool true,.int .i64 (mid:Int),.int .i64 0,.int .i64 L.h.frame,.int .i64 0,.bool L.h.r,.bool L.h.w,.bool L.h.x,.bool L.h.af,.bool L.h.ng,.int .i64 L.h.soft]) (hp':=⟨Wb,#[.slice p c.ws.length cap,.slice qe s.es.length ce,.slice qd ds.length cd,.int .i64 c.pk.cpu,.bool c.pk.fill,.bool c.pk.aP,.bool c.pk.walk,.int .i64 c.pk.drop,.bool c.pk.use,.bool c.one.on,.int .i64 c.one.frame,.int .i64 c.one.tag,.bool c.two.on,.int .i64 c.two.frame,.int .i64 c.two.tag,.int .i64 (c.page:Int),.int .i64 c.acc,.slice q4 (s.rd++L.rd).length c4],99⟩::⟨F,#[.int .i64 L.f.kind,.int .i64 L.f.stage,.int .i64 L.f.level,.bool L.f.walk,.int .i64 L.f.page],50⟩::⟨H,#[.int .i64 L.h.frame,.int .i64 L.h.mid,.bool L.h.r,.bool L.h.w,.bool L.h.x,.bool L.h.af,.bool L.h.ng,.int .i64 L.h.soft,.int .i64 L.h.level],48⟩::⟨R2,#[.int .i64 0,.int .i64 0,.int .i64 0,.bool false,.int .i64 0],50⟩::⟨R1,#[.int .i64 0,.int .i64 0,.bool false,.bool false,.bool false,.bool false,.bool false,.int .i64 0,.int .i64 0],48⟩::(he++hd++h4)) ?_ (List.Perm.refl _)
   refine bf ?_
   refine dY ?_
   refine run ?_
   have hen:vS c.two.tag mid L.h=⟨2,c.two.tag,0,true,mid,0,L.h.frame,0,L.h.r,L.h.w,L.h.x,L.h.af,false,0⟩:=by unfold vS;rw [SQ]
   have hmay:=zK hk hmid TP SQ
   rw [hen] at hmay ⊢
   refine kR (⟨Wb,#[.slice p c.ws.length cap,.slice qe s.es.length ce,.slice qd ds.length cd,.int .i64 c.pk.cpu,.bool c.pk.fill,.bool c.pk.aP,.bool c.pk.walk,.int .i64 c.pk.drop,.bool c.pk.use,.bool c.one.on,.int .i64 c.one.frame,.int .i64 c.one.tag,.bool c.two.on,.int .i64 c.two.frame,.int .i64 c.two.tag,.int .i64 (c.page:Int),.int .i64 c.acc,.slice q4 (s.rd++L.rd).length c4],99⟩::(he++hd++h4)) (⟨X,#[.int .i64 2,.int .i64 c.two.tag,.int .i64 0,.bool true,.int .i64 (mid:Int),.int .i64 0,.int .i64 L.h.frame,.int .i64 0,.bool L.h.r,.bool L.h.w,.bool L.h.x,.bool L.h.af,.bool false,.int .i64 0],81⟩::⟨F,#[.int .i64 L.f.kind,.int .i64 L.f.stage,.int .i64 L.f.level,.bool L.f.walk,.int .i64 L.f.page],50⟩::⟨H,#[.int .i64 L.h.frame,.int .i64 L.h.mid,.bool L.h.r,.bool L.h.w,.bool L.h.x,.bool L.h.af,.bool L.h.ng,.int .i64 L.h.soft,.int .i64 L.h.level],48⟩::[⟨R2,#[.int .i64 0,.int .i64 0,.int .i64 0,.bool false,.int .i64 0],50⟩,⟨R1,#[.int .i64 0,.int .i64 0,.bool false,.bool false,.bool false,.bool false,.bool false,.int .i64 0,.int .i64 0],48⟩]) (fun wc hG=>vG c s.es ds hE.FI ⟨2,c.two.tag,0,true,mid,0,L.h.frame,0,L.h.r,L.h.w,L.h.x,L.h.af,false,0⟩ hmay ⟨_,_,_,rfl⟩ ⟨_,_,_,rfl⟩ h1 h2 hG.jK) ?_ az
   rintro u7 SS ⟨MB,Qc,Qd,hd7,rfl,h17,h27,zT⟩
   simp only [nV] at zT
   refine run ?_
   exact eY (MB,Qc,Qd,hd7) ⟨h17,h27⟩ (h2:=by (exact cnt1 zT))
  ·rw [hc,cond_false] at hes
   subst hes
   refine run ?_
   exact eY (.slice qe s.es.length ce,.slice qd ds.length cd,he,hd) ⟨h1,h2⟩ (h2:=by (exact ak))
 rintro ⟨vK,Ae,he2,hd2⟩ ⟨h1',I5⟩
 dsimp only at h1' I5 ⊢
 refine run ?_
 refine eG 4 2 [0,1] [2,3] (⟨F,#[.int .i64 L.f.kind,.int .i64 L.f.stage,.int .i64 L.f.level,.bool L.f.walk,.int .i64 L.f.page],50⟩::⟨H,#[.int .i64 L.h.frame,.int .i64 L.h.mid,.bool L.h.r,.bool L.h.w,.bool L.h.x,.bool L.h.af,.bool L.h.ng,.int .i64 L.h.soft,.int .i64 L.h.level],48⟩::⟨Wb,#[.slice p c.ws.length cap,vK,Ae,.int .i64 c.pk.cpu,.bool c.pk.fill,.bool c.pk.aP,.bool c.pk.walk,.int .i64 c.pk.drop,.bool c.pk.use,.bool c.one.on,.int .i64 c.one.frame,.int .i64 c.one.tag,.bool c.two.on,.int .i64 c.two.frame,.int .i64 c.two.tag,.int .i64 (c.page:Int),.int .i64 c.acc,.slice q4 (s.rd++L.rd).length c4],99⟩::(he2++hd2++h4)) ?_
 refine dV ?_
 refine aN (b:=R1) (tb:=48) (cs:=#[.int .i64 0,.int .i64 0,.bool false,.bool false,.bool false,.bool false,.bool false,.int .i64 0,.int .i64 0]) (cs':=#[.int .i64 L.h.frame,.int .i64 L.h.mid,.bool L.h.r,.bool L.h.w,.bool L.h.x,.bool L.h.af,.bool L.h.ng,.int .i64 L.h.soft,.int .i64 L.h.level]) (hp':=⟨R2,#[.int .i64 0,.int .i64 0,.int .i64 0,.bool false,.int .i64 0],50⟩::⟨F,#[.int .i64 L.f.kind,.int .i64 L.f.stage,.int .i64 L.f.level,.bool L.f.walk,.int .i64 L.f.page],50⟩::⟨H,#[.int .i64 L.h.frame,.int .i64 L.h.mid,.bool L.h.r,.bool L.h.w,.bool L.h.x,.bool L.h.af,.bool L.h.ng,.int .i64 L.h.soft,.int .i64 L.h.level],48⟩::⟨Wb,#[.slice p c.ws.length cap,vK,Ae,.int .i64 c.pk.cpu,.bool c.pk.fill,.bool c.pk.aP,.bool c.pk.walk,.int .i64 c.pk.drop,.bool c.pk.use,.bool c.one.on,.int .i64 c.one.frame,.int .i64 c.one.tag,.bool c.two.on,.int .i64 c.two.frame,.int .i64 c.two.tag,.int .i64 (c.page:Int),.int .i64 c.acc,.slice q4 (s.rd++L.rd).length c4],99⟩::(he2++hd2++h4)) ?_ az
 refine aN (b:=R2) (tb:=50) (cs:=#[.int .i64 0,.int .i64 0,.int .i64 0,.bool false,.int .i64 0]) (cs':=#[.int .i64 L.f.kind,.int .i64 L.f.stage,.int .i64 L.f.level,.bool L.f.walk,.int .i64 L.f.page]) (hp':=⟨R1,#[.int .i64 L.h.frame,.int .i64 L.h.mid,.bool L.h.r,.bool L.h.w,.bool L.h.x,.bool L.h.af,.bool L.h.ng,.int .i64 L.h.soft,.int .i64 L.h.level],48⟩::⟨F,#[.int .i64 L.f.kind,.int .i64 L.f.stage,.int .i64 L.f.level,.bool L.f.walk,.int .i64 L.f.page],50⟩::⟨H,#[.int .i64 L.h.frame,.int .i64 L.h.mid,.bool L.h.r,.bool L.h.w,.bool L.h.x,.bool L.h.af,.bool L.h.ng,.int .i64 L.h.soft,.int .i64 L.h.level],48⟩::⟨Wb,#[.slice p c.ws.length cap,vK,Ae,.int .i64 c.pk.cpu,.bool c.pk.fill,.bool c.pk.aP,.bool c.pk.walk,.int .i64 c.pk.drop,.bool c.pk.use,.bool c.one.on,.int .i64 c.one.frame,.int .i64 c.one.tag,.bool c.two.on,.int .i64 c.two.frame,.int .i64 c.two.tag,.int .i64 (c.page:Int),.int .i64 c.acc,.slice q4 (s.rd++L.rd).length c4],99⟩::(he2++hd2++h4)) ?_ az
 refine bf ?_
 refine dY ?_
 refine run ?_
 exact jk (cs:=#[.int .i64 L.h.frame,.int .i64 L.h.mid,.bool L.h.r,.bool L.h.w,.bool L.h.x,.bool L.h.af,.bool L.h.ng,.int .i64 L.h.soft,.int .i64 L.h.level]) (cs2:=#[.int .i64 L.f.kind,.int .i64 L.f.stage,.int .i64 L.f.level,.bool L.f.walk,.int .i64 L.f.page]) ⟨L.h,_,_,_,he2,hd2,h4,rfl,⟨rfl,fun hk0=>⟨Ri.1 hk0,by rw [show decide (L.f.kind=0)=true from decide_eq_true hk0];rfl⟩⟩,h1',I5,hO4,by (exact ak)⟩
theorem yD {fn:Func} {R:Value→Hp→Prop} {l:Fm} {hp:Hp} {s0 s1 a t b:Nat} {cs:Array Value} {tb:TypeId} {v v1:Value} (h:R (.tuple #[v,v1,.agg cs]) hp) (hr:fn.results=#[.tmp s0,.tmp s1,.cell a t]:=by rfl) (h0:look l s0=some v:=by rfl) (h1:look l s1=some v1:=by rfl) (hv:look l a=some (.pointer (some ⟨b,0,none⟩)):=by rfl) (hag:mem Tb.ag t=true:=by rfl) (hm:(⟨b,cs,tb⟩:jY)∈hp:=by (first | (with_reducible apply mh) | (focus ((repeat (first | (with_reducible apply mh) | (with_reducible apply mt) | (with_reducible apply List.mem_append_right)));done)))) (hz:lk Tb.sz t=some cs.size:=by rfl):Fin Tryz.prog fn R .ret l hp:=
 ⟨.inl rfl,[v,v1,.agg cs],by rw [hr];exact ⟨h0,h1,⟨⟨b,cs,tb⟩,hm,hv,.inr ⟨aj.Cb hag,aj.rH hz,rfl⟩⟩,trivial⟩,h⟩
theorem wQ (c:gX) (hk:jX c) (cap:Nat) (hcc:c.ws.length≤cap) {p:Option Addr} {w:World} {Wb:Nat} {ev dv rv:Value} {he hd hr:Hp} (s:kZ) (ds:List eH) (mid level:Nat) (hmid:mid≤4095) (hlv:level≤3) (hE:gG c.ws.length s.es ds) (hrl:s.rd.length<90000)
  (hm:bT w (Wb::(he++hd++hr).map (·.b)) (.slice p c.ws.length cap) 1 (c.ws.map uV)) (h1:Own 81 14 ev he (s.es.map cu)) (h2:Own 109 4 dv hd (ds.map iw)) (h3:Own 3 1 rv hr (s.rd.map dH)) (hN:jb (⟨Wb,nV c (.slice p c.ws.length cap) ev dv rv,99⟩::(he++hd++hr)) w):
  Fn Tryz.prog 122 [.pointer (some ⟨Wb,0,none⟩),.int .i64 (mid:Int),.int .i64 (level:Int)].toArray w (Wb::(he++hd++hr).map (·.b)) (fun u hn=>∃ (lv:Int) (ev' uk rv':Value) (he' hd' hr':Hp),u=.tuple #[.int .i64 (dZ c s mid level).n,.int .i64 lv,yj (dZ c s mid level).f]∧((dZ c s mid level).f.kind=0→lv=(level:Int))∧Own 81 14 ev' he' ((dZ c s mid level).s.es.map cu)∧Own 109 4 uk hd' (ds.map iw)∧Own 3 1 rv' hr' ((dZ c s mid level).s.rd.map dH)∧aI (⟨Wb,nV c (.slice p c.ws.length cap) ev' uk rv',99⟩::(he'++hd'++hr')) hn):=by
 simp only [nV] at hN ⊢
 have Ac:=cO hk.mem
 have hem:=hE.may
 refine kN _ hN Tryz.func122 ?_
 refine run ?_
 intro R
 refine kR (⟨Wb,#[.slice p c.ws.length cap,ev,dv,.int .i64 c.pk.cpu,.bool c.pk.fill,.bool c.pk.aP,.bool c.pk.walk,.int .i64 c.pk.drop,.bool c.pk.use,.bool c.one.on,.int .i64 c.one.frame,.int .i64 c.one.tag,.bool c.two.on,.int .i64 c.two.frame,.int .i64 c.two.tag,.int .i64 (c.page:Int),.int .i64 c.acc,rv],99⟩::(he++hd++hr)) [⟨R,#[.int .i64 0,.int .i64 0,.int .i64 0,.bool false,.int .i64 0],50⟩] (fun wc hG=>yC c hk cap hcc s ds mid hmid 0 rfl hE Uz (hm.into hG) h1 h2 h3 hG.jK) ?_ az
 rintro u1 hn1 ⟨H,ev1,qC,oO,he1,hd1,hr1,rfl,⟨hH1,hH2⟩,h11,h21,h31,hle1⟩
 simp only [nV] at hle1
 obtain ⟨hMs,SV⟩:=qw hk hE (mid:=mid) hmid 0
 rw [dZ]
 generalize bV c s mid 0=Y at hH1 hH2 h11 h31 hMs SV ⊢
 refine aZ (⟨R,#[.int .i64 0,.int .i64 0,.int .i64 0,.bool false,.int .i64 0],50⟩::⟨Wb,#[.slice p c.ws.length cap,ev1,qC,.int .i64 c.pk.cpu,.bool c.pk.fill,.bool c.pk.aP,.bool c.pk.walk,.int .i64 c.pk.drop,.bool c.pk.use,.bool c.one.on,.int .i64 c.one.frame,.int .i64 c.one.tag,.bool c.two.on,.int .i64 c.two.frame,.int .i64 c.two.tag,.int .i64 (c.page:Int),.int .i64 c.acc,oO],99⟩::(he1++hd1++hr1)) (cnt1 hle1) ?_
 refine run ?_
 intro HB F
 refine ah _ rfl (fun hc=>?_) (fun hc=>?_)
 ·rw [hc,cond_true]
  refine run ?_
  refine jO 6 ?_
  refine jO 7 ?_
  refine eG 4 3 [0,1,2] [3] (⟨F,#[.int .i64 Y.f.kind,.int .i64 Y.f.stage,.int .i64 Y.f.level,.bool true,.int .i64 Y.f.page],50⟩::⟨HB,#[.int .i64 H.frame,.int .i64 H.mid,.bool H.r,.bool H.w,.bool H.x,.bool H.af,.bool H.ng,.int .i64 H.soft,.int .i64 H.level],48⟩::⟨Wb,#[.slice p c.ws.length cap,ev1,qC,.int .i64 c.pk.cpu,.bool c.pk.fill,.bool c.pk.aP,.bool c.pk.walk,.int .i64 c.pk.drop,.bool c.pk.use,.bool c.one.on,.int .i64 c.one.frame,.int .i64 c.one.tag,.bool c.two.on,.int .i64 c.two.frame,.int .i64 c.two.tag,.int .i64 (c.page:Int),.int .i64 c.acc,oO],99⟩::(he1++hd1++hr1)) ?_
  refine dV ?_
  refine aN (b:=R) (tb:=50) (cs:=#[.int .i64 0,.int .i64 0,.int .i64 0,.bool false,.int .i64 0]) (cs':=#[.int .i64 Y.f.kind,.int .i64 Y.f.stage,.int .i64 Y.f.level,.bool true,.int .i64 Y.f.page]) (hp':=⟨F,#[.int .i64 Y.f.kind,.int .i64 Y.f.stage,.int .i64 Y.f.level,.bool true,.int .i64 Y.f.page],50⟩::⟨HB,#[.int .i64 H.frame,.int .i64 H.mid,.bool H.r,.bool H.w,.bool H.x,.bool H.af,.bool H.ng,.int .i64 H.soft,.int .i64 H.level],48⟩::⟨Wb,#[.slice p c.ws.length cap,ev1,qC,.int .i64 c.pk.cpu,.bool c.pk.fill,.bool c.pk.aP,.bool c.pk.walk,.int .i64 c.pk.drop,.bool c.pk.use,.bool c.one.on,.int .i64 c.one.frame,.int .i64 c.one.tag,.bool c.two.on,.int .i64 c.two.frame,.int .i64 c.two.tag,.int .i64 (c.page:Int),.int .i64 c.acc,oO],99⟩::(he1++hd1++hr1)) ?_ az
  refine bf ?_
  refine dY ?_
  refine run ?_
  exact yD (cs:=#[.int .i64 Y.f.kind,.int .i64 Y.f.stage,.int .i64 Y.f.level,.bool true,.int .i64 Y.f.page]) ⟨0,_,_,_,he1,hd1,hr1,rfl,fun h0=>absurd h0 Vg,h11,h21,h31,by (exact ak)⟩
 ·rw [hc,cond_false]
  obtain ⟨Rj,Rk,TQ⟩:=SV Vg
  rw [show decide (0<level)=decide ((0:Int)<(level:Int)) by rw [Bool.eq_iff_iff];simp]
  refine aG ?_
  obtain ⟨es',hes⟩:∃ es',es'=(bif decide ((0:Int)<(level:Int)) && c.pk.walk then iI Y.s.es (sF c level Y.n) else Y.s.es):=⟨_,rfl⟩
  rw [← hes]
  dsimp only
  have hle3:jr (level - 1)=3 * (4 - level)∨level=0:=by unfold jr;omega
  refine fZ (σ:=Value × Value × Hp × Hp) (fun _=>[]) (fun z=>⟨F,#[.int .i64 Y.f.kind,.int .i64 Y.f.stage,.int .i64 Y.f.level,.bool Y.f.walk,.int .i64 Y.f.page],50⟩::⟨HB,#[.int .i64 H.frame,.int .i64 H.mid,.bool H.r,.bool H.w,.bool H.x,.bool H.af,.bool H.ng,.int .i64 H.soft,.int .i64 H.level],48⟩::⟨R,#[.int .i64 0,.int .i64 0,.int .i64 0,.bool false,.int .i64 0],50⟩::⟨Wb,#[.slice p c.ws.length cap,z.1,z.2.1,.int .i64 c.pk.cpu,.bool c.pk.fill,.bool c.pk.aP,.bool c.pk.walk,.int .i64 c.pk.drop,.bool c.pk.use,.bool c.one.on,.int .i64 c.one.frame,.int .i64 c.one.tag,.bool c.two.on,.int .i64 c.two.frame,.int .i64 c.two.tag,.int .i64 (c.page:Int),.int .i64 c.acc,oO],99⟩::(z.2.2.1++z.2.2.2++hr1)) (fun z=>Own 81 14 z.1 z.2.2.1 (es'.map cu)∧Own 109 4 z.2.1 z.2.2.2 (ds.map iw)) ?_ ?_
  ·refine ah _ rfl (fun hc3=>?_) (fun hc3=>?_)
   ·rw [hc3,cond_true] at hes
    subst hes
    rw [Bool.and_eq_true] at hc3
    have hl0:0<level:=by have:=of_decide_eq_true hc3.1;omega
    have hb:(3 * (4 - (level:Int)):Int)=((3 * (4 - level):Nat):Int):=by omega
    have Ul:=hk.page
    have hcut:((c.page >>> (3 * (4 - level))) <<< (3 * (4 - level)):Nat)=iq (level - 1) c.page:=by
     have h2:ay (level - 1)=2 ^ (3 * (4 - level)):=by
      unfold ay jr
      rw [Nat.one_shiftLeft,show 3 * (3 - (level - 1))=3 * (4 - level) by omega]
     unfold iq
     rw [h2,Nat.shiftRight_eq_div_pow,Nat.shiftLeft_eq]
     have:=Nat.div_add_mod c.page (2 ^ (3 * (4 - level)))
     rw [Nat.mul_comm] at this
     omega
    have hcl:=IC (level - 1) c.page
    refine run ?_
    refine ja 23 ?_
    refine gp ?_
    refine A7 (Hw rfl rfl c.page (3 * (4 - level)) rfl hb Uz) ?_
    refine gp ?_
    refine A7 (uP rfl rfl (c.page >>> (3 * (4 - level))) (3 * (4 - level)) rfl hb Uz (by rw [hcut];omega)) ?_
    rw [hcut]
    refine gp ?_
    have hmay:=zL hk hl0 hlv (n:=H.frame) (by rw [hH1];exact Rj)
    refine kR (⟨Wb,#[.slice p c.ws.length cap,ev1,qC,.int .i64 c.pk.cpu,.bool c.pk.fill,.bool c.pk.aP,.bool c.pk.walk,.int .i64 c.pk.drop,.bool c.pk.use,.bool c.one.on,.int .i64 c.one.frame,.int .i64 c.one.tag,.bool c.two.on,.int .i64 c.two.frame,.int .i64 c.two.tag,.int .i64 (c.page:Int),.int .i64 c.acc,oO],99⟩::(he1++hd1++hr1)) (⟨F,#[.int .i64 Y.f.kind,.int .i64 Y.f.stage,.int .i64 Y.f.level,.bool Y.f.walk,.int .i64 Y.f.page],50⟩::⟨HB,#[.int .i64 H.frame,.int .i64 H.mid,.bool H.r,.bool H.w,.bool H.x,.bool H.af,.bool H.ng,.int .i64 H.soft,.int .i64 H.level],48⟩::⟨R,#[.int .i64 0,.int .i64 0,.int .i64 0,.bool false,.int .i64 0],50⟩::[]) (fun wc hG=>vG c Y.s.es ds hMs.es.FI (sF c level H.frame) hmay ⟨_,_,_,rfl⟩ ⟨_,_,_,h31.opened.choose_spec.choose_spec⟩ h11 h21 hG.jK) ?_ az
    rintro u7 SS ⟨MB,Qc,Qd,hd7,rfl,h17,h27,zT⟩
    simp only [nV] at zT
    rw [hH1] at h17
    refine run ?_
    exact eY (MB,Qc,Qd,hd7) ⟨h17,h27⟩ (h2:=by (exact cnt1 zT))
   ·rw [hc3,cond_false] at hes
    subst hes
    refine run ?_
    exact eY (ev1,qC,he1,hd1) ⟨h11,h21⟩ (h2:=by (exact ak))
  rintro ⟨vK,Ae,he2,hd2⟩ ⟨h1',I5⟩
  dsimp only at h1' I5 ⊢
  refine run ?_
  refine jO 6 ?_
  refine jO 7 ?_
  refine eG 7 6 [0,1,2,3,4,5] [6] (⟨F,#[.int .i64 Y.f.kind,.int .i64 Y.f.stage,.int .i64 Y.f.level,.bool Y.f.walk,.int .i64 Y.f.page],50⟩::⟨HB,#[.int .i64 H.frame,.int .i64 H.mid,.bool H.r,.bool H.w,.bool H.x,.bool H.af,.bool H.ng,.int .i64 H.soft,.int .i64 H.level],48⟩::⟨Wb,#[.slice p c.ws.length cap,vK,Ae,.int .i64 c.pk.cpu,.bool c.pk.fill,.bool c.pk.aP,.bool c.pk.walk,.int .i64 c.pk.drop,.bool c.pk.use,.bool c.one.on,.int .i64 c.one.frame,.int .i64 c.one.tag,.bool c.two.on,.int .i64 c.two.frame,.int .i64 c.two.tag,.int .i64 (c.page:Int),.int .i64 c.acc,oO],99⟩::(he2++hd2++hr1)) ?_
  refine dV ?_
  refine aN (b:=R) (tb:=50) (cs:=#[.int .i64 0,.int .i64 0,.int .i64 0,.bool false,.int .i64 0]) (cs':=#[.int .i64 Y.f.kind,.int .i64 Y.f.stage,.int .i64 Y.f.level,.bool Y.f.walk,.int .i64 Y.f.page]) (hp':=⟨F,#[.int .i64 Y.f.kind,.int .i64 Y.f.stage,.int .i64 Y.f.level,.bool Y.f.walk,.int .i64 Y.f.page],50⟩::⟨HB,#[.int .i64 H.frame,.int .i64 H.mid,.bool H.r,.bool H.w,.bool H.x,.bool H.af,.bool H.ng,.int .i64 H.soft,.int .i64 H.level],48⟩::⟨Wb,#[.slice p c.ws.length cap,vK,Ae,.int .i64 c.pk.cpu,.bool c.pk.fill,.bool c.pk.aP,.bool c.pk.walk,.int .i64 c.pk.drop,.bool c.pk.use,.bool c.one.on,.int .i64 c.one.frame,.int .i64 c.one.tag,.bool c.two.on,.int .i64 c.two.frame,.int .i64 c.two.tag,.int .i64 (c.page:Int),.int .i64 c.acc,oO],99⟩::(he2++hd2++hr1)) ?_ az
  refine bf ?_
  refine dY ?_
  refine run ?_
  refine yD (v:=.int .i64 H.frame) (v1:=.int .i64 (level:Int)) (cs:=#[.int .i64 Y.f.kind,.int .i64 Y.f.stage,.int .i64 Y.f.level,.bool Y.f.walk,.int .i64 Y.f.page]) ?_
  exact ⟨level,_,_,_,he2,hd2,hr1,by rw [hH1,← Rk],fun _=>rfl,h1',I5,h31,by (exact ak)⟩
end
section
theorem I7 {P:Program} {n:Nat} {w0:World} {mu:List Nat} {all:Array Oper} {lf:Fm} {hp hp':Hp} {o:Oper} {v:Value} (h:lg P n w0 mu all lf hp o v) (hp2:hp.Perm hp'):lg P n w0 mu all lf hp' o v:=by
 have go:∀ {u:Value},Hy P n w0 mu lf hp o u→Hy P n w0 mu lf hp' o u:=fun hy a w hk hG K Q hK=>hy a w hk (hG.perm hp2) K Q fun w' hG'=>hK w' (hG'.perm hp2.symm)
 unfold lg at h ⊢
 cases hg:o.guard with
 | none=>rw [hg] at h;exact go h
 | some jw=>
  obtain ⟨j,want⟩:=jw
  rw [hg] at h
  obtain ⟨dj,c0,b,u,h1,h2,h3,h4,h5⟩:=h
  exact ⟨dj,c0,b,u,h1,h2,h3,fun a b=>go (h4 a b),h5⟩
def Qy (P:Program) (n:Nat) (w0:World) (mu:List Nat) (all:Array Oper) (lf:Fm) (hi rest:Hp) (o:Oper) (R:RT):Prop:=
 (∀ a,Knows n lf a→Region.wanted o (yielded all a.tmps)=true)∧∀ a w hx,Knows n lf a→Good w0 mu (hx++(hi++rest)) w→∀ (K:Act→World→Prop) (Q:Exit→Act→World→Prop),(∀ v hn w',R v hn→Good w0 mu (hn++(hx++rest)) w'→K (a.put o.dst v) w')→o.wp P a w K Q
def hbW (i0:Nat) (hi rest:Hp) (listed:Array Bool):Hp:=bif listed.getD i0 false then rest else hi++rest
def qx (P:Program) (n:Nat) (w0:World) (mu:List Nat) (all:Array Oper) (ds:List (Nat × Nat)) (l:Fm) (i0:Nat) (hi rest:Hp) (iv:Fm) (X:List (Nat × RT)→Prop):List Nat→List (Nat × RT)→Prop
 | [],Rs=>X Rs
 | i::E,Rs=>∃ o R,all[i]?=some o∧((i ≠ i0→xC P n w0 mu all (au ds iv o.after.toList++l) rest o R)∧(i=i0→Qy P n w0 mu all (au ds iv o.after.toList++l) hi rest o R))∧(∃ v hn,R v hn)∧qx P n w0 mu all ds l i0 hi rest iv X E ((i,R)::Rs)
section
variable {P : Program} {n : Nat} {w0 : World} {mu : List Nat} {l : Fm} {hi rest : Hp} {i0 : Nat} {Q : Exit → Fm → Hp → Prop} {all : Array Oper} {kd : Nat → Kd} {val : Ch → Nat → Value} {k : Nat} {ds : List (Nat × Nat)}
theorem EN {iv:Fm} {X Y:List (Nat × RT)→Prop}:∀ (E:List Nat) (Rs:List (Nat × RT)) (GL:∀ CG,CG.map (·.1)=E.reverse++Rs.map (·.1)→X CG→Y CG),qx P n w0 mu all ds l i0 hi rest iv X E Rs→qx P n w0 mu all ds l i0 hi rest iv Y E Rs:=by
 intro E
 induction E with
 | nil=>intro Rs GL h;exact GL Rs UC h
 | cons i E ih=>
  rintro Rs GL ⟨o,R,ho,hy,hn,h⟩
  exact ⟨o,R,ho,hy,hn,ih _ (fun CG e=>GL CG (by rw [e];simp)) h⟩
theorem I8 {iv:Fm} {X:List (Nat × RT)→Prop}:∀ (E:List Nat) (Rs:List (Nat × RT)),E.Nodup→(∀ i∈E,lk Rs i=none)→qx P n w0 mu all ds l i0 hi rest iv X E Rs →
  (∀ i R,(i,R)∈Rs→lk Rs i=some R∧∃ o,all[i]?=some o∧((i ≠ i0→xC P n w0 mu all (au ds iv o.after.toList++l) rest o R)∧(i=i0→Qy P n w0 mu all (au ds iv o.after.toList++l) hi rest o R))∧∃ v hn,R v hn) →
  ∃ RE,X RE∧(∀ i,(∃ R,lk RE i=some R)↔i∈E∨∃ R,lk Rs i=some R)∧∀ i R,(i,R)∈RE→lk RE i=some R∧∃ o,all[i]?=some o∧((i ≠ i0→xC P n w0 mu all (au ds iv o.after.toList++l) rest o R)∧(i=i0→Qy P n w0 mu all (au ds iv o.after.toList++l) hi rest o R))∧∃ v hn,R v hn:=by
 intro E
 induction E with
 | nil=>intro Rs _ _ h hs;exact ⟨Rs,h,fun i=>by simp,hs⟩
 | cons i E ih=>
  rintro Rs hnd hno ⟨o,R,ho,hy,xI,h⟩ hs
  rw [List.nodup_cons] at hnd
  have hi:=hno i (List.mem_cons_self ..)
  obtain ⟨RE,hX,hk,hs2⟩:=ih ((i,R)::Rs) hnd.2 (fun j hj=>by rw [bF,if_neg U1];exact hno j (List.mem_cons_of_mem _ hj)) h (fun j R' hj=>by
   rcases List.mem_cons.1 hj with hj | hj
   ·cases hj
    exact ⟨by rw [bF,if_pos rfl],o,ho,hy,xI⟩
   ·obtain ⟨h1,h2⟩:=hs j R' hj
    refine ⟨?_,h2⟩
    rw [bF]
    by_cases hij:i=j
    ·subst hij;rw [hi] at h1;cases h1
    ·rw [if_neg hij];exact h1)
  refine ⟨RE,hX,fun j=>?_,hs2⟩
  rw [hk,List.mem_cons,bF]
  by_cases hij:i=j
  ·subst hij;simp
  ·rw [if_neg hij];simp [Ne.symm hij]
theorem BI {ds:List (Nat × Nat)} (hds:∀ k d,lk ds k=some d→aA all k=some d) {g:Nat} {Q':Exit→Act→World→Prop} (hk:k≤all.size) (hd:oq all k n=true) (hf:aS l (dstsOf all k)=true) (hback:jl all=true)
  (gZ:i0<k) (I9:oM (kd i0)=true)
  (hS:∀ i o v,i<k→all[i]?=some o→kd i=.s v→(∀ c,val c i=v)∧∃ aU,(∀ j u,look aU j=some u→j<k∧∀ c,val c j=u)∧∀ hx,lg P n w0 mu all (au ds aU o.after.toList++l) (hx++(hi++rest)) o v)
  (Rl:∀ listed,HeadInv .any all k listed→listed.getD i0 false=true→∀ i v,i<k→kd i=.s v→listed.getD i false=true)
  (hE:∀ i o R,i<k→all[i]?=some o→kd i=.e R→(∀ c,val c i=(c i).1)∧∃ aU,(∀ j u,look aU j=some u→j<k∧∀ c,val c j=u)∧(i ≠ i0→xC P n w0 mu all (au ds aU o.after.toList++l) rest o R)∧(i=i0→Qy P n w0 mu all (au ds aU o.after.toList++l) hi rest o R))
  (hD:∀ c,Valid kd k c→∀ i o,i<k→all[i]?=some o→kd i=.d→∃ aU,(∀ j u,look aU j=some u→j<k∧val c j=u)∧vM P n w0 mu (au ds aU o.after.toList++l) [] o (val c i))
  (htail:∀ f c listed,leftOf k listed=f→HeadInv .any all k listed→(∀ i,i<k→oM (kd i)=true→listed.getD i true=true)→∀ a w,oD n w0 mu all l rest kd val k c listed a w→wpAny P .any all Q' (f + g) listed a w)
  (iG:∀ listed,HeadInv .any all k listed→∀ i,i<k→oM (kd i)=true→listed.getD i true=false→∀ t,k≤t→t ∉ Region.ready .any all listed):
  ∀ f c listed a w,leftOf k listed=f→HeadInv .any all k listed→oD n w0 mu all l (hbW i0 hi rest listed) kd val k c listed a w→wpAny P .any all Q' (f + g) listed a w:=by
 intro f
 induction f with
 | zero=>
  intro c listed a w hlf inv hm
  have hall0:∀ i,i<k→listed.getD i true=true:=fun i hi=>by
   cases hc:listed.getD i true with
   | true=>rfl
   | false=>
   exfalso
   have:i∈(List.range k).filter fun i=>!listed.getD i true:=List.mem_filter.2 ⟨List.mem_range.2 hi,by simp only [hc,Bool.not_false]⟩
   have h2:=List.length_pos_of_mem this
   unfold leftOf at hlf
   omega
  have hl0:listed.getD i0 false=true:=by
   cases hc:listed.getD i0 false with
   | true=>rfl
   | false=>have h1:=hall0 i0 gZ;rw [getD_in UF hc] at h1;cases h1
  rw [hbW,hl0] at hm
  exact htail 0 c listed hlf inv (fun i hi _=>hall0 i hi) a w hm
 | succ f ih=>
  intro c listed a w hlf inv hm
  by_cases kU:∀ i,i<k→oM (kd i)=true→listed.getD i true=true
  ·have hl0:listed.getD i0 false=true:=by
    cases hc:listed.getD i0 false with
    | true=>rfl
    | false=>have h1:=kU i0 gZ I9;rw [getD_in UF hc] at h1;cases h1
   rw [hbW,hl0] at hm
   exact htail (f + 1) c listed hlf inv kU a w hm
  obtain ⟨j0,Qe,Rn,hj0⟩:∃ i,i<k∧oM (kd i)=true∧listed.getD i true=false:=by
   refine Classical.byContradiction fun hno=>kU fun i hi he=>?_
   cases hc:listed.getD i true with
   | true=>rfl
   | false=>exact absurd ⟨i,hi,he,hc⟩ hno
  rw [show f + 1 + g=(f + g) + 1 by omega]
  refine ⟨fun hnil=>?_,fun i Ro=>?_⟩
  ·exfalso
   obtain ⟨i,⟨hik,hil⟩,hmin⟩:=exists_least (p:=fun i=>i<k∧listed.getD i true=false) ⟨j0,Qe,hj0⟩
   have hr:i∈Region.ready .any all listed:=by
    rw [mem_ready]
    have hs:i<all.size:=by omega
    refine ⟨hil,all[i],by simp [hs],fun e he hb=>?_⟩
    have hb2:=List.all_eq_true.1 hback i (List.mem_range.2 hs)
    simp only [Array.getElem?_eq_getElem hs] at hb2
    have hb3:=(Array.all_eq_true_iff_forall_mem.1 hb2) e he
    simp only [hb,Bool.not_true,Bool.false_or,Nat.blt_eq] at hb3
    cases hc:listed.getD e.on false with
    | true=>rfl
    | false=>
     have h5:=hmin e.on ⟨by omega,getD_in UF hc⟩
     omega
   rw [hnil] at hr;cases hr
  ·have hik:i<k:=by
    rcases Nat.lt_or_ge i k with h | h
    ·exact h
    ·exact absurd Ro (iG listed inv j0 Qe Rn hj0 i h)
   obtain ⟨hun,o,ho,hall⟩:=mem_ready.1 Ro
   have hsz:i<listed.size:=by rw [inv.size];omega
   have hself:∀ j,j<k→listed.getD j false=true→oM (kd j)=true→c j=c j:=fun _ _ _ _=>rfl
   have hgo:∀ c2 a' w',oD n w0 mu all l (hbW i0 hi rest (listed.setIfInBounds i true)) kd val k c2 (listed.setIfInBounds i true) a' w'→wpAny P .any all Q' (f + g) (listed.setIfInBounds i true) a' w':=fun c2 a' w' h=>
    ih c2 _ _ _ UT (inv.set Ro hik) h
   have rP:Good w0 mu [] w:=hm.good.sub (List.nil_sublist _)
   have hsame:i ≠ i0→hbW i0 hi rest (listed.setIfInBounds i true)=hbW i0 hi rest listed:=fun hne=>by rw [hbW,hbW,getD_set_ne false hne]
   have Lu:∃ x,hbW i0 hi rest listed=x++rest:=by
    rw [hbW];cases listed.getD i0 false with
    | true=>exact ⟨[],rfl⟩
    | false=>exact ⟨hi,rfl⟩
   unfold wpOp
   simp only [ho]
   cases hkd:kd i with
   | s v=>
    obtain ⟨qF,aU,hiv,hy⟩:=hS i o v hik ho hkd
    have hkn:=bJ (i:=i) hds hm hm.valid hself (fun j u hu=>⟨(hiv j u hu).1,(hiv j u hu).2 c⟩) hall
    have hE0:oM (kd i)=false:=by rw [hkd];rfl
    have hne:i ≠ i0:=fun e=>by rw [e,I9] at hE0;cases hE0
    rw [hsame hne] at hgo
    have hnext:∀ w',Good w0 mu (gK kd c listed k++hbW i0 hi rest listed) w'→wpAny P .any all Q' (f + g) (listed.setIfInBounds i true) (a.put o.dst v) w':=fun w' hG'=>
     hgo c _ _ (gm hm ho hik hun hsz hd hf hm.valid (fun _ _=>rfl) (by rw [jD hE0];exact hG') (fun c' _ _=>qF c'))
    obtain ⟨hx,h3,hpx⟩:∃ hx,lg P n w0 mu all (au ds aU o.after.toList++l) hx o v∧hx=gK kd c listed k++hbW i0 hi rest listed:=by
     have ht0:listed.getD i0 false=false:=by
      cases hc:listed.getD i0 false with
      | false=>rfl
      | true=>have:=Rl listed inv hc i v hik hkd;rw [getD_both hun] at this;cases this
     exact ⟨_,hy (gK kd c listed k),by rw [hbW,ht0];rfl⟩
    subst hpx
    unfold lg at h3
    cases hg:o.guard with
    | none=>
     rw [hg] at h3
     rw [if_pos UG]
     exact .inl (h3 a w hkn hm.good _ _ hnext)
    | some jw=>
     obtain ⟨j,want⟩:=jw
     rw [hg] at h3
     obtain ⟨dj,c0,b,u,hj,hb,hdj,hy,hvv⟩:=h3
     have hw:=dO hkn hg hj hb hdj
     cases hc:(c0 && eX b want) with
     | true=>
      rw [hc] at hw hvv
      rw [if_pos hw]
      rw [Bool.and_eq_true] at hc
      rw [show v=u from hvv] at hnext
      exact .inl (hy hc.1 hc.2 a w hkn hm.good _ _ hnext)
     | false=>
      rw [hc] at hw hvv
      rw [if_neg UU]
      rw [show v=undef from hvv] at hnext
      exact hnext w hm.good
   | e R=>
    obtain ⟨qF,aU,hiv,hEr,TR⟩:=hE i o R hik ho hkd
    have hkn:=bJ (i:=i) hds hm hm.valid hself (fun j u hu=>⟨(hiv j u hu).1,(hiv j u hu).2 c⟩) hall
    have hfin:∀ {hb:Hp} (hmb:oD n w0 mu all l hb kd val k c listed a w) (v:Value) (hn:Hp) (w':World),R v hn→Good w0 mu (hn++(gK kd c listed k++hb)) w'→oD n w0 mu all l hb kd val k (fun t=>if t=i then (v,hn) else c t) (listed.setIfInBounds i true) (a.put o.dst v) w':=fun {hb} hmb v hn w' hR hG'=>by
     refine gm hmb ho hik hun hsz hd hf ?_ (fun j hj=>by simp [hj]) ?_ ?_
     ·intro j hj R' hR'
      by_cases hji:j=i
      ·subst hji
       rw [hkd] at hR'
       cases hR'
       simpa using hR
      ·simp only [hji,if_false]
       exact hm.valid j hj R' hR'
     ·refine hG'.perm ?_
      rw [← List.append_assoc]
      exact (uB Vd hun hsz k hik).symm.append_right _
     ·intro c' hc' hag
      rw [qF c',hag i hik (by simp [hsz]) Vd]
      simp
    by_cases hne:i=i0
    ·obtain ⟨hg,hy⟩:=TR hne
     have hl0:listed.getD i0 false=false:=by rw [← hne];exact getD_both hun
     have hb0:hbW i0 hi rest listed=hi++rest:=by rw [hbW,hl0];rfl
     have hb1:hbW i0 hi rest (listed.setIfInBounds i true)=rest:=by
      rw [hbW,← hne,show (listed.setIfInBounds i true).getD i false=true by simp [hsz]];rfl
     rw [hb1] at hgo
     have hgd:=hm.good
     rw [hb0] at hgd
     have hmr:oD n w0 mu all l rest kd val k c listed a w:=⟨hm.size,hm.defers,hm.has,hm.valid,hgd.sub (List.Sublist.append (List.Sublist.refl _) (List.sublist_append_right _ _)),hm.done⟩
     rw [if_pos (hg _ hkn)]
     exact .inl (hy a w _ hkn hgd _ _ fun v hn w' hR hG'=>hgo _ _ _ (hfin hmr v hn w' hR hG'))
    ·obtain ⟨hg,hy⟩:=hEr hne
     rw [hsame hne] at hgo
     obtain ⟨x,hxe⟩:=Lu
     rw [if_pos (hg _ hkn)]
     have hgd:=hm.good
     rw [hxe,← List.append_assoc] at hgd
     exact .inl (hy a w _ hkn hgd _ _ fun v hn w' hR hG'=>hgo _ _ _ (hfin hm v hn w' hR (by rw [hxe];simpa only [List.append_assoc] using hG')))
   | d=>
    obtain ⟨aU,hiv,hg,hy⟩:=hD c hm.valid i o hik ho hkd
    have hE0:oM (kd i)=false:=by rw [hkd];rfl
    have hne:i ≠ i0:=fun e=>by rw [e,I9] at hE0;cases hE0
    rw [hsame hne] at hgo
    have hkn:=bJ (i:=i) hds hm hm.valid hself hiv hall
    have hrun:=hy a w hkn rP
    rw [if_pos UG]
    refine .inl ?_
    unfold Oper.wp
    rw [hrun]
    refine hgo c _ _ (gm hm ho hik hun hsz hd hf hm.valid (fun _ _=>rfl) (by rw [jD hE0];exact hm.good) (fun c' hc' hag=>?_))
    obtain ⟨iH,qM,hg2,hy2⟩:=hD c' hc' i o hik ho hkd
    have hag':∀ j,j<k→listed.getD j false=true→oM (kd j)=true→c' j=c j:=fun j hj hl he=>hag j hj (getD_set_true hl) he
    have hrun2:=hy2 a w (bJ (i:=i) hds hm hc' hag' qM hall) rP
    rw [hrun] at hrun2
    simp only [Result.ok.injEq,Next.value.injEq,and_true] at hrun2
    exact hrun2.symm
def MC (all:Array Oper) (i0:Nat) (S:List Nat):Bool:=S.all fun i=>Region.waitsFor .any all i0 i || S.any fun j=>Nat.blt i j && Region.waitsFor .any all j i
theorem LC {S:List Nat} {listed:Array Bool} (h:MC all i0 S=true) (inv:HeadInv .any all k listed) (h0:listed.getD i0 false=true):∀ i∈S,listed.getD i false=true:=by
 have go:∀ d i,S.foldr max 0<i + d→i∈S→listed.getD i false=true:=by
  intro d
  induction d with
  | zero=>
   intro i hlt hi
   exfalso
   have:∀ (L:List Nat),i∈L→i≤L.foldr max 0:=by
    intro L
    induction L with
    | nil=>intro h;cases h
    | cons x r ih=>
     intro h
     rw [List.foldr_cons]
     rcases List.mem_cons.1 h with rfl | h
     ·exact Nat.le_max_left ..
     ·exact Nat.le_trans (ih h) (Nat.le_max_right ..)
   have:=this S hi
   omega
  | succ d ih=>
   intro i hlt hi
   have h1:=List.all_eq_true.1 h i hi
   rw [Bool.or_eq_true] at h1
   rcases h1 with h1 | h1
   ·obtain ⟨oj,h6,e,he,hb,heq⟩:=Region.waitsFor_spec h1
    rw [← heq]
    exact inv.closed i0 oj h6 h0 e he hb
   ·obtain ⟨j,hj,h2⟩:=List.any_eq_true.1 h1
    rw [Bool.and_eq_true] at h2
    have hij:i<j:=by simpa using h2.1
    have h3:=ih j Uz hj
    obtain ⟨oj,h6,e,he,hb,heq⟩:=Region.waitsFor_spec h2.2
    rw [← heq]
    exact inv.closed j oj h6 h3 e he hb
 exact fun i hi=>go (S.foldr max 0 + 1) i Uz hi
def qy (ops:Array Oper) (n k i0:Nat) (S E D D2 C:List Nat):Bool:=
 match C with
 | []=>false
 | t0::_=>(mem E i0 && MC ops i0 S) && (decide (k≤ops.size) && oq ops k n && lW ops ops.size n && jl ops && lN ops.size (S++E++D++D2) C && jq ops C && (S.all fun j=>Region.waitsFor .any ops t0 j) && (E.all fun j=>Region.waitsFor .any ops t0 j) && (D2++C).all (fun j=>Nat.ble k j) &&
  ((List.range ops.size).all fun i=>(aA ops i).isSome || Nat.beq i t0 || Region.waitsFor .any ops i t0) &&
  ((List.range ops.size).all fun i=>Nat.blt i k || (E.all fun j=>Region.waitsFor .any ops i j) || (List.range ops.size).any fun j=>Nat.ble k j && Region.waitsFor .any ops i j))
end
section
variable {P : Program} {n : Nat} {w0 : World} {mu : List Nat} {l : Fm} {hp : Hp} {Q : Exit → Fm → Hp → Prop} {ds : List (Nat × Nat)}
theorem BJ {ops:List Oper} (k i0:Nat) (hi rest:Hp) (S E D D2 C:List Nat) (hB:qy ops.toArray n k i0 S E D D2 C=true) (hperm:(hi++rest).Perm hp) (hf:aS l (dstsOf ops.toArray ops.toArray.size)=true) (hf1:aS l (dstsOf ops.toArray k)=true) (hsp:splitB k S E D=true) (hds:aY ops 0=ds)
  (h:iK P n w0 mu ops.toArray ds l hp (fun aB=>qx P n w0 mu ops.toArray ds l i0 hi rest aB (fun Rs=>∀ c,vN c Rs→fU P n w0 mu ops.toArray ds l [] (fun Ib=>fU P n w0 mu ops.toArray ds l [] (fun iH=>fD P n w0 mu ops.toArray ds l [] iH (fun aK hc=>Ops P n w0 mu ops.toArray [] (aO ds (aK++iH)++l) hc Q) C [] (qN E c k++rest)) D2 Ib) D (oN c Rs++aB)) E []) S []):iV P n w0 mu ops.toArray l hp Q:=by
 intro a w hk hG
 replace hG:=hG.perm hperm
 simp only [splitB,Bool.and_eq_true,decide_eq_true_eq] at hsp
 obtain ⟨⟨⟨_,hnd⟩,hlt⟩,hcov⟩:=hsp
 have hlt':∀ i∈S++E++D,i<k:=fun i hi=>by have:=List.all_eq_true.1 hlt i hi;simpa using this
 have jZ:∀ i,i<k→i∈S∨i∈E∨i∈D:=fun i hi=>by
  have:=bC (List.all_eq_true.1 hcov i (List.mem_range.2 hi))
  simpa [or_assoc] using this
 rw [List.append_assoc,List.nodup_append] at hnd
 obtain ⟨uC,rQ,LU⟩:=hnd
 rw [List.nodup_append] at rQ
 obtain ⟨uD,AU,Pj⟩:=rQ
 obtain ⟨aB,h2,GG,lV,hsS⟩:=xG S [] uC (fun _ _=>rfl) (fun _ _ h=>by cases h) h (fun i v hv=>by cases hv)
 obtain ⟨Rs,h3,lY,hsE⟩:=I8 E [] uD (fun _ _=>rfl) h2 (fun i R hR=>by cases hR)
 simp only [lk,reduceCtorEq,exists_false,or_false] at lV lY
 have rU:∀ i R,lk Rs i=some R→lk aB i=none:=fun i R hR=>by
  cases hv:lk aB i with
  | none=>rfl
  | some v=>exact absurd rfl (LU i ((lV i).1 ⟨v,hv⟩) i (List.mem_append_left _ ((lY i).1 ⟨R,hR⟩)))
 let kd:Nat→Kd:=fun i=>match lk Rs i with | some R=>.e R | none=>match lk aB i with | some v=>.s v | none=>.d
 have iW:∀ i R,kd i=.e R↔lk Rs i=some R:=fun i R=>by
  show (match lk Rs i with | some R=>Kd.e R | none=>match lk aB i with | some v=>.s v | none=>.d)=_↔_
  cases lk Rs i with
  | some R'=>simp
  | none=>cases lk aB i<;>simp
 have xJ:∀ i v,kd i=.s v→lk Rs i=none∧lk aB i=some v:=fun i v=>by
  show (match lk Rs i with | some R=>Kd.e R | none=>match lk aB i with | some v=>.s v | none=>.d)=_→_
  cases lk Rs i with
  | some R'=>simp
  | none=>cases lk aB i<;>simp
 have GH:∀ i,kd i=.d→lk Rs i=none∧lk aB i=none:=fun i=>by
  show (match lk Rs i with | some R=>Kd.e R | none=>match lk aB i with | some v=>.s v | none=>.d)=_→_
  cases lk Rs i with
  | some R'=>simp
  | none=>cases lk aB i<;>simp
 have yV:∀ i R,lk Rs i=some R→(i,R)∈Rs:=fun i R h=>gB h
 have hvalid:∀ c,Valid kd k c→vN c Rs:=fun c hc=>tu Rs fun p hp=>by
  obtain ⟨i,R⟩:=p
  have h1:=(hsE i R hp).1
  exact hc i (hlt' i (List.mem_append_left _ (List.mem_append_right _ ((lY i).1 ⟨R,h1⟩)))) R ((iW i R).2 h1)
 have hex:∀ c,Valid kd k c→∃ pG,fU P n w0 mu ops.toArray ds l [] (fun iH=>fD P n w0 mu ops.toArray ds l [] iH (fun aK hc=>Ops P n w0 mu ops.toArray [] (aO ds (aK++iH)++l) hc Q) C [] (qN E c k++rest)) D2 pG∧Uq pG∧iU (oN c Rs++aB) pG∧(∀ i,(∃ v,lk pG i=some v)↔i∈D∨∃ v,lk (oN c Rs++aB) i=some v)∧∀ i v,lk pG i=some v→lk (oN c Rs++aB) i=some v∨∃ o aU,ops.toArray[i]?=some o∧iU aU pG∧vM P n w0 mu (au ds aU o.after.toList++l) [] o v:=fun c hc=>
  pF D (oN c Rs++aB) AU (fun i hi=>by
   rw [bG]
   have e1:lk Rs i=none:=by
    cases hR:lk Rs i with
    | none=>rfl
    | some R=>exact absurd rfl (Pj i ((lY i).1 ⟨R,hR⟩) i hi)
   rw [e1]
   cases hv:lk aB i with
   | none=>rfl
   | some v=>exact absurd rfl (LU i ((lV i).1 ⟨v,hv⟩) i (List.mem_append_right _ hi))) (fun i v hv=>by
   rw [bG]
   rcases List.mem_append.1 hv with hv | hv
   ·obtain ⟨rfl,R,hR⟩:=pI Rs hv
    rw [(hsE i R hR).1]
   ·have h1:=GG i v hv
    cases hR:lk Rs i with
    | none=>exact h1
    | some R=>rw [rU i R hR] at h1;cases h1) (fun _ _ h=>h) (h3 c (hvalid c hc)) (fun i v hv=>.inl hv)
 have hch:∃ F:Ch→Fm,∀ c,Valid kd k c→fU P n w0 mu ops.toArray ds l [] (fun iH=>fD P n w0 mu ops.toArray ds l [] iH (fun aK hc=>Ops P n w0 mu ops.toArray [] (aO ds (aK++iH)++l) hc Q) C [] (qN E c k++rest)) D2 (F c)∧Uq (F c)∧iU (oN c Rs++aB) (F c)∧(∀ i,(∃ v,lk (F c) i=some v)↔i∈D∨∃ v,lk (oN c Rs++aB) i=some v)∧∀ i v,lk (F c) i=some v→lk (oN c Rs++aB) i=some v∨∃ o aU,ops.toArray[i]?=some o∧iU aU (F c)∧vM P n w0 mu (au ds aU o.after.toList++l) [] o v:=by
  classical
  refine ⟨fun c=>if hc:Valid kd k c then Classical.choose (hex c hc) else [],fun c hc=>?_⟩
  simp only [hc,dif_pos]
  exact Classical.choose_spec (hex c hc)
 obtain ⟨F,hF⟩:=hch
 let val:Ch→Nat→Value:=fun c i=>match kd i with | .s v=>v | .e _=>(c i).1 | .d=>(lk (F c) i).getD undef
 have mM:∀ c,Valid kd k c→∀ i v,lk (F c) i=some v→val c i=v:=fun c hc i v hv=>by
  obtain ⟨_,_,hmo,_,_⟩:=hF c hc
  show (match kd i with | .s v=>v | .e _=>(c i).1 | .d=>(lk (F c) i).getD undef)=v
  cases hkd:kd i with
  | s u=>
   obtain ⟨e1,e2⟩:=xJ i u hkd
   have:=hmo i u (by rw [bG,e1];exact e2)
   rw [hv] at this;cases this;rfl
  | e R=>
   have e1:=(iW i R).1 hkd
   have:=hmo i (c i).1 (by rw [bG,e1])
   rw [hv] at this;cases this;rfl
  | d=>rw [hv];rfl
 have pJ:∀ c,Valid kd k c→∀ i,i<k→∃ v,lk (F c) i=some v:=fun c hc i hi=>by
  obtain ⟨_,_,_,hkk,_⟩:=hF c hc
  rw [hkk i]
  rcases jZ i hi with h | h | h
  ·obtain ⟨v,hv⟩:=(lV i).2 h
   right
   rw [bG]
   cases lk Rs i with
   | some R=>exact ⟨_,rfl⟩
   | none=>exact ⟨v,hv⟩
  ·obtain ⟨R,hR⟩:=(lY i).2 h
   right
   rw [bG,hR]
   exact ⟨_,rfl⟩
  ·exact .inl h
 have iY:∀ i v,lk aB i=some v→i<k∧∀ c,val c i=v:=fun i v hv=>by
  refine ⟨hlt' i (List.mem_append_left _ (List.mem_append_left _ ((lV i).1 ⟨v,hv⟩))),fun c=>?_⟩
  show (match kd i with | .s v=>v | .e _=>(c i).1 | .d=>(lk (F c) i).getD undef)=v
  have:kd i=.s v:=by
   show (match lk Rs i with | some R=>Kd.e R | none=>match lk aB i with | some v=>.s v | none=>.d)=_
   cases hR:lk Rs i with
   | some R=>rw [rU i R hR] at hv;cases hv
   | none=>rw [hv]
  rw [this]
 cases C with
 | nil=>simp [qy] at hB
 | cons t0 C'=>
 simp only [qy,Bool.and_eq_true,decide_eq_true_eq] at hB
 obtain ⟨⟨OD,Rq⟩,⟨⟨⟨⟨⟨⟨⟨⟨⟨hks,hd⟩,QY⟩,hback⟩,pX⟩,dN⟩,hSt⟩,TJ⟩,hge⟩,oJ⟩,hwt⟩:=hB
 have I9:=bC OD
 have gZ:=hlt' i0 (List.mem_append_left _ (List.mem_append_right _ I9))
 have hSl:∀ listed,HeadInv .any ops.toArray k listed→listed.getD i0 false=true→∀ i∈S,listed.getD i false=true:=fun listed inv h=>LC Rq inv h
 have Qg:∀ listed,HeadInv .any ops.toArray k listed→listed.getD i0 false=true→∀ i v,i<k→kd i=.s v→listed.getD i false=true:=fun listed inv h i v _ hkd=>hSl listed inv h i ((lV i).1 ⟨v,(xJ i v hkd).2⟩)
 simp only [lN,Bool.and_eq_true,decide_eq_true_eq] at pX
 obtain ⟨⟨NU,NV⟩,Ic⟩:=pX
 have Bg:∀ j,j∈D2++t0::C'→k≤j:=fun j hj=>by have:=List.all_eq_true.1 hge j hj;simpa using this
 have jg:∀ i d,lk ds i=some d→aA ops.toArray i=some d:=fun i d h=>by rw [← hds] at h;have:=(fV ops 0 i d h).2;simpa [aA] using this
 have xI:∃ c0:Ch,Valid kd k c0:=by
  have h1:∀ i,∃ x:Value × Hp,∀ R,kd i=.e R→R x.1 x.2:=fun i=>by
   cases hR:lk Rs i with
   | none=>exact ⟨(undef,[]),fun R h=>by rw [(iW i R).1 h] at hR;cases hR⟩
   | some R=>
    obtain ⟨_,o,_,_,v,hn,hv⟩:=hsE i R (yV i R hR)
    exact ⟨(v,hn),fun R' h=>by rw [(iW i R').1 h] at hR;cases hR;exact hv⟩
  exact ⟨fun i=>Classical.choose (h1 i),fun i hi R hR=>Classical.choose_spec (h1 i) R hR⟩
 obtain ⟨c0,hc0⟩:=xI
 have inv0:HeadInv .any ops.toArray k (Array.replicate ops.toArray.size false):=
  ⟨by simp,fun j oj _ hl=>UD,fun t _ ht=>getD_in U7 (getD_replicate_false _ _)⟩
 have hleft:leftOf k (Array.replicate ops.toArray.size false)=k:=by
  unfold leftOf
  rw [List.filter_eq_self.2]
  ·simp
  ·intro i hi
   have hi':i<k:=by simpa using hi
   have:(Array.replicate ops.toArray.size false).getD i true=false:=getD_in U8 (getD_replicate_false _ _)
   simp only [this,Bool.not_false]
 have GI:∀ m,gK kd c0 (Array.replicate ops.toArray.size false) m=[]:=by
  intro m
  induction m with
  | zero=>rfl
  | succ m ih=>simp only [gK,ih,jm,getD_replicate_false,Bool.and_false,cond_false,List.append_nil]
 have qO:∀ i,i<k→oM (kd i)=mem E i:=fun i hi=>by
  cases hkd:kd i with
  | e R=>rw [mem_of ((lY i).1 ⟨R,(iW i R).1 hkd⟩)];rfl
  | s v=>
   cases hmm:mem E i with
   | false=>rfl
   | true=>obtain ⟨R,hR⟩:=(lY i).2 (bC hmm);rw [(iW i R).2 hR] at hkd;cases hkd
  | d=>
   cases hmm:mem E i with
   | false=>rfl
   | true=>obtain ⟨R,hR⟩:=(lY i).2 (bC hmm);rw [(iW i R).2 hR] at hkd;cases hkd
 have key:=BI jg (P:=P) (n:=n) (w0:=w0) (mu:=mu) (l:=l) (hi:=hi) (rest:=rest) (i0:=i0) (all:=ops.toArray) (kd:=kd) (val:=val) (k:=k) (g:=ops.toArray.size - k) (Q':=QQ n w0 mu Q) hks hd hf1 hback gZ (by rw [qO i0 gZ];exact OD)
  (fun i o v hi ho hkd=>by
   obtain ⟨e1,e2⟩:=xJ i v hkd
   obtain ⟨o',aU,h1,h2,h3⟩:=hsS i v e2
   rw [ho] at h1;cases h1
   exact ⟨(iY i v e2).2,aU,fun j u hu=>iY j u (h2 j u UM),fun hx=>I7 (h3 hx) (hperm.symm.append_left _)⟩)
  Qg
  (fun i o R hi ho hkd=>by
   have e1:=(iW i R).1 hkd
   obtain ⟨_,o',h1,h2,_⟩:=hsE i R (yV i R e1)
   rw [ho] at h1;cases h1
   refine ⟨fun c=>?_,aB,fun j u hu=>iY j u UM,h2⟩
   show (match kd i with | .s v=>v | .e _=>(c i).1 | .d=>(lk (F c) i).getD undef)=_
   rw [hkd])
  (fun c hcv i o hi ho hkd=>by
   obtain ⟨e1,e2⟩:=GH i hkd
   obtain ⟨v,hv⟩:=pJ c hcv i hi
   obtain ⟨_,_,_,_,hsp⟩:=hF c hcv
   rw [mM c hcv i v hv]
   rcases hsp i v hv with h0 | ⟨o',aU,h1,h2,h3⟩
   ·rw [bG,e1] at h0;rw [e2] at h0;cases h0
   ·rw [ho] at h1;cases h1
    refine ⟨aU,fun j u hu=>?_,h3⟩
    have hj:=h2 j u UM
    refine ⟨?_,mM c hcv j u hj⟩
    obtain ⟨_,_,_,hkk,_⟩:=hF c hcv
    rcases (hkk j).1 ⟨u,hj⟩ with h | ⟨v',h⟩
    ·exact hlt' j (List.mem_append_right _ h)
    ·rw [bG] at h
     cases hR:lk Rs j with
     | some R=>exact hlt' j (List.mem_append_left _ (List.mem_append_right _ ((lY j).1 ⟨R,hR⟩)))
     | none=>rw [hR] at h;exact (iY j v' h).1)
  (fun f c listed hlf inv kU a w hmid=>?_)
  (fun listed inv i hi hie hun t ht=>?_)
  k c0 _ a { w with drawn:=w.drawn + 1 } hleft inv0 ⟨hk.size,hk.defers,hk.has,hc0,by rw [GI,hbW,getD_replicate_false];exact hG.drawn _,fun i _ hl=>UD⟩
 ·have e:k + (ops.toArray.size - k)=ops.toArray.size:=by omega
  rw [e] at key
  exact key
 ·obtain ⟨hX,Pm,hmo,hkk,hsp1⟩:=hF c hmid.valid
  have NW:∀ i v,lk (F c) i=some v→i<k:=fun i v hv=>by
   rcases (hkk i).1 ⟨v,hv⟩ with h | ⟨v',h⟩
   ·exact hlt' i (List.mem_append_right _ h)
   ·rw [bG] at h
    cases hR:lk Rs i with
    | some R=>exact hlt' i (List.mem_append_left _ (List.mem_append_right _ ((lY i).1 ⟨R,hR⟩)))
    | none=>rw [hR] at h;exact (iY i v' h).1
  have zo:=NU
  rw [List.nodup_append,List.nodup_append] at zo
  obtain ⟨⟨_,Ie,QZ⟩,xR,Q3⟩:=zo
  obtain ⟨iH,hY,hu2,xX,Bh,hsp2⟩:=pF (base:=F c) D2 (F c) Ie (fun i hi=>by
   cases hv:lk (F c) i with
   | none=>rfl
   | some v=>
    have h1:=NW i v hv
    have h2:=Bg i (List.mem_append_left _ hi)
    omega) Pm (fun _ _ h=>h) hX (fun i v hv=>.inl hv)
  have uT:∀ j,k≤j→j<ops.toArray.size→listed.getD j true=false:=fun j h1 h2=>inv.tail j h1 h2
  have uU:∀ i∈(S++E++D++D2)++t0::C',i<ops.toArray.size:=fun i hi=>by have:=List.all_eq_true.1 NV i hi;simpa using this
  have qM:∀ i v,lk iH i=some v→i<ops.toArray.size:=fun i v hv=>by
   rcases (Bh i).1 ⟨v,hv⟩ with h | ⟨v',h⟩
   ·exact uU i (List.mem_append_left _ (List.mem_append_right _ h))
   ·have:=NW i v' h;omega
  have invK:HeadInv .any ops.toArray ops.toArray.size listed:=⟨inv.size,inv.closed,fun t h1 h2=>by omega⟩
  have NY:leftOf ops.toArray.size listed=f + (ops.toArray.size - k):=by rw [rV hks uT,hlf]
  have hbe:∀ m,m≤k→gK kd c listed m=qN E c m:=by
   intro m
   induction m with
   | zero=>intro _;rfl
   | succ m ih=>
    intro hm
    simp only [gK,qN,jm]
    rw [ih Uz,qO m Uz]
    cases hme:mem E m with
    | false=>rfl
    | true=>
     have h1:=kU m Uz (by rw [qO m Uz];exact hme)
     have h2:listed.getD m false=true:=by
      cases hcc:listed.getD m false with
      | true=>rfl
      | false=>rw [getD_in UF hcc] at h1;cases h1
     rw [h2];rfl
  have hgood:Good w0 mu (qN E c k++rest) w:=by rw [← hbe k (Nat.le_refl _)];exact hmid.good
  have Ig:l7 n w0 mu ops.toArray l iH [] (qN E c k++rest) listed a w:=by
   refine ⟨hmid.size,hmid.defers,hmid.has,hgood,fun i v hv hl d hdd=>?_,fun i v hv=>by cases hv⟩
   have hik:i<k:=by
    rcases Nat.lt_or_ge i k with h | h
    ·exact h
    ·have h1:=uT i h (qM i v hv)
     rw [getD_both h1] at hl;cases hl
   obtain ⟨v',hv'⟩:=pJ c hmid.valid i hik
   have h1:=xX i v' hv'
   rw [hv] at h1;cases h1
   rw [hmid.done i hik hl c hmid.valid (fun _ _ _ _=>rfl) d hdd]
   exact mM c hmid.valid i v hv'
  have NZ:=uS jg (P:=P) (n:=n) (w0:=w0) (mu:=mu) (l:=l) (hp:=rest) (h0:=[]) (all:=ops.toArray) (aB:=iH) (k:=ops.toArray.size) (t0:=t0) (g:=0) (Q':=QQ n w0 mu Q) (X:=fun aK hc=>Ops P n w0 mu ops.toArray [] (aO ds (aK++iH)++l) hc Q) (dn:=fun i=>mem E i || mem S i) (Nat.le_refl _) QY hf hback (dQ fun b=>by simp [jU])
   (fun i hi hdn=>by
    have:=List.all_eq_true.1 oJ i (List.mem_range.2 hi)
    rw [hdn] at this
    simp only [Option.isSome_none,Bool.false_or,Bool.or_eq_true] at this
    rcases this with h | h
    ·exact .inl (Nat.eq_of_beq_eq_true h)
    ·exact .inr h)
   (fun i v hv=>⟨qM i v hv,fun hne=>?_⟩)
   (fun aK h listed inv hall hX a w hmid hEk=>?_)
   (fun listed inv i hi hun t ht hr=>by
    obtain ⟨_,o,ho,_⟩:=mem_ready.1 hr
    have:=(Array.getElem?_eq_some_iff.1 ho).1
    omega)
   (f + (ops.toArray.size - k)) (t0::C') [] (qN E c k++rest) listed a w NY invK (fun i hi=>by
    simp only [Bool.or_eq_true] at hi
    rcases hi with hi | hi
    ·exact kU i (hlt' i (List.mem_append_left _ (List.mem_append_right _ (bC hi)))) UY
    ·have hl0:=kU i0 gZ (by rw [qO i0 gZ];exact OD)
     have hl1:listed.getD i0 false=true:=by
      cases hcc:listed.getD i0 false with
      | true=>rfl
      | false=>rw [getD_in UF hcc] at hl0;cases hl0
     have h7:=hSl listed inv hl1 i (bC hi)
     cases hcc:listed.getD i true with
     | true=>rfl
     | false=>rw [getD_both hcc] at h7;cases h7) Ig (fun i v hv=>by cases hv)
   (fun i hi=>⟨uU i (List.mem_append_right _ hi),uT i (Bg i (List.mem_append_right _ hi)) (uU i (List.mem_append_right _ hi)),?_⟩) xR dN (fun i hi hl=>?_) (dQ fun b=>by simp [jU]) (fun _=>aI.right _ _) hY
  ·exact NZ
  ·rcases hsp2 i v hv with h0 | ⟨o,aU,h1,h2,h3⟩
   ·rcases hsp1 i v h0 with h0 | ⟨o,aU,h1,h2,h3⟩
    ·rw [bG] at h0
     cases hR:lk Rs i with
     | some R=>
      simp only [mem_of ((lY i).1 ⟨R,hR⟩),Bool.true_or] at hne;cases hne
     | none=>
      rw [hR] at h0
      obtain ⟨o,aU,h1,h2,h3⟩:=hsS i v h0
      refine ⟨o,aU,h1,fun j u hu=>?_,fun hx=>?_⟩
      ·refine xX j u (hmo j u ?_)
       have h4:=h2 j u hu
       rw [bG]
       cases hR2:lk Rs j with
       | some R2=>rw [rU j R2 hR2] at h4;cases h4
       | none=>exact h4
      ·simp only [mem_of ((lV i).1 ⟨v,h0⟩),Bool.or_true] at hne;cases hne
    ·exact ⟨o,aU,h1,fun j u hu=>xX j u (h2 j u hu),fun hx=>CY h3⟩
   ·exact ⟨o,aU,h1,h2,fun hx=>CY h3⟩
  ·have lS:Knows n (aO ds (aK++iH)++l) a:=by
    refine ⟨hmid.size,hmid.defers,fun t v ht=>?_⟩
    rcases bI ht with ht | ⟨_,ht⟩
    ·obtain ⟨j,h1,h2⟩:=eP (dF ht)
     rcases List.mem_append.1 h1 with h1 | h1
     ·exact (hmid.jP j v h1).2 t (jg _ _ h2)
     ·have hj:=hu2 j v h1
      have hjk:=qM j v hj
      refine hmid.lX j v hj ?_ t (jg _ _ h2)
      have h5:=hall j hjk
      cases hcc:listed.getD j false with
      | true=>rfl
      | false=>rw [getD_in UF hcc] at h5;cases h5
    ·exact hmid.has t v ht
   refine ⟨?_,hX a w lS hmid.good⟩
   rw [List.eq_nil_iff_forall_not_mem]
   intro i hi
   obtain ⟨hun,o,ho,_⟩:=mem_ready.1 hi
   rw [hall i (Array.getElem?_eq_some_iff.1 ho).1] at hun;cases hun
  ·cases hv:lk iH i with
   | none=>rfl
   | some v=>
    exfalso
    have h2:=Bg i (List.mem_append_right _ hi)
    rcases (Bh i).1 ⟨v,hv⟩ with h | ⟨v',h⟩
    ·exact Q3 i (List.mem_append_right _ h) i hi rfl
    ·have:=NW i v' h;omega
  ·have h1:=bC (List.all_eq_true.1 Ic i (List.mem_range.2 hi))
   rcases List.mem_append.1 h1 with h1 | h1
   ·left
    rcases List.mem_append.1 h1 with h1 | h1
    ·obtain ⟨v,hv⟩:=pJ c hmid.valid i (hlt' i h1)
     exact ⟨v,xX i v hv⟩
    ·exact (Bh i).2 (.inl h1)
   ·exact .inr h1
 ·intro hr
  obtain ⟨_,o,ho,hall⟩:=mem_ready.1 hr
  have hts:t<ops.toArray.size:=(Array.getElem?_eq_some_iff.1 ho).1
  have hwl:∀ j,Region.waitsFor .any ops.toArray t j=true→listed.getD j false=true:=fun j hj=>by
   obtain ⟨oj,h6,e,he,hb,heq⟩:=Region.waitsFor_spec hj
   rw [ho] at h6;cases h6
   rw [← heq];exact hall e he hb
  have h1:=List.all_eq_true.1 hwt t (List.mem_range.2 hts)
  simp only [Bool.or_eq_true] at h1
  rcases h1 with (h1 | h1) | h1
  ·have:t<k:=by simpa using h1
   omega
  ·have h2:=hwl i (List.all_eq_true.1 h1 i (bC (by rw [← qO i hi];exact hie)))
   rw [getD_both hun] at h2;cases h2
  ·obtain ⟨j,hj,h2⟩:=List.any_eq_true.1 h1
   rw [Bool.and_eq_true] at h2
   have h3:=hwl j h2.2
   rw [getD_both (inv.tail j (by simpa using h2.1) (List.mem_range.1 hj))] at h3;cases h3
theorem EO {ops:List Oper} (k i0:Nat) (hi rest:Hp) (S E D D2 C:List Nat) (hB:qy ops.toArray n k i0 S E D D2 C=true) (hperm:(hi++rest).Perm hp) (hf:aS l (dstsOf ops.toArray ops.toArray.size)=true) (hf1:aS l (dstsOf ops.toArray k)=true) (hsp:splitB k S E D=true) (hds:aY ops 0=ds)
  (h:iK P n w0 mu ops.toArray ds l hp (fun aB=>qx P n w0 mu ops.toArray ds l i0 hi rest aB (fun Rs=>DN (fun iv bl=>fU P n w0 mu ops.toArray ds l [] (fun Ib=>fU P n w0 mu ops.toArray ds l [] (fun iH=>fD P n w0 mu ops.toArray ds l [] iH (fun aK hc=>Ops P n w0 mu ops.toArray [] (aO ds (aK++iH)++l) hc Q) C [] (bl++rest)) D2 Ib) D (iv++aB)) Rs) E []) S []):iV P n w0 mu ops.toArray l hp Q:=by
 refine BJ k i0 hi rest S E D D2 C hB hperm hf hf1 hsp hds (uF (fun aB h2=>EN E [] (fun Rs e h3 c hc=>?_) h2) S [] h)
 have:=JW Rs _ c h3 hc
 have he:qN E c k=AV c (Rs.map (·.1)):=by
  simp only [splitB,Bool.and_eq_true,decide_eq_true_eq] at hsp
  rw [xK,← hsp.1.1.1,e];simp
 rw [he]
 exact this
end
section
variable {n : Nat} {w0 : World} {mu : List Nat} {l : Fm} {hp : Hp} {Q : Exit → Fm → Hp → Prop} {ds : List (Nat × Nat)}
theorem Ja {id:Nat} {ops:List Oper} (k i0:Nat) (hi rest:Hp) (S E D D2 C:List Nat) (h:iK Tryz.prog n w0 mu ops.toArray ds l hp (fun aB=>qx Tryz.prog n w0 mu ops.toArray ds l i0 hi rest aB (fun Rs=>DN (fun iv bl=>fU Tryz.prog n w0 mu ops.toArray ds l [] (fun Ib=>fU Tryz.prog n w0 mu ops.toArray ds l [] (fun iH=>fD Tryz.prog n w0 mu ops.toArray ds l [] iH (fun aK hc=>Ops Tryz.prog n w0 mu ops.toArray [] (aO ds (aK++iH)++l) hc Q) C [] (bl++rest)) D2 Ib) D (iv++aB)) Rs) E []) S [])
  (hds:aY ops 0=ds:=by (simp only [aY,Nat.reduceAdd,Nat.zero_add];rfl)) (hm:Tryz.prog.follows .mixedOrders=true:=by kernel_rfl) (hperm:(hi++rest).Perm hp:=by (exact az)) (hB:qy ops.toArray n k i0 S E D D2 C=true:=by decide +kernel) (hf:aS l (dstsOf ops.toArray ops.toArray.size)=true:=by rfl) (hf1:aS l (dstsOf ops.toArray k)=true:=by rfl) (hsp:splitB k S E D=true:=by decide +kernel):St Tryz.prog n w0 mu (.region id ops.toArray true) l hp Q:=
 oH hm (EO k i0 hi rest S E D D2 C hB hperm hf hf1 hsp hds h)
theorem OE {all:Array Oper} {i0 i:Nat} {hi rest:Hp} {iv:Fm} {X:List (Nat × RT)→Prop} {E:List Nat} {Rs:List (Nat × RT)} (h:iE Tryz.prog n w0 mu all ds l rest iv (fun CG=>qx Tryz.prog n w0 mu all ds l i0 hi rest iv X E CG) [i] Rs) (hne:Nat.beq i i0=false:=by rfl):qx Tryz.prog n w0 mu all ds l i0 hi rest iv X (i::E) Rs:=by
 obtain ⟨o,R,ho,hy,hn,h⟩:=h
 have hne':i ≠ i0:=fun e=>by rw [e,beq_iff.2 rfl] at hne;cases hne
 exact ⟨o,R,ho,⟨fun _=>hy,fun e=>absurd e hne'⟩,hn,h⟩
theorem yE {all:Array Oper} {i0 i d:Nat} {ty:TypeId} {pos:String} {af:Array Edge} {hi rest:Hp} {iv:Fm} {X:List (Nat × RT)→Prop} {E:List Nat} {Rs:List (Nat × RT)} {t:TypeId} {z:Value} {cs:List Value} (h:qx Tryz.prog n w0 mu all ds l i0 hi rest iv X E ((i,fun v hn=>∃ b,v=.pointer (some ⟨b,0,none⟩)∧hn=[⟨b,cs.toArray,t⟩])::Rs)) (hne:Nat.beq i i0=false:=by rfl) (ho:all[i]?=some ⟨some d,.alloc t,ty,pos,af,none⟩:=by rfl) (hz:lk Tb.zs t=some z:=by rfl) (hc:z.cells=cs.toArray:=by (first | ((simp only [Value.cells])<;>rfl) | rfl)):qx Tryz.prog n w0 mu all ds l i0 hi rest iv X (i::E) Rs:=
 OE (kL (kM h) ho hz hc) hne
theorem Qh {all:Array Oper} {i0:Nat} {hi rest:Hp} {iv:Fm} {X:List (Nat × RT)→Prop} {Rs:List (Nat × RT)} (h:X Rs):qx Tryz.prog n w0 mu all ds l i0 hi rest iv X [] Rs:=h
theorem MF {all:Array Oper} {i d:Nat} {ty:TypeId} {pos:String} {af:Array Edge} {hi rest:Hp} {iv:Fm} {X:List (Nat × RT)→Prop} {E:List Nat} {Rs:List (Nat × RT)} {f:FuncId} {xs:List Operand} {vs:List Value} {tys:Array TypeId} {R:RT} (hc:∀ w,Good w0 mu (hi++rest) w→Fn Tryz.prog f vs.toArray w (hi.map (·.b)) R) (hn:∃ v hn,R v hn) (h:qx Tryz.prog n w0 mu all ds l i hi rest iv X E ((i,R)::Rs))
  (ho:all[i]?=some ⟨some d,.call { callee:=.value (.func f),args:=xs.toArray,argTypes:=tys },ty,pos,af,none⟩:=by rfl) (bY:mem jT f=true:=by rfl) (hv:evs (au ds iv af.toList++l) xs=some vs:=by rfl):qx Tryz.prog n w0 mu all ds l i hi rest iv X (i::E) Rs:=by
 refine ⟨_,R,ho,⟨fun e=>absurd rfl e,fun _=>⟨fun a _=>by simp [Region.wanted],fun a w hx hk hG K Q hK=>?_⟩⟩,hn,h⟩
 obtain ⟨fn,c,hf,hname,hb⟩:=di f bY
 unfold Oper.wp
 rw [mF rfl hf hname hb hk hv w]
 refine Calls.mono (hc w (hG.sub (List.sublist_append_right _ _))) ?_
 rintro e w' ⟨u,hn,rfl,hg',hR⟩
 have hG2:Good w0 mu (hi++(hx++rest)) w:=hG.perm (by rw [← List.append_assoc,← List.append_assoc];exact List.Perm.append_right _ List.perm_append_comm)
 exact hK u hn w' hR (hG2.FN hg')
end
end
section
attribute [local irreducible] Hy St Ops DH fE iK iE fU DS fD lZ
theorem Jb (c:gX) (hk:jX c) (cap:Nat) (hcc:c.ws.length≤cap) {p:Option Addr} {w:World} {Wb:Nat} {ev dv rv:Value} {he hd hr:Hp} (s:kZ) (ds:List eH) (hE:gG c.ws.length s.es ds)  (ha:PtD.bH c.acc 0 2=true) (level:Nat) (hl:level<4) (d:DsD) (hmay:d.may 1 level=true) (hk2:d.kind=2) (hrl:s.rd.length<90000)
  (hm:bT w (Wb::(he++hd++hr).map (·.b)) (.slice p c.ws.length cap) 1 (c.ws.map uV)) (h1:Own 81 14 ev he (s.es.map cu)) (h2:Own 109 4 dv hd (ds.map iw)) (h3:Own 3 1 rv hr (s.rd.map dH)) (hN:jb (⟨Wb,nV c (.slice p c.ws.length cap) ev dv rv,99⟩::(he++hd++hr)) w):
  Fn Tryz.prog 121 [.pointer (some ⟨Wb,0,none⟩),FH d,.int .i64 (level:Int)].toArray w (Wb::(he++hd++hr).map (·.b)) (fun u hn=>∃ (H:gQ) (X:OW) (ev' uk rv':Value) (he' hd' hr':Hp),X=(bif !decide ((bP d.r d.w d.x d.af c.acc 1 level c.page).kind=0) then ⟨s,0,zH,bP d.r d.w d.x d.af c.acc 1 level c.page⟩ else bV c s (bQ c level d) c.acc)∧u=.tuple #[Iw H,yj X.f]∧H.frame=X.n∧(X.f.kind=0→H.mid=(bQ c level d:Int)∧H.soft=0∧(⟨H.r,H.w,H.x,H.af,H.ng⟩:AtD)=iJ ⟨d.r,d.w,d.x,d.af,d.ng⟩ X.a)∧Own 81 14 ev' he' (X.s.es.map cu)∧Own 109 4 uk hd' (ds.map iw)∧Own 3 1 rv' hr' (X.s.rd.map dH)∧aI (⟨Wb,nV c (.slice p c.ws.length cap) ev' uk rv',99⟩::(he'++hd'++hr')) hn):=by
 simp only [nV] at hN ⊢
 have Ac:=cO hk.mem
 have hem:=hE.may
 obtain ⟨hlf,J7⟩:=nJ hmay hk2 hl c.page
 have hcv:=fP hl
 have hmod:=Nat.mod_lt c.page (show 0<ay level by omega)
 refine kN _ hN Tryz.func121 ?_
 refine run ?_
 intro D R1 R2
 refine run ?_
 refine mY 17 16 [0,1,2,3,4,5,6,7,8,9,10,11,12,13,14] [15] [16] (⟨R2,#[.int .i64 0,.int .i64 0,.int .i64 0,.bool false,.int .i64 0],50⟩::⟨R1,#[.int .i64 0,.int .i64 0,.bool false,.bool false,.bool false,.bool false,.bool false,.int .i64 0,.int .i64 0],48⟩::⟨D,#[.int .i64 d.kind,.int .i64 d.frame,.bool d.r,.bool d.w,.bool d.x,.bool d.af,.bool d.ng,.int .i64 d.soft,.int .i64 d.note],93⟩::⟨Wb,#[.slice p c.ws.length cap,ev,dv,.int .i64 c.pk.cpu,.bool c.pk.fill,.bool c.pk.aP,.bool c.pk.walk,.int .i64 c.pk.drop,.bool c.pk.use,.bool c.one.on,.int .i64 c.one.frame,.int .i64 c.one.tag,.bool c.two.on,.int .i64 c.two.frame,.int .i64 c.two.tag,.int .i64 (c.page:Int),.int .i64 c.acc,rv],99⟩::(he++hd++hr)) ?_
 refine dV ?_
 refine rq (fun wc hx hG=>Dz d.r d.w d.x d.af d.ng d.soft c.acc 1 level c.page ha wc) ?_
 refine dV ?_
 generalize bP d.r d.w d.x d.af c.acc 1 level c.page=G
 refine kL ?_
 refine kM ?_
 rintro _ _ ⟨F,rfl,rfl⟩
 simp only [DN,List.cons_append,List.nil_append,List.append_nil]
 refine aN (b:=F) (tb:=50) (cs:=#[.int .i64 0,.int .i64 0,.int .i64 0,.bool false,.int .i64 0]) (cs':=#[.int .i64 G.kind,.int .i64 G.stage,.int .i64 G.level,.bool G.walk,.int .i64 G.page]) (hp':=⟨R2,#[.int .i64 0,.int .i64 0,.int .i64 0,.bool false,.int .i64 0],50⟩::⟨R1,#[.int .i64 0,.int .i64 0,.bool false,.bool false,.bool false,.bool false,.bool false,.int .i64 0,.int .i64 0],48⟩::⟨D,#[.int .i64 d.kind,.int .i64 d.frame,.bool d.r,.bool d.w,.bool d.x,.bool d.af,.bool d.ng,.int .i64 d.soft,.int .i64 d.note],93⟩::⟨Wb,#[.slice p c.ws.length cap,ev,dv,.int .i64 c.pk.cpu,.bool c.pk.fill,.bool c.pk.aP,.bool c.pk.walk,.int .i64 c.pk.drop,.bool c.pk.use,.bool c.one.on,.int .i64 c.one.frame,.int .i64 c.one.tag,.bool c.two.on,.int .i64 c.two.frame,.int .i64 c.two.tag,.int .i64 (c.page:Int),.int .i64 c.acc,rv],99⟩::(he++hd++hr)) ?_ az
 refine bf ?_
 refine dY ?_
 refine run ?_
 refine ah _ rfl (fun hc=>?_) (fun hc=>?_)
 ·rw [hc,cond_true]
  refine run ?_
  refine eG 4 2 [0,1] [2,3] (⟨F,#[.int .i64 G.kind,.int .i64 G.stage,.int .i64 G.level,.bool G.walk,.int .i64 G.page],50⟩::⟨D,#[.int .i64 d.kind,.int .i64 d.frame,.bool d.r,.bool d.w,.bool d.x,.bool d.af,.bool d.ng,.int .i64 d.soft,.int .i64 d.note],93⟩::⟨Wb,#[.slice p c.ws.length cap,ev,dv,.int .i64 c.pk.cpu,.bool c.pk.fill,.bool c.pk.aP,.bool c.pk.walk,.int .i64 c.pk.drop,.bool c.pk.use,.bool c.one.on,.int .i64 c.one.frame,.int .i64 c.one.tag,.bool c.two.on,.int .i64 c.two.frame,.int .i64 c.two.tag,.int .i64 (c.page:Int),.int .i64 c.acc,rv],99⟩::(he++hd++hr)) ?_
  refine dV ?_
  refine aN (b:=R1) (tb:=48) (cs:=#[.int .i64 0,.int .i64 0,.bool false,.bool false,.bool false,.bool false,.bool false,.int .i64 0,.int .i64 0]) (cs':=#[.int .i64 0,.int .i64 0,.bool false,.bool false,.bool false,.bool false,.bool false,.int .i64 0,.int .i64 0]) (hp':=⟨F,#[.int .i64 G.kind,.int .i64 G.stage,.int .i64 G.level,.bool G.walk,.int .i64 G.page],50⟩::⟨R2,#[.int .i64 0,.int .i64 0,.int .i64 0,.bool false,.int .i64 0],50⟩::⟨D,#[.int .i64 d.kind,.int .i64 d.frame,.bool d.r,.bool d.w,.bool d.x,.bool d.af,.bool d.ng,.int .i64 d.soft,.int .i64 d.note],93⟩::⟨Wb,#[.slice p c.ws.length cap,ev,dv,.int .i64 c.pk.cpu,.bool c.pk.fill,.bool c.pk.aP,.bool c.pk.walk,.int .i64 c.pk.drop,.bool c.pk.use,.bool c.one.on,.int .i64 c.one.frame,.int .i64 c.one.tag,.bool c.two.on,.int .i64 c.two.frame,.int .i64 c.two.tag,.int .i64 (c.page:Int),.int .i64 c.acc,rv],99⟩::(he++hd++hr)) ?_ az
  refine aN (b:=R2) (tb:=50) (cs:=#[.int .i64 0,.int .i64 0,.int .i64 0,.bool false,.int .i64 0]) (cs':=#[.int .i64 G.kind,.int .i64 G.stage,.int .i64 G.level,.bool G.walk,.int .i64 G.page]) (hp':=⟨R1,#[.int .i64 0,.int .i64 0,.bool false,.bool false,.bool false,.bool false,.bool false,.int .i64 0,.int .i64 0],48⟩::⟨F,#[.int .i64 G.kind,.int .i64 G.stage,.int .i64 G.level,.bool G.walk,.int .i64 G.page],50⟩::⟨D,#[.int .i64 d.kind,.int .i64 d.frame,.bool d.r,.bool d.w,.bool d.x,.bool d.af,.bool d.ng,.int .i64 d.soft,.int .i64 d.note],93⟩::⟨Wb,#[.slice p c.ws.length cap,ev,dv,.int .i64 c.pk.cpu,.bool c.pk.fill,.bool c.pk.aP,.bool c.pk.walk,.int .i64 c.pk.drop,.bool c.pk.use,.bool c.one.on,.int .i64 c.one.frame,.int .i64 c.one.tag,.bool c.two.on,.int .i64 c.two.frame,.int .i64 c.two.tag,.int .i64 (c.page:Int),.int .i64 c.acc,rv],99⟩::(he++hd++hr)) ?_ az
  refine bf ?_
  refine dY ?_
  refine run ?_
  exact jk (cs:=#[.int .i64 0,.int .i64 0,.bool false,.bool false,.bool false,.bool false,.bool false,.int .i64 0,.int .i64 0]) (cs2:=#[.int .i64 G.kind,.int .i64 G.stage,.int .i64 G.level,.bool G.walk,.int .i64 G.page]) ⟨⟨0,0,false,false,false,false,false,0,0⟩,_,ev,dv,rv,he,hd,hr,rfl,rfl,rfl,fun h0=>absurd h0 Vg,h1,h2,h3,by (exact ak)⟩
 ·rw [hc,cond_false]
  refine run ?_
  refine ax (fun wc hG=>wK level hl wc) ?_
  refine run ?_
  have hcall:=fun (wc:World) (hG:jb (⟨Wb,#[.slice p c.ws.length cap,ev,dv,.int .i64 c.pk.cpu,.bool c.pk.fill,.bool c.pk.aP,.bool c.pk.walk,.int .i64 c.pk.drop,.bool c.pk.use,.bool c.one.on,.int .i64 c.one.frame,.int .i64 c.one.tag,.bool c.two.on,.int .i64 c.two.frame,.int .i64 c.two.tag,.int .i64 (c.page:Int),.int .i64 c.acc,rv],99⟩::(he++hd++hr)) wc) (hm:bT wc (Wb::(he++hd++hr).map (·.b)) (.slice p c.ws.length cap) 1 (c.ws.map uV))=>yC c hk cap hcc s ds (bQ c level d) hlf c.acc ha hE Uz hm h1 h2 h3 hG
  refine Ja 20 14 (⟨Wb,#[.slice p c.ws.length cap,ev,dv,.int .i64 c.pk.cpu,.bool c.pk.fill,.bool c.pk.aP,.bool c.pk.walk,.int .i64 c.pk.drop,.bool c.pk.use,.bool c.one.on,.int .i64 c.one.frame,.int .i64 c.one.tag,.bool c.two.on,.int .i64 c.two.frame,.int .i64 c.two.tag,.int .i64 (c.page:Int),.int .i64 c.acc,rv],99⟩::(he++hd++hr)) (⟨F,#[.int .i64 G.kind,.int .i64 G.stage,.int .i64 G.level,.bool G.walk,.int .i64 G.page],50⟩::⟨R2,#[.int .i64 0,.int .i64 0,.int .i64 0,.bool false,.int .i64 0],50⟩::⟨R1,#[.int .i64 0,.int .i64 0,.bool false,.bool false,.bool false,.bool false,.bool false,.int .i64 0,.int .i64 0],48⟩::⟨D,#[.int .i64 d.kind,.int .i64 d.frame,.bool d.r,.bool d.w,.bool d.x,.bool d.af,.bool d.ng,.int .i64 d.soft,.int .i64 d.note],93⟩::[]) [0,1,2,3,4,5,6,7,8,9,10,11,12,13] [14,18,19] [15,16,17] [] [20,21] ?_
  refine fJ ?_
  refine fB rfl (fun Nz=>jM rfl rfl c.page (ay level) rfl rfl Uz) ?_
  refine fJ ?_
  rw [show d.frame + ((c.page % ay level:Nat):Int)=((bQ c level d:Nat):Int) by unfold bQ;omega]
  refine MF (fun wc hG=>hcall wc hG.jK (hm.into hG)) (hcall w hN hm).some ?_
  refine yE ?_
  refine yE ?_
  refine Qh ?_
  rintro _ _ ⟨A2,rfl,rfl⟩ _ _ ⟨A1,rfl,rfl⟩ u1 hn1 ⟨H,ev1,qC,oO,he1,hd1,hr1,rfl,⟨hH1,hH2⟩,h11,h21,h31,hle1⟩
  simp only [nV] at hle1
  generalize bV c s (bQ c level d) c.acc=Y at hH1 hH2 h11 h31 ⊢
  refine y8 ?_
  refine dR ?_
  refine dR ?_
  refine lK ?_
  refine lK ?_
  simp only [DN,List.cons_append,List.nil_append,List.append_nil]
  refine aN (b:=A1) (tb:=48) (cs:=#[.int .i64 0,.int .i64 0,.bool false,.bool false,.bool false,.bool false,.bool false,.int .i64 0,.int .i64 0]) (cs':=#[.int .i64 H.frame,.int .i64 H.mid,.bool H.r,.bool H.w,.bool H.x,.bool H.af,.bool H.ng,.int .i64 H.soft,.int .i64 H.level]) (hp':=⟨A2,#[.int .i64 0,.int .i64 0,.int .i64 0,.bool false,.int .i64 0],50⟩::(hn1++[⟨F,#[.int .i64 G.kind,.int .i64 G.stage,.int .i64 G.level,.bool G.walk,.int .i64 G.page],50⟩,⟨R2,#[.int .i64 0,.int .i64 0,.int .i64 0,.bool false,.int .i64 0],50⟩,⟨R1,#[.int .i64 0,.int .i64 0,.bool false,.bool false,.bool false,.bool false,.bool false,.int .i64 0,.int .i64 0],48⟩,⟨D,#[.int .i64 d.kind,.int .i64 d.frame,.bool d.r,.bool d.w,.bool d.x,.bool d.af,.bool d.ng,.int .i64 d.soft,.int .i64 d.note],93⟩])) ?_ az
  refine aN (b:=A2) (tb:=50) (cs:=#[.int .i64 0,.int .i64 0,.int .i64 0,.bool false,.int .i64 0]) (cs':=#[.int .i64 Y.f.kind,.int .i64 Y.f.stage,.int .i64 Y.f.level,.bool Y.f.walk,.int .i64 Y.f.page]) (hp':=⟨A1,#[.int .i64 H.frame,.int .i64 H.mid,.bool H.r,.bool H.w,.bool H.x,.bool H.af,.bool H.ng,.int .i64 H.soft,.int .i64 H.level],48⟩::(hn1++[⟨F,#[.int .i64 G.kind,.int .i64 G.stage,.int .i64 G.level,.bool G.walk,.int .i64 G.page],50⟩,⟨R2,#[.int .i64 0,.int .i64 0,.int .i64 0,.bool false,.int .i64 0],50⟩,⟨R1,#[.int .i64 0,.int .i64 0,.bool false,.bool false,.bool false,.bool false,.bool false,.int .i64 0,.int .i64 0],48⟩,⟨D,#[.int .i64 d.kind,.int .i64 d.frame,.bool d.r,.bool d.w,.bool d.x,.bool d.af,.bool d.ng,.int .i64 d.soft,.int .i64 d.note],93⟩])) ?_ az
  refine bf ?_
  refine dY ?_
  refine aZ (⟨A2,#[.int .i64 Y.f.kind,.int .i64 Y.f.stage,.int .i64 Y.f.level,.bool Y.f.walk,.int .i64 Y.f.page],50⟩::⟨A1,#[.int .i64 H.frame,.int .i64 H.mid,.bool H.r,.bool H.w,.bool H.x,.bool H.af,.bool H.ng,.int .i64 H.soft,.int .i64 H.level],48⟩::⟨R2,#[.int .i64 0,.int .i64 0,.int .i64 0,.bool false,.int .i64 0],50⟩::⟨R1,#[.int .i64 0,.int .i64 0,.bool false,.bool false,.bool false,.bool false,.bool false,.int .i64 0,.int .i64 0],48⟩::⟨D,#[.int .i64 d.kind,.int .i64 d.frame,.bool d.r,.bool d.w,.bool d.x,.bool d.af,.bool d.ng,.int .i64 d.soft,.int .i64 d.note],93⟩::⟨Wb,#[.slice p c.ws.length cap,ev1,qC,.int .i64 c.pk.cpu,.bool c.pk.fill,.bool c.pk.aP,.bool c.pk.walk,.int .i64 c.pk.drop,.bool c.pk.use,.bool c.one.on,.int .i64 c.one.frame,.int .i64 c.one.tag,.bool c.two.on,.int .i64 c.two.frame,.int .i64 c.two.tag,.int .i64 (c.page:Int),.int .i64 c.acc,oO],99⟩::(he1++hd1++hr1)) (cnt1 hle1) ?_
  refine run ?_
  intro Z
  refine ax (fun wc hG=>KY ⟨d.r,d.w,d.x,d.af,d.ng⟩ ⟨H.r,H.w,H.x,H.af,H.ng⟩ d.soft H.soft (dm (xs:=([((⟨d.r,d.w,d.x,d.af,d.ng⟩:AtD),d.soft),((⟨H.r,H.w,H.x,H.af,H.ng⟩:AtD),H.soft)].map Dw)) (hG.here ⟨Z,#[.bool d.r,.bool d.w,.bool d.x,.bool d.af,.bool d.ng,.int .i64 d.soft,.bool H.r,.bool H.w,.bool H.x,.bool H.af,.bool H.ng,.int .i64 H.soft],46⟩ mh) (by simp [Dw]) UC)) ?_
  generalize hB:iJ ⟨d.r,d.w,d.x,d.af,d.ng⟩ ⟨H.r,H.w,H.x,H.af,H.ng⟩=B
  refine run ?_
  refine eG 4 2 [0,1] [2,3] (⟨A1,#[.int .i64 (⟨H.frame,H.mid,B.r,B.w,B.x,B.af,B.ng,0,H.level⟩:gQ).frame,.int .i64 (⟨H.frame,H.mid,B.r,B.w,B.x,B.af,B.ng,0,H.level⟩:gQ).mid,.bool (⟨H.frame,H.mid,B.r,B.w,B.x,B.af,B.ng,0,H.level⟩:gQ).r,.bool (⟨H.frame,H.mid,B.r,B.w,B.x,B.af,B.ng,0,H.level⟩:gQ).w,.bool (⟨H.frame,H.mid,B.r,B.w,B.x,B.af,B.ng,0,H.level⟩:gQ).x,.bool (⟨H.frame,H.mid,B.r,B.w,B.x,B.af,B.ng,0,H.level⟩:gQ).af,.bool (⟨H.frame,H.mid,B.r,B.w,B.x,B.af,B.ng,0,H.level⟩:gQ).ng,.int .i64 (⟨H.frame,H.mid,B.r,B.w,B.x,B.af,B.ng,0,H.level⟩:gQ).soft,.int .i64 (⟨H.frame,H.mid,B.r,B.w,B.x,B.af,B.ng,0,H.level⟩:gQ).level],48⟩::⟨A2,#[.int .i64 Y.f.kind,.int .i64 Y.f.stage,.int .i64 Y.f.level,.bool Y.f.walk,.int .i64 Y.f.page],50⟩::⟨Wb,#[.slice p c.ws.length cap,ev1,qC,.int .i64 c.pk.cpu,.bool c.pk.fill,.bool c.pk.aP,.bool c.pk.walk,.int .i64 c.pk.drop,.bool c.pk.use,.bool c.one.on,.int .i64 c.one.frame,.int .i64 c.one.tag,.bool c.two.on,.int .i64 c.two.frame,.int .i64 c.two.tag,.int .i64 (c.page:Int),.int .i64 c.acc,oO],99⟩::(he1++hd1++hr1)) ?_
  refine dV ?_
  refine aN (b:=R1) (tb:=48) (cs:=#[.int .i64 0,.int .i64 0,.bool false,.bool false,.bool false,.bool false,.bool false,.int .i64 0,.int .i64 0]) (cs':=#[.int .i64 (⟨H.frame,H.mid,B.r,B.w,B.x,B.af,B.ng,0,H.level⟩:gQ).frame,.int .i64 (⟨H.frame,H.mid,B.r,B.w,B.x,B.af,B.ng,0,H.level⟩:gQ).mid,.bool (⟨H.frame,H.mid,B.r,B.w,B.x,B.af,B.ng,0,H.level⟩:gQ).r,.bool (⟨H.frame,H.mid,B.r,B.w,B.x,B.af,B.ng,0,H.level⟩:gQ).w,.bool (⟨H.frame,H.mid,B.r,B.w,B.x,B.af,B.ng,0,H.level⟩:gQ).x,.bool (⟨H.frame,H.mid,B.r,B.w,B.x,B.af,B.ng,0,H.level⟩:gQ).af,.bool (⟨H.frame,H.mid,B.r,B.w,B.x,B.af,B.ng,0,H.level⟩:gQ).ng,.int .i64 (⟨H.frame,H.mid,B.r,B.w,B.x,B.af,B.ng,0,H.level⟩:gQ).soft,.int .i64 (⟨H.frame,H.mid,B.r,B.w,B.x,B.af,B.ng,0,H.level⟩:gQ).level]) (hp':=⟨A1,#[.int .i64 (⟨H.frame,H.mid,B.r,B.w,B.x,B.af,B.ng,0,H.level⟩:gQ).frame,.int .i64 (⟨H.frame,H.mid,B.r,B.w,B.x,B.af,B.ng,0,H.level⟩:gQ).mid,.bool (⟨H.frame,H.mid,B.r,B.w,B.x,B.af,B.ng,0,H.level⟩:gQ).r,.bool (⟨H.frame,H.mid,B.r,B.w,B.x,B.af,B.ng,0,H.level⟩:gQ).w,.bool (⟨H.frame,H.mid,B.r,B.w,B.x,B.af,B.ng,0,H.level⟩:gQ).x,.bool (⟨H.frame,H.mid,B.r,B.w,B.x,B.af,B.ng,0,H.level⟩:gQ).af,.bool (⟨H.frame,H.mid,B.r,B.w,B.x,B.af,B.ng,0,H.level⟩:gQ).ng,.int .i64 (⟨H.frame,H.mid,B.r,B.w,B.x,B.af,B.ng,0,H.level⟩:gQ).soft,.int .i64 (⟨H.frame,H.mid,B.r,B.w,B.x,B.af,B.ng,0,H.level⟩:gQ).level],48⟩::⟨Z,#[.bool d.r,.bool d.w,.bool d.x,.bool d.af,.bool d.ng,.int .i64 d.soft,.bool H.r,.bool H.w,.bool H.x,.bool H.af,.bool H.ng,.int .i64 H.soft],46⟩::⟨A2,#[.int .i64 Y.f.kind,.int .i64 Y.f.stage,.int .i64 Y.f.level,.bool Y.f.walk,.int .i64 Y.f.page],50⟩::⟨R2,#[.int .i64 0,.int .i64 0,.int .i64 0,.bool false,.int .i64 0],50⟩::⟨D,#[.int .i64 d.kind,.int .i64 d.frame,.bool d.r,.bool d.w,.bool d.x,.bool d.af,.bool d.ng,.int .i64 d.soft,.int .i64 d.note],93⟩::⟨Wb,#[.slice p c.ws.length cap,ev1,qC,.int .i64 c.pk.cpu,.bool c.pk.fill,.bool c.pk.aP,.bool c.pk.walk,.int .i64 c.pk.drop,.bool c.pk.use,.bool c.one.on,.int .i64 c.one.frame,.int .i64 c.one.tag,.bool c.two.on,.int .i64 c.two.frame,.int .i64 c.two.tag,.int .i64 (c.page:Int),.int .i64 c.acc,oO],99⟩::(he1++hd1++hr1)) ?_ az
  refine aN (b:=R2) (tb:=50) (cs:=#[.int .i64 0,.int .i64 0,.int .i64 0,.bool false,.int .i64 0]) (cs':=#[.int .i64 Y.f.kind,.int .i64 Y.f.stage,.int .i64 Y.f.level,.bool Y.f.walk,.int .i64 Y.f.page]) (hp':=⟨R1,#[.int .i64 (⟨H.frame,H.mid,B.r,B.w,B.x,B.af,B.ng,0,H.level⟩:gQ).frame,.int .i64 (⟨H.frame,H.mid,B.r,B.w,B.x,B.af,B.ng,0,H.level⟩:gQ).mid,.bool (⟨H.frame,H.mid,B.r,B.w,B.x,B.af,B.ng,0,H.level⟩:gQ).r,.bool (⟨H.frame,H.mid,B.r,B.w,B.x,B.af,B.ng,0,H.level⟩:gQ).w,.bool (⟨H.frame,H.mid,B.r,B.w,B.x,B.af,B.ng,0,H.level⟩:gQ).x,.bool (⟨H.frame,H.mid,B.r,B.w,B.x,B.af,B.ng,0,H.level⟩:gQ).af,.bool (⟨H.frame,H.mid,B.r,B.w,B.x,B.af,B.ng,0,H.level⟩:gQ).ng,.int .i64 (⟨H.frame,H.mid,B.r,B.w,B.x,B.af,B.ng,0,H.level⟩:gQ).soft,.int .i64 (⟨H.frame,H.mid,B.r,B.w,B.x,B.af,B.ng,0,H.level⟩:gQ).level],48⟩::⟨A1,#[.int .i64 (⟨H.frame,H.mid,B.r,B.w,B.x,B.af,B.ng,0,H.level⟩:gQ).frame,.int .i64 (⟨H.frame,H.mid,B.r,B.w,B.x,B.af,B.ng,0,H.level⟩:gQ).mid,.bool (⟨H.frame,H.mid,B.r,B.w,B.x,B.af,B.ng,0,H.level⟩:gQ).r,.bool (⟨H.frame,H.mid,B.r,B.w,B.x,B.af,B.ng,0,H.level⟩:gQ).w,.bool (⟨H.frame,H.mid,B.r,B.w,B.x,B.af,B.ng,0,H.level⟩:gQ).x,.bool (⟨H.frame,H.mid,B.r,B.w,B.x,B.af,B.ng,0,H.level⟩:gQ).af,.bool (⟨H.frame,H.mid,B.r,B.w,B.x,B.af,B.ng,0,H.level⟩:gQ).ng,.int .i64 (⟨H.frame,H.mid,B.r,B.w,B.x,B.af,B.ng,0,H.level⟩:gQ).soft,.int .i64 (⟨H.frame,H.mid,B.r,B.w,B.x,B.af,B.ng,0,H.level⟩:gQ).level],48⟩::⟨Z,#[.bool d.r,.bool d.w,.bool d.x,.bool d.af,.bool d.ng,.int .i64 d.soft,.bool H.r,.bool H.w,.bool H.x,.bool H.af,.bool H.ng,.int .i64 H.soft],46⟩::⟨A2,#[.int .i64 Y.f.kind,.int .i64 Y.f.stage,.int .i64 Y.f.level,.bool Y.f.walk,.int .i64 Y.f.page],50⟩::⟨D,#[.int .i64 d.kind,.int .i64 d.frame,.bool d.r,.bool d.w,.bool d.x,.bool d.af,.bool d.ng,.int .i64 d.soft,.int .i64 d.note],93⟩::⟨Wb,#[.slice p c.ws.length cap,ev1,qC,.int .i64 c.pk.cpu,.bool c.pk.fill,.bool c.pk.aP,.bool c.pk.walk,.int .i64 c.pk.drop,.bool c.pk.use,.bool c.one.on,.int .i64 c.one.frame,.int .i64 c.one.tag,.bool c.two.on,.int .i64 c.two.frame,.int .i64 c.two.tag,.int .i64 (c.page:Int),.int .i64 c.acc,oO],99⟩::(he1++hd1++hr1)) ?_ az
  refine bf ?_
  refine dY ?_
  refine run ?_
  exact jk (cs:=#[.int .i64 (⟨H.frame,H.mid,B.r,B.w,B.x,B.af,B.ng,0,H.level⟩:gQ).frame,.int .i64 (⟨H.frame,H.mid,B.r,B.w,B.x,B.af,B.ng,0,H.level⟩:gQ).mid,.bool (⟨H.frame,H.mid,B.r,B.w,B.x,B.af,B.ng,0,H.level⟩:gQ).r,.bool (⟨H.frame,H.mid,B.r,B.w,B.x,B.af,B.ng,0,H.level⟩:gQ).w,.bool (⟨H.frame,H.mid,B.r,B.w,B.x,B.af,B.ng,0,H.level⟩:gQ).x,.bool (⟨H.frame,H.mid,B.r,B.w,B.x,B.af,B.ng,0,H.level⟩:gQ).af,.bool (⟨H.frame,H.mid,B.r,B.w,B.x,B.af,B.ng,0,H.level⟩:gQ).ng,.int .i64 (⟨H.frame,H.mid,B.r,B.w,B.x,B.af,B.ng,0,H.level⟩:gQ).soft,.int .i64 (⟨H.frame,H.mid,B.r,B.w,B.x,B.af,B.ng,0,H.level⟩:gQ).level]) (cs2:=#[.int .i64 Y.f.kind,.int .i64 Y.f.stage,.int .i64 Y.f.level,.bool Y.f.walk,.int .i64 Y.f.page]) ⟨⟨H.frame,H.mid,B.r,B.w,B.x,B.af,B.ng,0,H.level⟩,Y,_,_,_,he1,hd1,hr1,rfl,rfl,hH1,fun h0=>⟨(hH2 h0).1,rfl,by rw [← hB,(hH2 h0).2]⟩,h11,h21,h31,by (exact ak)⟩
def dB (c:gX) (s:kZ):Ez:=bif c.pk.use && decide (0≤dw c s.es) then ⟨s,(s.es.getD (dw c s.es).toNat default).frame,eU⟩ else dZ c s c.one.frame.toNat 0
def jR (c:gX) (s:kZ):Nat:=bif c.pk.use && decide (0≤dw c s.es) then (s.es.getD (dw c s.es).toNat default).level.toNat else 0
theorem EP (c:gX) (hk:jX c) (cap:Nat) (hcc:c.ws.length≤cap) {p:Option Addr} {w:World} {Wb:Nat} {ev dv rv:Value} {he hd hr:Hp} (s:kZ) (ds:List eH) (hE:gG c.ws.length s.es ds)  (hrl:s.rd.length<80000)
  (hm:bT w (Wb::(he++hd++hr).map (·.b)) (.slice p c.ws.length cap) 1 (c.ws.map uV)) (h1:Own 81 14 ev he (s.es.map cu)) (h2:Own 109 4 dv hd (ds.map iw)) (h3:Own 3 1 rv hr (s.rd.map dH)) (hN:jb (⟨Wb,nV c (.slice p c.ws.length cap) ev dv rv,99⟩::(he++hd++hr)) w):
  Fn Tryz.prog 119 [.pointer (some ⟨Wb,0,none⟩)].toArray w (Wb::(he++hd++hr).map (·.b)) (fun u hn=>∃ (lv:Int) (ev' uk rv':Value) (he' hd' hr':Hp),u=.tuple #[.int .i64 (dB c s).n,.int .i64 lv,yj (dB c s).f]∧((dB c s).f.kind=0→lv=(jR c s:Int))∧Own 81 14 ev' he' ((dB c s).s.es.map cu)∧Own 109 4 uk hd' (ds.map iw)∧Own 3 1 rv' hr' ((dB c s).s.rd.map dH)∧aI (⟨Wb,nV c (.slice p c.ws.length cap) ev' uk rv',99⟩::(he'++hd'++hr')) hn):=by
 have hcap:=h1.cap
 obtain ⟨qe,ce,ee⟩:=h1.opened
 obtain ⟨qd,cd,ed⟩:=h2.opened
 obtain ⟨qr,cr,er⟩:=h3.opened
 rw [List.length_map] at ee ed er
 subst ee ed er
 simp only [nV] at hN ⊢
 have Ac:=cO hk.mem
 have hem:=hE.may
 have ho:=dX.fC hk.one
 have htw:=dX.fC hk.two
 refine kN _ hN Tryz.func119 ?_
 refine run ?_
 intro F
 refine fZ (σ:=Unit) (fun _=>[]) (fun _=>⟨F,#[.int .i64 0,.int .i64 0,.int .i64 0,.bool false,.int .i64 0],50⟩::⟨Wb,#[.slice p c.ws.length cap,.slice qe s.es.length ce,.slice qd ds.length cd,.int .i64 c.pk.cpu,.bool c.pk.fill,.bool c.pk.aP,.bool c.pk.walk,.int .i64 c.pk.drop,.bool c.pk.use,.bool c.one.on,.int .i64 c.one.frame,.int .i64 c.one.tag,.bool c.two.on,.int .i64 c.two.frame,.int .i64 c.two.tag,.int .i64 (c.page:Int),.int .i64 c.acc,.slice qr s.rd.length cr],99⟩::(he++hd++hr)) (fun _=>(c.pk.use && decide (0≤dw c s.es))=false) ?_ ?_
 ·refine ah _ rfl (fun hc=>?_) (fun hc=>?_)
  ·refine run ?_
   have hmm:=fun {wc:World} (ha1:aF wc (.slice qe s.es.length ce) 14 (s.es.map cu)) (hb1:aF wc (.slice qd ds.length cd) 4 (ds.map iw))=>Lj ha1 hb1 hcap hE.FI c.two.tag c.one.tag c.page (iO htw.2.1 htw.2.2) (iO ho.2.1 ho.2.2) hk.page
   rw [kH,show bW s.es (jW c.two.tag c.one.tag c.page) s.es.length=dw c s.es from rfl] at hmm
   obtain ⟨E,hEE⟩:∃ E,E=(bif decide (0≤dw c s.es) then s.es.getD (dw c s.es).toNat default else default):=⟨_,rfl⟩
   rw [← hEE] at hmm
   refine mY 24 23 [0,1,2,3,4,5,6,7,8,9,10,11,12,13,14,15,16,17,18,19,20,21] [22] [23] (⟨F,#[.int .i64 0,.int .i64 0,.int .i64 0,.bool false,.int .i64 0],50⟩::⟨Wb,#[.slice p c.ws.length cap,.slice qe s.es.length ce,.slice qd ds.length cd,.int .i64 c.pk.cpu,.bool c.pk.fill,.bool c.pk.aP,.bool c.pk.walk,.int .i64 c.pk.drop,.bool c.pk.use,.bool c.one.on,.int .i64 c.one.frame,.int .i64 c.one.tag,.bool c.two.on,.int .i64 c.two.frame,.int .i64 c.two.tag,.int .i64 (c.page:Int),.int .i64 c.acc,.slice qr s.rd.length cr],99⟩::(he++hd++hr)) ?_
   refine dV ?_
   refine rq (fun wc hx hG=>hmm (h1.lie (fun b hb=>hG.here b UQ) UI) (h2.lie (fun b hb=>hG.here b UQ) UI)) ?_
   refine dV ?_
   refine kL ?_
   refine kM ?_
   rintro _ _ ⟨X,rfl,rfl⟩
   simp only [DN,List.cons_append,List.nil_append,List.append_nil]
   refine aN (b:=X) (tb:=81) (cs:=#[.int .i64 0,.int .i64 0,.int .i64 0,.bool false,.int .i64 0,.int .i64 0,.int .i64 0,.int .i64 0,.bool false,.bool false,.bool false,.bool false,.bool false,.int .i64 0]) (cs':=#[.int .i64 E.kind,.int .i64 E.iF,.int .i64 E.jf,.bool E.all,.int .i64 E.page,.int .i64 E.level,.int .i64 E.frame,.int .i64 E.mid,.bool E.r,.bool E.w,.bool E.x,.bool E.af,.bool E.ng,.int .i64 E.soft]) (hp':=⟨F,#[.int .i64 0,.int .i64 0,.int .i64 0,.bool false,.int .i64 0],50⟩::⟨Wb,#[.slice p c.ws.length cap,.slice qe s.es.length ce,.slice qd ds.length cd,.int .i64 c.pk.cpu,.bool c.pk.fill,.bool c.pk.aP,.bool c.pk.walk,.int .i64 c.pk.drop,.bool c.pk.use,.bool c.one.on,.int .i64 c.one.frame,.int .i64 c.one.tag,.bool c.two.on,.int .i64 c.two.frame,.int .i64 c.two.tag,.int .i64 (c.page:Int),.int .i64 c.acc,.slice qr s.rd.length cr],99⟩::(he++hd++hr)) ?_ az
   refine bf ?_
   refine dY ?_
   refine run ?_
   refine ah _ rfl (fun hc2=>?_) (fun hc2=>?_)
   ·have h0:0≤dw c s.es:=by
     cases hq:decide (0≤dw c s.es) with
     | true=>exact of_decide_eq_true hq
     | false=>rw [hq] at hc2;simp at hc2
    have hA:dB c s=⟨s,E.frame,eU⟩:=by rw [hEE];simp only [dB,hc,h0,decide_true,Bool.and_self,cond_true]
    have hL:jR c s=E.level.toNat:=by rw [hEE];simp only [jR,hc,h0,decide_true,Bool.and_self,cond_true]
    obtain ⟨_,hw2,hw3,_⟩:=yz hE h0
    simp only [h0,decide_true,cond_true] at hEE
    rw [← hEE] at hw2 hw3
    rw [hA,hL]
    refine run ?_
    refine jO 2 ?_
    refine jO 3 ?_
    refine eG 8 7 [0,1,2,3,4,5,6] [7] (⟨X,#[.int .i64 E.kind,.int .i64 E.iF,.int .i64 E.jf,.bool E.all,.int .i64 E.page,.int .i64 E.level,.int .i64 E.frame,.int .i64 E.mid,.bool E.r,.bool E.w,.bool E.x,.bool E.af,.bool E.ng,.int .i64 E.soft],81⟩::⟨Wb,#[.slice p c.ws.length cap,.slice qe s.es.length ce,.slice qd ds.length cd,.int .i64 c.pk.cpu,.bool c.pk.fill,.bool c.pk.aP,.bool c.pk.walk,.int .i64 c.pk.drop,.bool c.pk.use,.bool c.one.on,.int .i64 c.one.frame,.int .i64 c.one.tag,.bool c.two.on,.int .i64 c.two.frame,.int .i64 c.two.tag,.int .i64 (c.page:Int),.int .i64 c.acc,.slice qr s.rd.length cr],99⟩::(he++hd++hr)) ?_
    refine dV ?_
    refine aN (b:=F) (tb:=50) (cs:=#[.int .i64 0,.int .i64 0,.int .i64 0,.bool false,.int .i64 0]) (cs':=#[.int .i64 0,.int .i64 0,.int .i64 0,.bool false,.int .i64 0]) (hp':=⟨X,#[.int .i64 E.kind,.int .i64 E.iF,.int .i64 E.jf,.bool E.all,.int .i64 E.page,.int .i64 E.level,.int .i64 E.frame,.int .i64 E.mid,.bool E.r,.bool E.w,.bool E.x,.bool E.af,.bool E.ng,.int .i64 E.soft],81⟩::⟨Wb,#[.slice p c.ws.length cap,.slice qe s.es.length ce,.slice qd ds.length cd,.int .i64 c.pk.cpu,.bool c.pk.fill,.bool c.pk.aP,.bool c.pk.walk,.int .i64 c.pk.drop,.bool c.pk.use,.bool c.one.on,.int .i64 c.one.frame,.int .i64 c.one.tag,.bool c.two.on,.int .i64 c.two.frame,.int .i64 c.two.tag,.int .i64 (c.page:Int),.int .i64 c.acc,.slice qr s.rd.length cr],99⟩::(he++hd++hr)) ?_ az
    refine bf ?_
    refine dY ?_
    refine run ?_
    exact yD (v:=.int .i64 E.frame) (v1:=.int .i64 E.level) (cs:=#[.int .i64 0,.int .i64 0,.int .i64 0,.bool false,.int .i64 0]) ⟨E.level,_,_,_,he,hd,hr,rfl,fun _=>by omega,h1,h2,h3,by (exact ak)⟩
   ·refine run ?_
    exact eY () (by
     rw [hc,Bool.true_and]
     cases hq:decide (0≤dw c s.es) with
     | false=>rfl
     | true=>rw [hq] at hc2;simp at hc2)
  ·refine run ?_
   exact eY () (by rw [hc];rfl)
 rintro ⟨⟩ hcut
 have hA:dB c s=dZ c s c.one.frame.toNat 0:=by simp only [dB,hcut,cond_false]
 have hL:jR c s=0:=by simp only [jR,hcut,cond_false]
 rw [hA,hL]
 have hT:=fun (wc:World) (hG:jb (⟨Wb,#[.slice p c.ws.length cap,.slice qe s.es.length ce,.slice qd ds.length cd,.int .i64 c.pk.cpu,.bool c.pk.fill,.bool c.pk.aP,.bool c.pk.walk,.int .i64 c.pk.drop,.bool c.pk.use,.bool c.one.on,.int .i64 c.one.frame,.int .i64 c.one.tag,.bool c.two.on,.int .i64 c.two.frame,.int .i64 c.two.tag,.int .i64 (c.page:Int),.int .i64 c.acc,.slice qr s.rd.length cr],99⟩::(he++hd++hr)) wc) (hm:bT wc (Wb::(he++hd++hr).map (·.b)) (.slice p c.ws.length cap) 1 (c.ws.map uV))=>wQ c hk cap hcc s ds c.one.frame.toNat 0 Uz Uz hE Uz hm h1 h2 h3 hG
 rw [show ((c.one.frame.toNat:Nat):Int)=c.one.frame by omega] at hT
 refine run ?_
 refine kR (⟨Wb,#[.slice p c.ws.length cap,.slice qe s.es.length ce,.slice qd ds.length cd,.int .i64 c.pk.cpu,.bool c.pk.fill,.bool c.pk.aP,.bool c.pk.walk,.int .i64 c.pk.drop,.bool c.pk.use,.bool c.one.on,.int .i64 c.one.frame,.int .i64 c.one.tag,.bool c.two.on,.int .i64 c.two.frame,.int .i64 c.two.tag,.int .i64 (c.page:Int),.int .i64 c.acc,.slice qr s.rd.length cr],99⟩::(he++hd++hr)) [⟨F,#[.int .i64 0,.int .i64 0,.int .i64 0,.bool false,.int .i64 0],50⟩] (fun wc hG=>hT wc hG.jK (hm.into hG)) ?_ az
 rintro u1 hn1 ⟨lv,ev1,qC,oO,he1,hd1,hr1,rfl,hlv,h11,h21,h31,hle1⟩
 simp only [nV] at hle1
 generalize dZ c s c.one.frame.toNat 0=Y at hlv h11 h31 ⊢
 refine aZ (⟨F,#[.int .i64 0,.int .i64 0,.int .i64 0,.bool false,.int .i64 0],50⟩::⟨Wb,#[.slice p c.ws.length cap,ev1,qC,.int .i64 c.pk.cpu,.bool c.pk.fill,.bool c.pk.aP,.bool c.pk.walk,.int .i64 c.pk.drop,.bool c.pk.use,.bool c.one.on,.int .i64 c.one.frame,.int .i64 c.one.tag,.bool c.two.on,.int .i64 c.two.frame,.int .i64 c.two.tag,.int .i64 (c.page:Int),.int .i64 c.acc,oO],99⟩::(he1++hd1++hr1)) (cnt1 hle1) ?_
 refine run ?_
 exact yD (v:=.int .i64 Y.n) (v1:=.int .i64 lv) (cs:=#[.int .i64 Y.f.kind,.int .i64 Y.f.stage,.int .i64 Y.f.level,.bool Y.f.walk,.int .i64 Y.f.page]) ⟨lv,_,_,_,he1,hd1,hr1,rfl,fun h0=>hlv h0,h11,h21,h31,by (exact ak)⟩
def ER (c:gX) (X:OW) (M:Nat) (d:DsD):Ez:=bif !decide (X.f.kind=0) then ⟨X.s,0,X.f⟩ else ⟨⟨bif c.pk.fill then iI X.s.es (sG c X.n M d X.a) else X.s.es,X.s.rd⟩,X.n,eU⟩
def BK (c:gX) (s:kZ):Ez:=bif !decide ((dB c s).f.kind=0) then ⟨(dB c s).s,0,(dB c s).f⟩ else qo c (4 - jR c s) (jR c s) (dB c s).n (dB c s).s
theorem ES {c:gX} (hk:jX c) {ds:List eH} {s:kZ} (hE:gG c.ws.length s.es ds):yw c.ws.length ds 4 s (dB c s).s∧((dB c s).f.kind=0→jR c s<4∧bM c.ws.length (dB c s).n=true):=by
 unfold dB jR
 cases hc:(c.pk.use && decide (0≤dw c s.es)) with
 | true=>
  rw [Bool.and_eq_true] at hc
  obtain ⟨h1,h2,h3,h4⟩:=yz hE (of_decide_eq_true hc.2)
  simp only [cond_true]
  exact ⟨⟨hE,by simp⟩,fun _=>⟨by omega,h4⟩⟩
 | false=>
  simp only [cond_false]
  have ho:=dX.fC hk.one
  obtain ⟨h1,h2⟩:=uj hk hE (mid:=c.one.frame.toNat) (level:=0) Uz Uz
  exact ⟨h1,fun h0=>⟨by omega,h2 h0⟩⟩
theorem ET (c:gX) (s:kZ) (l:Nat) (d:DsD):kF c s l d=ER c (bif !decide ((bP d.r d.w d.x d.af c.acc 1 l c.page).kind=0) then ⟨s,0,zH,bP d.r d.w d.x d.af c.acc 1 l c.page⟩ else bV c s (bQ c l d) c.acc) (bQ c l d) d:=by
 unfold kF ER
 cases hc:(!decide ((bP d.r d.w d.x d.af c.acc 1 l c.page).kind=0)) with
 | true=>simp only [cond_true];rw [hc];rfl
 | false=>rfl
theorem Jc {c:gX} (hk:jX c) {ds:List eH} {s:kZ} (hE:gG c.ws.length s.es ds) {l:Nat} {d:DsD} (hM:bQ c l d≤4095) {X:OW} (hX:X=(bif !decide ((bP d.r d.w d.x d.af c.acc 1 l c.page).kind=0) then ⟨s,0,zH,bP d.r d.w d.x d.af c.acc 1 l c.page⟩ else bV c s (bQ c l d) c.acc)):gG c.ws.length X.s.es ds∧X.s.rd.length≤s.rd.length + 4∧(X.f.kind=0→bM c.ws.length X.n=true∧X.f=eU):=by
 cases hc:(!decide ((bP d.r d.w d.x d.af c.acc 1 l c.page).kind=0)) with
 | true=>
  rw [hc] at hX
  subst hX
  exact ⟨hE,by simp,fun h0=>by simp at hc;exact absurd h0 hc⟩
 | false=>
  rw [hc] at hX
  subst hX
  obtain ⟨h1,h2⟩:=qw hk hE hM c.acc
  exact ⟨h1.es,h1.rd,fun h0=>⟨(h2 h0).1,(h2 h0).2.1⟩⟩
structure OG where
 fr:Int
 lv:Int
 f:yh
 s:kZ
 ev:Value
 dv:Value
 rv:Value
 he:Hp
 hd:Hp
 hr:Hp
structure Rt (c:gX) (ds:List eH) (R:Ez) (z:OG):Prop where
 es:gG c.ws.length z.s.es ds
 rd:z.s.rd.length<40000
 on:z.f.kind=0→∃ L:Nat,z.lv=L∧L<4∧bM c.ws.length z.fr=true∧z.s.rd.length + 6 * (4 - L)≤2000∧qo c (4 - L) L z.fr z.s=R
 off:z.f.kind ≠ 0→(⟨z.s,0,z.f⟩:Ez)=R
 h1:Own 81 14 z.ev z.he (z.s.es.map cu)
 h2:Own 109 4 z.dv z.hd (ds.map iw)
 h3:Own 3 1 z.rv z.hr (z.s.rd.map dH)
theorem EU (c:gX) (hk:jX c) (cap:Nat) (hcc:c.ws.length≤cap) {p:Option Addr} {w:World} {Wb:Nat} {ev dv rv:Value} {he hd hr:Hp} (s:kZ) (ds:List eH) (hE:gG c.ws.length s.es ds)  (ha:PtD.bH c.acc 0 2=true) (hrl:s.rd.length<1000)
  (hm:bT w (Wb::(he++hd++hr).map (·.b)) (.slice p c.ws.length cap) 1 (c.ws.map uV)) (h1:Own 81 14 ev he (s.es.map cu)) (h2:Own 109 4 dv hd (ds.map iw)) (h3:Own 3 1 rv hr (s.rd.map dH)) (hN:jb (⟨Wb,nV c (.slice p c.ws.length cap) ev dv rv,99⟩::(he++hd++hr)) w):
  Fn Tryz.prog 70 [.pointer (some ⟨Wb,0,none⟩)].toArray w (Wb::(he++hd++hr).map (·.b)) (fun u hn=>∃ (H:gQ) (X:OW) (M:Nat) (d:DsD) (ev' uk rv':Value) (he' hd' hr':Hp),ER c X M d=BK c s∧gG c.ws.length X.s.es ds∧X.s.rd.length<50000∧u=.tuple #[Iw H,yj X.f]∧H.frame=X.n∧(X.f.kind=0→M≤4095∧bM c.ws.length X.n=true∧X.f=eU∧H.mid=(M:Int)∧H.soft=0∧(⟨H.r,H.w,H.x,H.af,H.ng⟩:AtD)=iJ ⟨d.r,d.w,d.x,d.af,d.ng⟩ X.a)∧Own 81 14 ev' he' (X.s.es.map cu)∧Own 109 4 uk hd' (ds.map iw)∧Own 3 1 rv' hr' (X.s.rd.map dH)∧aI (⟨Wb,nV c (.slice p c.ws.length cap) ev' uk rv',99⟩::(he'++hd'++hr')) hn):=by
 simp only [nV] at hN ⊢
 have Ac:=cO hk.mem
 have hem:=hE.may
 refine kN _ hN Tryz.func70 ?_
 refine run ?_
 intro R1 R2
 refine kR (⟨Wb,#[.slice p c.ws.length cap,ev,dv,.int .i64 c.pk.cpu,.bool c.pk.fill,.bool c.pk.aP,.bool c.pk.walk,.int .i64 c.pk.drop,.bool c.pk.use,.bool c.one.on,.int .i64 c.one.frame,.int .i64 c.one.tag,.bool c.two.on,.int .i64 c.two.frame,.int .i64 c.two.tag,.int .i64 (c.page:Int),.int .i64 c.acc,rv],99⟩::(he++hd++hr)) (⟨R2,#[.int .i64 0,.int .i64 0,.int .i64 0,.bool false,.int .i64 0],50⟩::⟨R1,#[.int .i64 0,.int .i64 0,.bool false,.bool false,.bool false,.bool false,.bool false,.int .i64 0,.int .i64 0],48⟩::[]) (fun wc hG=>EP c hk cap hcc s ds hE Uz (hm.into hG) h1 h2 h3 hG.jK) ?_ az
 rintro u1 hn1 ⟨lv,ev1,qC,oO,he1,hd1,hr1,rfl,hlv,h11,h21,h31,hle1⟩
 simp only [nV] at hle1
 refine aZ (⟨R2,#[.int .i64 0,.int .i64 0,.int .i64 0,.bool false,.int .i64 0],50⟩::⟨R1,#[.int .i64 0,.int .i64 0,.bool false,.bool false,.bool false,.bool false,.bool false,.int .i64 0,.int .i64 0],48⟩::⟨Wb,#[.slice p c.ws.length cap,ev1,qC,.int .i64 c.pk.cpu,.bool c.pk.fill,.bool c.pk.aP,.bool c.pk.walk,.int .i64 c.pk.drop,.bool c.pk.use,.bool c.one.on,.int .i64 c.one.frame,.int .i64 c.one.tag,.bool c.two.on,.int .i64 c.two.frame,.int .i64 c.two.tag,.int .i64 (c.page:Int),.int .i64 c.acc,oO],99⟩::(he1++hd1++hr1)) (cnt1 hle1) ?_
 obtain ⟨SX,TS⟩:=ES hk hE
 have hFr:=SX.rd
 refine run ?_
 intro F
 have hm':=hm
 refine eF (σ:=OG) (fun z=>[(4,.int .i64 z.fr),(5,.int .i64 z.lv)]) (fun z=>⟨F,#[.int .i64 z.f.kind,.int .i64 z.f.stage,.int .i64 z.f.level,.bool z.f.walk,.int .i64 z.f.page],50⟩::⟨R2,#[.int .i64 0,.int .i64 0,.int .i64 0,.bool false,.int .i64 0],50⟩::⟨R1,#[.int .i64 0,.int .i64 0,.bool false,.bool false,.bool false,.bool false,.bool false,.int .i64 0,.int .i64 0],48⟩::⟨Wb,#[.slice p c.ws.length cap,z.ev,z.dv,.int .i64 c.pk.cpu,.bool c.pk.fill,.bool c.pk.aP,.bool c.pk.walk,.int .i64 c.pk.drop,.bool c.pk.use,.bool c.one.on,.int .i64 c.one.frame,.int .i64 c.one.tag,.bool c.two.on,.int .i64 c.two.frame,.int .i64 c.two.tag,.int .i64 (c.page:Int),.int .i64 c.acc,z.rv],99⟩::(z.he++z.hd++z.hr)) (Rt c ds (BK c s)) (fun z=>bif decide (z.f.kind=0) then 6 - z.lv.toNat else 0) ⟨(dB c s).n,lv,(dB c s).f,(dB c s).s,ev1,qC,oO,he1,hd1,hr1⟩ ⟨SX.es,by dsimp only;omega,fun h0=>?_,fun h0=>?_,h11,h21,h31⟩ ?_
 ·obtain ⟨g1,g2⟩:=TS h0
  exact ⟨jR c s,hlv h0,g1,g2,by dsimp only;omega,by dsimp only;rw [BK,show decide ((dB c s).f.kind=0)=true from decide_eq_true h0];rfl⟩
 ·dsimp only at h0 ⊢
  rw [BK,show decide ((dB c s).f.kind=0)=false from decide_eq_false h0];rfl
 rintro ⟨fr,lv,f,S,ev,dv,rv,he,hd,hr⟩ m hm ⟨rU,hrd,hon,hoff,h1,h2,h3⟩
 dsimp only at hm rU hrd hon hoff h1 h2 h3 ⊢
 refine run ?_
 refine ah _ rfl (fun hc=>?_) (fun hc=>?_)
 ·have hf0:f.kind=0:=by simpa using hc
  obtain ⟨L,rfl,hl,Ru,Qi,hwk⟩:=hon hf0
  clear hon hoff
  generalize BK c s=R at hwk ⊢
  refine run ?_
  intro T
  refine tH (c:=dH fr) (⟨T,#[.int .i64 fr],3⟩::⟨F,#[.int .i64 f.kind,.int .i64 f.stage,.int .i64 f.level,.bool f.walk,.int .i64 f.page],50⟩::⟨R2,#[.int .i64 0,.int .i64 0,.int .i64 0,.bool false,.int .i64 0],50⟩::⟨R1,#[.int .i64 0,.int .i64 0,.bool false,.bool false,.bool false,.bool false,.bool false,.int .i64 0,.int .i64 0],48⟩::⟨Wb,#[.slice p c.ws.length cap,ev,dv,.int .i64 c.pk.cpu,.bool c.pk.fill,.bool c.pk.aP,.bool c.pk.walk,.int .i64 c.pk.drop,.bool c.pk.use,.bool c.one.on,.int .i64 c.one.frame,.int .i64 c.one.tag,.bool c.two.on,.int .i64 c.two.frame,.int .i64 c.two.tag,.int .i64 (c.page:Int),.int .i64 c.acc,rv],99⟩::(he++hd)) h3 (fun v' ha' hA'=>?_) UJ (dP (m:=1) mh rfl) (hperm:=by (exact az))
  rw [show S.rd.map dH++[dH fr]=(S.rd++[fr]).map dH by simp] at hA'
  obtain ⟨q4,c4,e4⟩:=hA'.opened
  rw [List.length_map] at e4
  subst e4
  refine aZ (⟨F,#[.int .i64 f.kind,.int .i64 f.stage,.int .i64 f.level,.bool f.walk,.int .i64 f.page],50⟩::⟨R2,#[.int .i64 0,.int .i64 0,.int .i64 0,.bool false,.int .i64 0],50⟩::⟨R1,#[.int .i64 0,.int .i64 0,.bool false,.bool false,.bool false,.bool false,.bool false,.int .i64 0,.int .i64 0],48⟩::⟨Wb,#[.slice p c.ws.length cap,ev,dv,.int .i64 c.pk.cpu,.bool c.pk.fill,.bool c.pk.aP,.bool c.pk.walk,.int .i64 c.pk.drop,.bool c.pk.use,.bool c.one.on,.int .i64 c.one.frame,.int .i64 c.one.tag,.bool c.two.on,.int .i64 c.two.frame,.int .i64 c.two.tag,.int .i64 (c.page:Int),.int .i64 c.acc,rv],99⟩::(he++hd++ha')) ak ?_
  refine run ?_
  have hT:=fun {wc:World} (h:aF wc (.slice p c.ws.length cap) 1 (c.ws.map uV))=>zQ c.ws hk.EI cap hk.mem hcc h 1 (.inl rfl) L hl fr Ru c.page hk.page
  have hmay:=kE c.ws 1 (fF fr L c.page) L
  rw [show 4 - L=(3 - L) + 1 by omega,qo] at hwk
  generalize iR c.ws 1 (fF fr L c.page) L=d at hwk hmay hT
  obtain ⟨hkk,hk0,hk1,hk2⟩:=fA hmay
  refine mY 16 15 [0,1,2,3,4,5,6,7,8,9,10,11,12,13] [14] [15] (⟨F,#[.int .i64 f.kind,.int .i64 f.stage,.int .i64 f.level,.bool f.walk,.int .i64 f.page],50⟩::⟨R2,#[.int .i64 0,.int .i64 0,.int .i64 0,.bool false,.int .i64 0],50⟩::⟨R1,#[.int .i64 0,.int .i64 0,.bool false,.bool false,.bool false,.bool false,.bool false,.int .i64 0,.int .i64 0],48⟩::⟨Wb,#[.slice p c.ws.length cap,ev,dv,.int .i64 c.pk.cpu,.bool c.pk.fill,.bool c.pk.aP,.bool c.pk.walk,.int .i64 c.pk.drop,.bool c.pk.use,.bool c.one.on,.int .i64 c.one.frame,.int .i64 c.one.tag,.bool c.two.on,.int .i64 c.two.frame,.int .i64 c.two.tag,.int .i64 (c.page:Int),.int .i64 c.acc,.slice q4 (S.rd++[fr]).length c4],99⟩::(he++hd++ha')) ?_
  refine dV ?_
  refine rq (fun wc hx hG=>hT (hm'.good hG)) ?_
  refine dV ?_
  refine kL ?_
  refine kM ?_
  rintro _ _ ⟨D,rfl,rfl⟩
  simp only [DN,List.cons_append,List.nil_append,List.append_nil]
  refine aN (b:=D) (tb:=93) (cs:=#[.int .i64 0,.int .i64 0,.bool false,.bool false,.bool false,.bool false,.bool false,.int .i64 0,.int .i64 0]) (cs':=#[.int .i64 d.kind,.int .i64 d.frame,.bool d.r,.bool d.w,.bool d.x,.bool d.af,.bool d.ng,.int .i64 d.soft,.int .i64 d.note]) (hp':=⟨F,#[.int .i64 f.kind,.int .i64 f.stage,.int .i64 f.level,.bool f.walk,.int .i64 f.page],50⟩::⟨R2,#[.int .i64 0,.int .i64 0,.int .i64 0,.bool false,.int .i64 0],50⟩::⟨R1,#[.int .i64 0,.int .i64 0,.bool false,.bool false,.bool false,.bool false,.bool false,.int .i64 0,.int .i64 0],48⟩::⟨Wb,#[.slice p c.ws.length cap,ev,dv,.int .i64 c.pk.cpu,.bool c.pk.fill,.bool c.pk.aP,.bool c.pk.walk,.int .i64 c.pk.drop,.bool c.pk.use,.bool c.one.on,.int .i64 c.one.frame,.int .i64 c.one.tag,.bool c.two.on,.int .i64 c.two.frame,.int .i64 c.two.tag,.int .i64 (c.page:Int),.int .i64 c.acc,.slice q4 (S.rd++[fr]).length c4],99⟩::(he++hd++ha')) ?_ az
  refine bf ?_
  refine dY ?_
  refine run ?_
  refine ah _ rfl (fun hc2=>?_) (fun hc2=>?_)
  ·have OH:d.kind=2:=by simpa using hc2
   obtain ⟨hlf,J7⟩:=nJ hmay OH hl c.page
   simp only [OH,show decide ((2:Int)=1)=false from rfl,show decide ((2:Int)=0)=false from rfl,cond_false] at hwk
   refine run ?_
   refine kR (⟨Wb,#[.slice p c.ws.length cap,ev,dv,.int .i64 c.pk.cpu,.bool c.pk.fill,.bool c.pk.aP,.bool c.pk.walk,.int .i64 c.pk.drop,.bool c.pk.use,.bool c.one.on,.int .i64 c.one.frame,.int .i64 c.one.tag,.bool c.two.on,.int .i64 c.two.frame,.int .i64 c.two.tag,.int .i64 (c.page:Int),.int .i64 c.acc,.slice q4 (S.rd++[fr]).length c4],99⟩::(he++hd++ha')) (⟨D,#[.int .i64 d.kind,.int .i64 d.frame,.bool d.r,.bool d.w,.bool d.x,.bool d.af,.bool d.ng,.int .i64 d.soft,.int .i64 d.note],93⟩::⟨F,#[.int .i64 f.kind,.int .i64 f.stage,.int .i64 f.level,.bool f.walk,.int .i64 f.page],50⟩::⟨R2,#[.int .i64 0,.int .i64 0,.int .i64 0,.bool false,.int .i64 0],50⟩::⟨R1,#[.int .i64 0,.int .i64 0,.bool false,.bool false,.bool false,.bool false,.bool false,.int .i64 0,.int .i64 0],48⟩::[]) (fun wc hG=>Jb c hk cap hcc ⟨S.es,S.rd++[fr]⟩ ds rU ha L hl d hmay OH U2 (hm'.into hG) h1 h2 hA' hG.jK) ?_ az
   rintro u1 hn1 ⟨H,X,vK,Ae,OX,he2,hd2,hr2,hX,rfl,hH1,hH2,h12,h22,h32,hle2⟩
   simp only [nV] at hle2
   rw [ET,← hX] at hwk
   obtain ⟨hX1,hX2,SY⟩:=Jc hk (s:=⟨S.es,S.rd++[fr]⟩) rU hlf hX
   simp only [List.length_append,List.length_singleton] at hX2
   refine aZ (⟨R2,#[.int .i64 0,.int .i64 0,.int .i64 0,.bool false,.int .i64 0],50⟩::⟨R1,#[.int .i64 0,.int .i64 0,.bool false,.bool false,.bool false,.bool false,.bool false,.int .i64 0,.int .i64 0],48⟩::⟨Wb,#[.slice p c.ws.length cap,vK,Ae,.int .i64 c.pk.cpu,.bool c.pk.fill,.bool c.pk.aP,.bool c.pk.walk,.int .i64 c.pk.drop,.bool c.pk.use,.bool c.one.on,.int .i64 c.one.frame,.int .i64 c.one.tag,.bool c.two.on,.int .i64 c.two.frame,.int .i64 c.two.tag,.int .i64 (c.page:Int),.int .i64 c.acc,OX],99⟩::(he2++hd2++hr2)) (cnt1 hle2) ?_
   refine run ?_
   exact jk (cs:=#[.int .i64 H.frame,.int .i64 H.mid,.bool H.r,.bool H.w,.bool H.x,.bool H.af,.bool H.ng,.int .i64 H.soft,.int .i64 H.level]) (cs2:=#[.int .i64 X.f.kind,.int .i64 X.f.stage,.int .i64 X.f.level,.bool X.f.walk,.int .i64 X.f.page]) ⟨H,X,bQ c L d,d,vK,Ae,OX,he2,hd2,hr2,hwk,hX1,by omega,rfl,hH1,fun h0=>⟨hlf,(SY h0).1,(SY h0).2,hH2 h0⟩,h12,h22,h32,by (exact ak)⟩
  refine run ?_
  refine ah _ rfl (fun hc3=>?_) (fun hc3=>?_)
  ·have Rw:d.kind=0:=by simpa using hc3
   simp only [Rw,show decide ((0:Int)=1)=false from rfl,show decide ((0:Int)=0)=true from rfl,cond_false,cond_true] at hwk
   refine run ?_
   refine eG 9 7 [0,1,2,3,4,5,6] [7,8] (⟨D,#[.int .i64 d.kind,.int .i64 d.frame,.bool d.r,.bool d.w,.bool d.x,.bool d.af,.bool d.ng,.int .i64 d.soft,.int .i64 d.note],93⟩::⟨F,#[.int .i64 f.kind,.int .i64 f.stage,.int .i64 f.level,.bool f.walk,.int .i64 f.page],50⟩::⟨Wb,#[.slice p c.ws.length cap,ev,dv,.int .i64 c.pk.cpu,.bool c.pk.fill,.bool c.pk.aP,.bool c.pk.walk,.int .i64 c.pk.drop,.bool c.pk.use,.bool c.one.on,.int .i64 c.one.frame,.int .i64 c.one.tag,.bool c.two.on,.int .i64 c.two.frame,.int .i64 c.two.tag,.int .i64 (c.page:Int),.int .i64 c.acc,.slice q4 (S.rd++[fr]).length c4],99⟩::(he++hd++ha')) ?_
   refine dV ?_
   refine aN (b:=R1) (tb:=48) (cs:=#[.int .i64 0,.int .i64 0,.bool false,.bool false,.bool false,.bool false,.bool false,.int .i64 0,.int .i64 0]) (cs':=#[.int .i64 0,.int .i64 0,.bool false,.bool false,.bool false,.bool false,.bool false,.int .i64 0,.int .i64 0]) (hp':=⟨D,#[.int .i64 d.kind,.int .i64 d.frame,.bool d.r,.bool d.w,.bool d.x,.bool d.af,.bool d.ng,.int .i64 d.soft,.int .i64 d.note],93⟩::⟨F,#[.int .i64 f.kind,.int .i64 f.stage,.int .i64 f.level,.bool f.walk,.int .i64 f.page],50⟩::⟨R2,#[.int .i64 0,.int .i64 0,.int .i64 0,.bool false,.int .i64 0],50⟩::⟨Wb,#[.slice p c.ws.length cap,ev,dv,.int .i64 c.pk.cpu,.bool c.pk.fill,.bool c.pk.aP,.bool c.pk.walk,.int .i64 c.pk.drop,.bool c.pk.use,.bool c.one.on,.int .i64 c.one.frame,.int .i64 c.one.tag,.bool c.two.on,.int .i64 c.two.frame,.int .i64 c.two.tag,.int .i64 (c.page:Int),.int .i64 c.acc,.slice q4 (S.rd++[fr]).length c4],99⟩::(he++hd++ha')) ?_ az
   refine aN (b:=R2) (tb:=50) (cs:=#[.int .i64 0,.int .i64 0,.int .i64 0,.bool false,.int .i64 0]) (cs':=#[.int .i64 2,.int .i64 1,.int .i64 (L:Int),.bool false,.int .i64 (c.page:Int)]) (hp':=⟨R1,#[.int .i64 0,.int .i64 0,.bool false,.bool false,.bool false,.bool false,.bool false,.int .i64 0,.int .i64 0],48⟩::⟨D,#[.int .i64 d.kind,.int .i64 d.frame,.bool d.r,.bool d.w,.bool d.x,.bool d.af,.bool d.ng,.int .i64 d.soft,.int .i64 d.note],93⟩::⟨F,#[.int .i64 f.kind,.int .i64 f.stage,.int .i64 f.level,.bool f.walk,.int .i64 f.page],50⟩::⟨Wb,#[.slice p c.ws.length cap,ev,dv,.int .i64 c.pk.cpu,.bool c.pk.fill,.bool c.pk.aP,.bool c.pk.walk,.int .i64 c.pk.drop,.bool c.pk.use,.bool c.one.on,.int .i64 c.one.frame,.int .i64 c.one.tag,.bool c.two.on,.int .i64 c.two.frame,.int .i64 c.two.tag,.int .i64 (c.page:Int),.int .i64 c.acc,.slice q4 (S.rd++[fr]).length c4],99⟩::(he++hd++ha')) ?_ az
   refine bf ?_
   refine dY ?_
   refine run ?_
   exact jk (cs:=#[.int .i64 0,.int .i64 0,.bool false,.bool false,.bool false,.bool false,.bool false,.int .i64 0,.int .i64 0]) (cs2:=#[.int .i64 2,.int .i64 1,.int .i64 (L:Int),.bool false,.int .i64 (c.page:Int)]) ⟨⟨0,0,false,false,false,false,false,0,0⟩,⟨⟨S.es,S.rd++[fr]⟩,0,zH,⟨2,1,L,false,c.page⟩⟩,0,default,_,_,_,he,hd,ha',hwk,rU,by dsimp only;simp only [List.length_append,List.length_singleton];omega,rfl,rfl,fun h0=>by simp at h0,h1,h2,hA',by (exact ak)⟩
  have Qj:d.kind=1:=by simp at hc2 hc3;omega
  obtain ⟨k1,k2,k3,k4⟩:=hk1 Qj
  simp only [Qj,show decide ((1:Int)=1)=true from rfl,cond_true] at hwk
  have hcl:=fun (wc:World) (hG:jb (⟨Wb,#[.slice p c.ws.length cap,ev,dv,.int .i64 c.pk.cpu,.bool c.pk.fill,.bool c.pk.aP,.bool c.pk.walk,.int .i64 c.pk.drop,.bool c.pk.use,.bool c.one.on,.int .i64 c.one.frame,.int .i64 c.one.tag,.bool c.two.on,.int .i64 c.two.frame,.int .i64 c.two.tag,.int .i64 (c.page:Int),.int .i64 c.acc,.slice q4 (S.rd++[fr]).length c4],99⟩::(he++hd++ha')) wc) (hm:bT wc (Wb::(he++hd++ha').map (·.b)) (.slice p c.ws.length cap) 1 (c.ws.map uV))=>wQ c hk cap hcc ⟨S.es,S.rd++[fr]⟩ ds d.frame.toNat (L + 1) Uz Uz rU U2 hm h1 h2 hA' hG
  rw [show ((d.frame.toNat:Nat):Int)=d.frame by omega] at hcl
  refine run ?_
  refine kR (⟨Wb,#[.slice p c.ws.length cap,ev,dv,.int .i64 c.pk.cpu,.bool c.pk.fill,.bool c.pk.aP,.bool c.pk.walk,.int .i64 c.pk.drop,.bool c.pk.use,.bool c.one.on,.int .i64 c.one.frame,.int .i64 c.one.tag,.bool c.two.on,.int .i64 c.two.frame,.int .i64 c.two.tag,.int .i64 (c.page:Int),.int .i64 c.acc,.slice q4 (S.rd++[fr]).length c4],99⟩::(he++hd++ha')) (⟨D,#[.int .i64 d.kind,.int .i64 d.frame,.bool d.r,.bool d.w,.bool d.x,.bool d.af,.bool d.ng,.int .i64 d.soft,.int .i64 d.note],93⟩::⟨F,#[.int .i64 f.kind,.int .i64 f.stage,.int .i64 f.level,.bool f.walk,.int .i64 f.page],50⟩::⟨R2,#[.int .i64 0,.int .i64 0,.int .i64 0,.bool false,.int .i64 0],50⟩::⟨R1,#[.int .i64 0,.int .i64 0,.bool false,.bool false,.bool false,.bool false,.bool false,.int .i64 0,.int .i64 0],48⟩::[]) (fun wc hG=>hcl wc hG.jK (hm'.into hG)) ?_ az
  rintro u1 hn1 ⟨TT,vK,Ae,OX,he2,hd2,hr2,rfl,hlv2,h12,h22,h32,hle2⟩
  simp only [nV] at hle2
  obtain ⟨hYs,Qz⟩:=uj hk (s:=⟨S.es,S.rd++[fr]⟩) rU (mid:=d.frame.toNat) (level:=L + 1) Uz Uz
  have S9:=hYs.rd
  simp only [List.length_append,List.length_singleton] at S9
  generalize dZ c ⟨S.es,S.rd++[fr]⟩ d.frame.toNat (L + 1)=Y at hlv2 h12 h32 hYs Qz S9 hwk ⊢
  refine aZ (⟨F,#[.int .i64 f.kind,.int .i64 f.stage,.int .i64 f.level,.bool f.walk,.int .i64 f.page],50⟩::⟨R2,#[.int .i64 0,.int .i64 0,.int .i64 0,.bool false,.int .i64 0],50⟩::⟨R1,#[.int .i64 0,.int .i64 0,.bool false,.bool false,.bool false,.bool false,.bool false,.int .i64 0,.int .i64 0],48⟩::⟨Wb,#[.slice p c.ws.length cap,vK,Ae,.int .i64 c.pk.cpu,.bool c.pk.fill,.bool c.pk.aP,.bool c.pk.walk,.int .i64 c.pk.drop,.bool c.pk.use,.bool c.one.on,.int .i64 c.one.frame,.int .i64 c.one.tag,.bool c.two.on,.int .i64 c.two.frame,.int .i64 c.two.tag,.int .i64 (c.page:Int),.int .i64 c.acc,OX],99⟩::(he2++hd2++hr2)) (cnt1 hle2) ?_
  refine run ?_
  refine dG (⟨Y.n,TT,Y.f,Y.s,vK,Ae,OX,he2,hd2,hr2⟩:OG) ⟨hYs.es,by dsimp only;omega,fun h0=>?_,fun h0=>?_,h12,h22,h32⟩ (hm:=?_) (h2:=by (exact ak))
  ·dsimp only at h0 ⊢
   rw [show decide (Y.f.kind=0)=true from decide_eq_true h0] at hwk
   exact ⟨L + 1,hlv2 h0,by omega,Qz h0,by omega,by rw [show 4 - (L + 1)=3 - L by omega];exact hwk⟩
  ·dsimp only at h0 ⊢
   rw [show decide (Y.f.kind=0)=false from decide_eq_false h0] at hwk
   exact hwk
  ·dsimp only
   rw [show decide (f.kind=0)=true from decide_eq_true hf0,cond_true] at hm
   cases h0:decide (Y.f.kind=0) with
   | true=>rw [cond_true,hlv2 (of_decide_eq_true h0)];omega
   | false=>rw [cond_false];omega
 ·have hf0:f.kind ≠ 0:=by simpa using hc
  have hwk:=hoff hf0
  refine run ?_
  refine eG 4 2 [0,1] [2,3] (⟨F,#[.int .i64 f.kind,.int .i64 f.stage,.int .i64 f.level,.bool f.walk,.int .i64 f.page],50⟩::⟨Wb,#[.slice p c.ws.length cap,ev,dv,.int .i64 c.pk.cpu,.bool c.pk.fill,.bool c.pk.aP,.bool c.pk.walk,.int .i64 c.pk.drop,.bool c.pk.use,.bool c.one.on,.int .i64 c.one.frame,.int .i64 c.one.tag,.bool c.two.on,.int .i64 c.two.frame,.int .i64 c.two.tag,.int .i64 (c.page:Int),.int .i64 c.acc,rv],99⟩::(he++hd++hr)) ?_
  refine dV ?_
  refine aN (b:=R1) (tb:=48) (cs:=#[.int .i64 0,.int .i64 0,.bool false,.bool false,.bool false,.bool false,.bool false,.int .i64 0,.int .i64 0]) (cs':=#[.int .i64 0,.int .i64 0,.bool false,.bool false,.bool false,.bool false,.bool false,.int .i64 0,.int .i64 0]) (hp':=⟨F,#[.int .i64 f.kind,.int .i64 f.stage,.int .i64 f.level,.bool f.walk,.int .i64 f.page],50⟩::⟨R2,#[.int .i64 0,.int .i64 0,.int .i64 0,.bool false,.int .i64 0],50⟩::⟨Wb,#[.slice p c.ws.length cap,ev,dv,.int .i64 c.pk.cpu,.bool c.pk.fill,.bool c.pk.aP,.bool c.pk.walk,.int .i64 c.pk.drop,.bool c.pk.use,.bool c.one.on,.int .i64 c.one.frame,.int .i64 c.one.tag,.bool c.two.on,.int .i64 c.two.frame,.int .i64 c.two.tag,.int .i64 (c.page:Int),.int .i64 c.acc,rv],99⟩::(he++hd++hr)) ?_ az
  refine aN (b:=R2) (tb:=50) (cs:=#[.int .i64 0,.int .i64 0,.int .i64 0,.bool false,.int .i64 0]) (cs':=#[.int .i64 f.kind,.int .i64 f.stage,.int .i64 f.level,.bool f.walk,.int .i64 f.page]) (hp':=⟨R1,#[.int .i64 0,.int .i64 0,.bool false,.bool false,.bool false,.bool false,.bool false,.int .i64 0,.int .i64 0],48⟩::⟨F,#[.int .i64 f.kind,.int .i64 f.stage,.int .i64 f.level,.bool f.walk,.int .i64 f.page],50⟩::⟨Wb,#[.slice p c.ws.length cap,ev,dv,.int .i64 c.pk.cpu,.bool c.pk.fill,.bool c.pk.aP,.bool c.pk.walk,.int .i64 c.pk.drop,.bool c.pk.use,.bool c.one.on,.int .i64 c.one.frame,.int .i64 c.one.tag,.bool c.two.on,.int .i64 c.two.frame,.int .i64 c.two.tag,.int .i64 (c.page:Int),.int .i64 c.acc,rv],99⟩::(he++hd++hr)) ?_ az
  refine bf ?_
  refine dY ?_
  refine run ?_
  exact jk (cs:=#[.int .i64 0,.int .i64 0,.bool false,.bool false,.bool false,.bool false,.bool false,.int .i64 0,.int .i64 0]) (cs2:=#[.int .i64 f.kind,.int .i64 f.stage,.int .i64 f.level,.bool f.walk,.int .i64 f.page]) ⟨⟨0,0,false,false,false,false,false,0,0⟩,⟨S,0,zH,f⟩,0,default,_,_,_,he,hd,hr,by rw [ER,show decide (f.kind=0)=false from decide_eq_false hf0];exact hwk,rU,by dsimp only;omega,rfl,rfl,fun h0=>absurd h0 hf0,h1,h2,h3,by (exact ak)⟩
theorem EW (c:gX) (es:List aX):kG c es=bif !c.one.on then ⟨(bV c ⟨es,[]⟩ c.page c.acc).s,(bV c ⟨es,[]⟩ c.page c.acc).n,(bV c ⟨es,[]⟩ c.page c.acc).f⟩ else bif c.pk.use && decide (0≤fQ c es) then ⟨⟨es,[]⟩,(es.getD (fQ c es).toNat default).frame,eU⟩ else BK c ⟨es,[]⟩:=by
 unfold kG zI BK dB jR
 cases hc:(c.pk.use && decide (0≤dw c es)) with
 | true=>simp only [hc,cond_true,eU,decide_true,Bool.not_true,cond_false]
 | false=>
  simp only [hc,cond_false]
  rw [rX]
theorem EX (c:gX) (hk:jX c) (cap:Nat) (hcc:c.ws.length≤cap) {p:Option Addr} {w:World} {Wb:Nat} {ev dv rv:Value} {he hd hr:Hp} (es:List aX) (ds:List eH) (hE:gG c.ws.length es ds) (ha:PtD.bH c.acc 0 2=true)
  (hm:bT w (Wb::(he++hd++hr).map (·.b)) (.slice p c.ws.length cap) 1 (c.ws.map uV)) (h1:Own 81 14 ev he ((⟨es,[]⟩:kZ).es.map cu)) (h2:Own 109 4 dv hd (ds.map iw)) (h3:Own 3 1 rv hr ((⟨es,[]⟩:kZ).rd.map dH)) (hN:jb (⟨Wb,nV c (.slice p c.ws.length cap) ev dv rv,99⟩::(he++hd++hr)) w):
  Fn Tryz.prog 34 [.pointer (some ⟨Wb,0,none⟩)].toArray w (Wb::(he++hd++hr).map (·.b)) (fun u hn=>∃ (ev' uk rv':Value) (he' hd' hr':Hp),u=.tuple #[.int .i64 (kG c es).n,yj (kG c es).f]∧Own 81 14 ev' he' ((kG c es).s.es.map cu)∧Own 109 4 uk hd' (ds.map iw)∧Own 3 1 rv' hr' ((kG c es).s.rd.map dH)∧aI (⟨Wb,nV c (.slice p c.ws.length cap) ev' uk rv',99⟩::(he'++hd'++hr')) hn):=by
 have hcap:=h1.cap
 obtain ⟨qe,ce,ee⟩:=h1.opened
 obtain ⟨qd,cd,ed⟩:=h2.opened
 obtain ⟨qr,cr,er⟩:=h3.opened
 rw [List.length_map] at ee ed er
 subst ee ed er
 simp only [nV] at hN ⊢
 have Ac:=cO hk.mem
 have hem:=hE.may
 have ho:=dX.fC hk.one
 have htw:=dX.fC hk.two
 have hm':=hm
 rw [EW]
 refine kN _ hN Tryz.func34 ?_
 refine run ?_
 intro R
 refine run ?_
 refine ah _ rfl (fun hc=>?_) (fun hc=>?_)
 ·rw [hc,cond_true]
  refine run ?_
  have hcall:=fun (wc:World) (hG:jb (⟨Wb,#[.slice p c.ws.length cap,.slice qe es.length ce,.slice qd ds.length cd,.int .i64 c.pk.cpu,.bool c.pk.fill,.bool c.pk.aP,.bool c.pk.walk,.int .i64 c.pk.drop,.bool c.pk.use,.bool c.one.on,.int .i64 c.one.frame,.int .i64 c.one.tag,.bool c.two.on,.int .i64 c.two.frame,.int .i64 c.two.tag,.int .i64 (c.page:Int),.int .i64 c.acc,.slice qr ([]:List Int).length cr],99⟩::(he++hd++hr)) wc) (hm:bT wc (Wb::(he++hd++hr).map (·.b)) (.slice p c.ws.length cap) 1 (c.ws.map uV))=>yC c hk cap hcc ⟨es,[]⟩ ds c.page hk.page c.acc ha hE UC hm h1 h2 h3 hG
  refine Ja 15 9 (⟨Wb,#[.slice p c.ws.length cap,.slice qe es.length ce,.slice qd ds.length cd,.int .i64 c.pk.cpu,.bool c.pk.fill,.bool c.pk.aP,.bool c.pk.walk,.int .i64 c.pk.drop,.bool c.pk.use,.bool c.one.on,.int .i64 c.one.frame,.int .i64 c.one.tag,.bool c.two.on,.int .i64 c.two.frame,.int .i64 c.two.tag,.int .i64 (c.page:Int),.int .i64 c.acc,.slice qr ([]:List Int).length cr],99⟩::(he++hd++hr)) (⟨R,#[.int .i64 0,.int .i64 0,.int .i64 0,.bool false,.int .i64 0],50⟩::[]) [0,1,2,3,4,5,6,7,8] [9,13,14] [10,11,12] [] [15,16] ?_
  refine fJ ?_
  refine MF (fun wc hG=>hcall wc hG.jK (hm.into hG)) (hcall w hN hm).some ?_
  refine yE ?_
  refine yE ?_
  refine Qh ?_
  rintro _ _ ⟨A2,rfl,rfl⟩ _ _ ⟨A1,rfl,rfl⟩ u1 hn1 ⟨H,ev1,qC,oO,he1,hd1,hr1,rfl,⟨hH1,hH2⟩,h11,h21,h31,hle1⟩
  simp only [nV] at hle1
  generalize bV c ⟨es,[]⟩ c.page c.acc=Y at hH1 hH2 h11 h31 ⊢
  refine y8 ?_
  refine dR ?_
  refine dR ?_
  refine lK ?_
  refine lK ?_
  simp only [DN,List.cons_append,List.nil_append,List.append_nil]
  refine aN (b:=A1) (tb:=48) (cs:=#[.int .i64 0,.int .i64 0,.bool false,.bool false,.bool false,.bool false,.bool false,.int .i64 0,.int .i64 0]) (cs':=#[.int .i64 H.frame,.int .i64 H.mid,.bool H.r,.bool H.w,.bool H.x,.bool H.af,.bool H.ng,.int .i64 H.soft,.int .i64 H.level]) (hp':=⟨A2,#[.int .i64 0,.int .i64 0,.int .i64 0,.bool false,.int .i64 0],50⟩::(hn1++[⟨R,#[.int .i64 0,.int .i64 0,.int .i64 0,.bool false,.int .i64 0],50⟩])) ?_ az
  refine aN (b:=A2) (tb:=50) (cs:=#[.int .i64 0,.int .i64 0,.int .i64 0,.bool false,.int .i64 0]) (cs':=#[.int .i64 Y.f.kind,.int .i64 Y.f.stage,.int .i64 Y.f.level,.bool Y.f.walk,.int .i64 Y.f.page]) (hp':=⟨A1,#[.int .i64 H.frame,.int .i64 H.mid,.bool H.r,.bool H.w,.bool H.x,.bool H.af,.bool H.ng,.int .i64 H.soft,.int .i64 H.level],48⟩::(hn1++[⟨R,#[.int .i64 0,.int .i64 0,.int .i64 0,.bool false,.int .i64 0],50⟩])) ?_ az
  refine bf ?_
  refine dY ?_
  refine aZ (⟨A2,#[.int .i64 Y.f.kind,.int .i64 Y.f.stage,.int .i64 Y.f.level,.bool Y.f.walk,.int .i64 Y.f.page],50⟩::⟨A1,#[.int .i64 H.frame,.int .i64 H.mid,.bool H.r,.bool H.w,.bool H.x,.bool H.af,.bool H.ng,.int .i64 H.soft,.int .i64 H.level],48⟩::⟨R,#[.int .i64 0,.int .i64 0,.int .i64 0,.bool false,.int .i64 0],50⟩::⟨Wb,#[.slice p c.ws.length cap,ev1,qC,.int .i64 c.pk.cpu,.bool c.pk.fill,.bool c.pk.aP,.bool c.pk.walk,.int .i64 c.pk.drop,.bool c.pk.use,.bool c.one.on,.int .i64 c.one.frame,.int .i64 c.one.tag,.bool c.two.on,.int .i64 c.two.frame,.int .i64 c.two.tag,.int .i64 (c.page:Int),.int .i64 c.acc,oO],99⟩::(he1++hd1++hr1)) (cnt1 hle1) ?_
  refine run ?_
  refine jO 2 ?_
  refine eG 5 4 [0,1,2,3] [4] (⟨A2,#[.int .i64 Y.f.kind,.int .i64 Y.f.stage,.int .i64 Y.f.level,.bool Y.f.walk,.int .i64 Y.f.page],50⟩::⟨A1,#[.int .i64 H.frame,.int .i64 H.mid,.bool H.r,.bool H.w,.bool H.x,.bool H.af,.bool H.ng,.int .i64 H.soft,.int .i64 H.level],48⟩::⟨Wb,#[.slice p c.ws.length cap,ev1,qC,.int .i64 c.pk.cpu,.bool c.pk.fill,.bool c.pk.aP,.bool c.pk.walk,.int .i64 c.pk.drop,.bool c.pk.use,.bool c.one.on,.int .i64 c.one.frame,.int .i64 c.one.tag,.bool c.two.on,.int .i64 c.two.frame,.int .i64 c.two.tag,.int .i64 (c.page:Int),.int .i64 c.acc,oO],99⟩::(he1++hd1++hr1)) ?_
  refine dV ?_
  refine aN (b:=R) (tb:=50) (cs:=#[.int .i64 0,.int .i64 0,.int .i64 0,.bool false,.int .i64 0]) (cs':=#[.int .i64 Y.f.kind,.int .i64 Y.f.stage,.int .i64 Y.f.level,.bool Y.f.walk,.int .i64 Y.f.page]) (hp':=⟨A2,#[.int .i64 Y.f.kind,.int .i64 Y.f.stage,.int .i64 Y.f.level,.bool Y.f.walk,.int .i64 Y.f.page],50⟩::⟨A1,#[.int .i64 H.frame,.int .i64 H.mid,.bool H.r,.bool H.w,.bool H.x,.bool H.af,.bool H.ng,.int .i64 H.soft,.int .i64 H.level],48⟩::⟨Wb,#[.slice p c.ws.length cap,ev1,qC,.int .i64 c.pk.cpu,.bool c.pk.fill,.bool c.pk.aP,.bool c.pk.walk,.int .i64 c.pk.drop,.bool c.pk.use,.bool c.one.on,.int .i64 c.one.frame,.int .i64 c.one.tag,.bool c.two.on,.int .i64 c.two.frame,.int .i64 c.two.tag,.int .i64 (c.page:Int),.int .i64 c.acc,oO],99⟩::(he1++hd1++hr1)) ?_ az
  refine bf ?_
  refine dY ?_
  refine run ?_
  exact Dx (v:=.int .i64 H.frame) (cs:=#[.int .i64 Y.f.kind,.int .i64 Y.f.stage,.int .i64 Y.f.level,.bool Y.f.walk,.int .i64 Y.f.page]) ⟨_,_,_,he1,hd1,hr1,by rw [hH1],h11,h21,h31,by (exact ak)⟩
 rw [hc,cond_false]
 refine run ?_
 refine fZ (σ:=Unit) (fun _=>[]) (fun _=>⟨R,#[.int .i64 0,.int .i64 0,.int .i64 0,.bool false,.int .i64 0],50⟩::⟨Wb,#[.slice p c.ws.length cap,.slice qe es.length ce,.slice qd ds.length cd,.int .i64 c.pk.cpu,.bool c.pk.fill,.bool c.pk.aP,.bool c.pk.walk,.int .i64 c.pk.drop,.bool c.pk.use,.bool c.one.on,.int .i64 c.one.frame,.int .i64 c.one.tag,.bool c.two.on,.int .i64 c.two.frame,.int .i64 c.two.tag,.int .i64 (c.page:Int),.int .i64 c.acc,.slice qr ([]:List Int).length cr],99⟩::(he++hd++hr)) (fun _=>(c.pk.use && decide (0≤fQ c es))=false) ?_ ?_
 ·refine ah _ rfl (fun hc1=>?_) (fun hc1=>?_)
  ·refine run ?_
   have hmm:=fun {wc:World} (ha1:aF wc (.slice qe es.length ce) 14 (es.map cu)) (hb1:aF wc (.slice qd ds.length cd) 4 (ds.map iw))=>IY ha1 hb1 hcap hE.FI c.two.tag c.one.tag c.page c.acc (iO htw.2.1 htw.2.2) (iO ho.2.1 ho.2.2) hk.page ha
   rw [kH,show dh (gU c.two.tag c.one.tag c.page c.acc) es=fQ c es from rfl] at hmm
   obtain ⟨E,hEE⟩:∃ E,E=(bif decide (0≤fQ c es) then es.getD (fQ c es).toNat default else default):=⟨_,rfl⟩
   rw [← hEE] at hmm
   refine mY 28 27 [0,1,2,3,4,5,6,7,8,9,10,11,12,13,14,15,16,17,18,19,20,21,22,23,24,25] [26] [27] (⟨R,#[.int .i64 0,.int .i64 0,.int .i64 0,.bool false,.int .i64 0],50⟩::⟨Wb,#[.slice p c.ws.length cap,.slice qe es.length ce,.slice qd ds.length cd,.int .i64 c.pk.cpu,.bool c.pk.fill,.bool c.pk.aP,.bool c.pk.walk,.int .i64 c.pk.drop,.bool c.pk.use,.bool c.one.on,.int .i64 c.one.frame,.int .i64 c.one.tag,.bool c.two.on,.int .i64 c.two.frame,.int .i64 c.two.tag,.int .i64 (c.page:Int),.int .i64 c.acc,.slice qr ([]:List Int).length cr],99⟩::(he++hd++hr)) ?_
   refine dV ?_
   refine rq (fun wc hx hG=>hmm (h1.lie (fun b hb=>hG.here b UQ) (by rw [List.length_map];dsimp only;omega)) (h2.lie (fun b hb=>hG.here b UQ) UI)) ?_
   refine dV ?_
   refine kL ?_
   refine kM ?_
   rintro _ _ ⟨X,rfl,rfl⟩
   simp only [DN,List.cons_append,List.nil_append,List.append_nil]
   refine aN (b:=X) (tb:=81) (cs:=#[.int .i64 0,.int .i64 0,.int .i64 0,.bool false,.int .i64 0,.int .i64 0,.int .i64 0,.int .i64 0,.bool false,.bool false,.bool false,.bool false,.bool false,.int .i64 0]) (cs':=#[.int .i64 E.kind,.int .i64 E.iF,.int .i64 E.jf,.bool E.all,.int .i64 E.page,.int .i64 E.level,.int .i64 E.frame,.int .i64 E.mid,.bool E.r,.bool E.w,.bool E.x,.bool E.af,.bool E.ng,.int .i64 E.soft]) (hp':=⟨R,#[.int .i64 0,.int .i64 0,.int .i64 0,.bool false,.int .i64 0],50⟩::⟨Wb,#[.slice p c.ws.length cap,.slice qe es.length ce,.slice qd ds.length cd,.int .i64 c.pk.cpu,.bool c.pk.fill,.bool c.pk.aP,.bool c.pk.walk,.int .i64 c.pk.drop,.bool c.pk.use,.bool c.one.on,.int .i64 c.one.frame,.int .i64 c.one.tag,.bool c.two.on,.int .i64 c.two.frame,.int .i64 c.two.tag,.int .i64 (c.page:Int),.int .i64 c.acc,.slice qr ([]:List Int).length cr],99⟩::(he++hd++hr)) ?_ az
   refine bf ?_
   refine dY ?_
   refine run ?_
   refine ah _ rfl (fun hc2=>?_) (fun hc2=>?_)
   ·have h0:0≤fQ c es:=by
     cases hq:decide (0≤fQ c es) with
     | true=>exact of_decide_eq_true hq
     | false=>rw [hq] at hc2;simp at hc2
    simp only [h0,decide_true,cond_true] at hEE
    rw [show (c.pk.use && decide (0≤fQ c es))=true by rw [hc1,decide_eq_true h0];rfl,cond_true,← hEE]
    refine run ?_
    exact Dx (v:=.int .i64 E.frame) (cs:=#[.int .i64 0,.int .i64 0,.int .i64 0,.bool false,.int .i64 0]) ⟨_,_,_,he,hd,hr,rfl,h1,h2,h3,by (exact ak)⟩
   ·refine run ?_
    exact eY () (by
     rw [hc1,Bool.true_and]
     cases hq:decide (0≤fQ c es) with
     | false=>rfl
     | true=>rw [hq] at hc2;simp at hc2)
  ·refine run ?_
   exact eY () (by rw [hc1];rfl)
 rintro ⟨⟩ hcut
 rw [hcut,cond_false]
 refine run ?_
 refine kR (⟨Wb,#[.slice p c.ws.length cap,.slice qe es.length ce,.slice qd ds.length cd,.int .i64 c.pk.cpu,.bool c.pk.fill,.bool c.pk.aP,.bool c.pk.walk,.int .i64 c.pk.drop,.bool c.pk.use,.bool c.one.on,.int .i64 c.one.frame,.int .i64 c.one.tag,.bool c.two.on,.int .i64 c.two.frame,.int .i64 c.two.tag,.int .i64 (c.page:Int),.int .i64 c.acc,.slice qr ([]:List Int).length cr],99⟩::(he++hd++hr)) [⟨R,#[.int .i64 0,.int .i64 0,.int .i64 0,.bool false,.int .i64 0],50⟩] (fun wc hG=>EU c hk cap hcc ⟨es,[]⟩ ds hE ha UC (hm.into hG) h1 h2 h3 hG.jK) ?_ az
 rintro u1 hn1 ⟨H,X,M,d,ev1,qC,oO,he1,hd1,hr1,hX,Qv,Um,rfl,hH1,hH2,h11,h21,h31,hle1⟩
 simp only [nV] at hle1
 refine aZ (⟨R,#[.int .i64 0,.int .i64 0,.int .i64 0,.bool false,.int .i64 0],50⟩::⟨Wb,#[.slice p c.ws.length cap,ev1,qC,.int .i64 c.pk.cpu,.bool c.pk.fill,.bool c.pk.aP,.bool c.pk.walk,.int .i64 c.pk.drop,.bool c.pk.use,.bool c.one.on,.int .i64 c.one.frame,.int .i64 c.one.tag,.bool c.two.on,.int .i64 c.two.frame,.int .i64 c.two.tag,.int .i64 (c.page:Int),.int .i64 c.acc,oO],99⟩::(he1++hd1++hr1)) (cnt1 hle1) ?_
 refine run ?_
 intro HB F
 refine ah _ rfl (fun hc3=>?_) (fun hc3=>?_)
 ·rw [← hX,ER,hc3,cond_true]
  refine run ?_
  refine jO 2 ?_
  refine eG 3 2 [0,1] [2] (⟨F,#[.int .i64 X.f.kind,.int .i64 X.f.stage,.int .i64 X.f.level,.bool X.f.walk,.int .i64 X.f.page],50⟩::⟨HB,#[.int .i64 H.frame,.int .i64 H.mid,.bool H.r,.bool H.w,.bool H.x,.bool H.af,.bool H.ng,.int .i64 H.soft,.int .i64 H.level],48⟩::⟨Wb,#[.slice p c.ws.length cap,ev1,qC,.int .i64 c.pk.cpu,.bool c.pk.fill,.bool c.pk.aP,.bool c.pk.walk,.int .i64 c.pk.drop,.bool c.pk.use,.bool c.one.on,.int .i64 c.one.frame,.int .i64 c.one.tag,.bool c.two.on,.int .i64 c.two.frame,.int .i64 c.two.tag,.int .i64 (c.page:Int),.int .i64 c.acc,oO],99⟩::(he1++hd1++hr1)) ?_
  refine dV ?_
  refine aN (b:=R) (tb:=50) (cs:=#[.int .i64 0,.int .i64 0,.int .i64 0,.bool false,.int .i64 0]) (cs':=#[.int .i64 X.f.kind,.int .i64 X.f.stage,.int .i64 X.f.level,.bool X.f.walk,.int .i64 X.f.page]) (hp':=⟨F,#[.int .i64 X.f.kind,.int .i64 X.f.stage,.int .i64 X.f.level,.bool X.f.walk,.int .i64 X.f.page],50⟩::⟨HB,#[.int .i64 H.frame,.int .i64 H.mid,.bool H.r,.bool H.w,.bool H.x,.bool H.af,.bool H.ng,.int .i64 H.soft,.int .i64 H.level],48⟩::⟨Wb,#[.slice p c.ws.length cap,ev1,qC,.int .i64 c.pk.cpu,.bool c.pk.fill,.bool c.pk.aP,.bool c.pk.walk,.int .i64 c.pk.drop,.bool c.pk.use,.bool c.one.on,.int .i64 c.one.frame,.int .i64 c.one.tag,.bool c.two.on,.int .i64 c.two.frame,.int .i64 c.two.tag,.int .i64 (c.page:Int),.int .i64 c.acc,oO],99⟩::(he1++hd1++hr1)) ?_ az
  refine bf ?_
  refine dY ?_
  refine run ?_
  exact Dx (v:=.int .i64 0) (cs:=#[.int .i64 X.f.kind,.int .i64 X.f.stage,.int .i64 X.f.level,.bool X.f.walk,.int .i64 X.f.page]) ⟨_,_,_,he1,hd1,hr1,rfl,h11,h21,h31,by (exact ak)⟩
 have hf0:X.f.kind=0:=by simpa using hc3
 obtain ⟨hM,TU,Rx,TV,TW,Tc⟩:=hH2 hf0
 have hEq:cu (sG c H.frame M d X.a)=[.int .i64 1,.int .i64 c.two.tag,.int .i64 c.one.tag,.bool !H.ng,.int .i64 (c.page:Int),.int .i64 0,.int .i64 H.frame,.int .i64 H.mid,.bool H.r,.bool H.w,.bool H.x,.bool H.af,.bool H.ng,.int .i64 H.soft]:=by
  rw [AtD.mk.injEq] at Tc
  obtain ⟨e1,e2,e3,e4,e5⟩:=Tc
  rw [TV,TW,e1,e2,e3,e4,e5]
  rfl
 rw [← hX,ER,hc3,cond_false]
 refine run ?_
 obtain ⟨es',hes⟩:∃ es',es'=(bif c.pk.fill then iI X.s.es (sG c X.n M d X.a) else X.s.es):=⟨_,rfl⟩
 rw [← hes]
 have Un:=Qv.may
 refine fZ (σ:=Value × Value × Hp × Hp) (fun _=>[]) (fun z=>⟨F,#[.int .i64 X.f.kind,.int .i64 X.f.stage,.int .i64 X.f.level,.bool X.f.walk,.int .i64 X.f.page],50⟩::⟨HB,#[.int .i64 H.frame,.int .i64 H.mid,.bool H.r,.bool H.w,.bool H.x,.bool H.af,.bool H.ng,.int .i64 H.soft,.int .i64 H.level],48⟩::⟨R,#[.int .i64 0,.int .i64 0,.int .i64 0,.bool false,.int .i64 0],50⟩::⟨Wb,#[.slice p c.ws.length cap,z.1,z.2.1,.int .i64 c.pk.cpu,.bool c.pk.fill,.bool c.pk.aP,.bool c.pk.walk,.int .i64 c.pk.drop,.bool c.pk.use,.bool c.one.on,.int .i64 c.one.frame,.int .i64 c.one.tag,.bool c.two.on,.int .i64 c.two.frame,.int .i64 c.two.tag,.int .i64 (c.page:Int),.int .i64 c.acc,oO],99⟩::(z.2.2.1++z.2.2.2++hr1)) (fun z=>Own 81 14 z.1 z.2.2.1 (es'.map cu)∧Own 109 4 z.2.1 z.2.2.2 (ds.map iw)) ?_ ?_
 ·refine ah _ rfl (fun hc4=>?_) (fun hc4=>?_)
  ·rw [hc4,cond_true] at hes
   subst hes
   have hF:=fun (wc:World) (hG:jb (⟨Wb,#[.slice p c.ws.length cap,ev1,qC,.int .i64 c.pk.cpu,.bool c.pk.fill,.bool c.pk.aP,.bool c.pk.walk,.int .i64 c.pk.drop,.bool c.pk.use,.bool c.one.on,.int .i64 c.one.frame,.int .i64 c.one.tag,.bool c.two.on,.int .i64 c.two.frame,.int .i64 c.two.tag,.int .i64 (c.page:Int),.int .i64 c.acc,oO],99⟩::(he1++hd1++hr1)) wc)=>vG c X.s.es ds Qv.FI (sG c H.frame M d X.a) (zM hk hM (by rw [hH1];exact TU)) ⟨_,_,_,rfl⟩ ⟨_,_,_,h31.opened.choose_spec.choose_spec⟩ h11 h21 hG
   rw [hEq] at hF
   refine run ?_
   refine ja 26 ?_
   refine gp ?_
   refine kR (⟨Wb,#[.slice p c.ws.length cap,ev1,qC,.int .i64 c.pk.cpu,.bool c.pk.fill,.bool c.pk.aP,.bool c.pk.walk,.int .i64 c.pk.drop,.bool c.pk.use,.bool c.one.on,.int .i64 c.one.frame,.int .i64 c.one.tag,.bool c.two.on,.int .i64 c.two.frame,.int .i64 c.two.tag,.int .i64 (c.page:Int),.int .i64 c.acc,oO],99⟩::(he1++hd1++hr1)) (⟨F,#[.int .i64 X.f.kind,.int .i64 X.f.stage,.int .i64 X.f.level,.bool X.f.walk,.int .i64 X.f.page],50⟩::⟨HB,#[.int .i64 H.frame,.int .i64 H.mid,.bool H.r,.bool H.w,.bool H.x,.bool H.af,.bool H.ng,.int .i64 H.soft,.int .i64 H.level],48⟩::⟨R,#[.int .i64 0,.int .i64 0,.int .i64 0,.bool false,.int .i64 0],50⟩::[]) (fun wc hG=>hF wc hG.jK) ?_ az
   rintro u7 SS ⟨MB,Qc,Qd,hd7,rfl,h17,h27,zT⟩
   simp only [nV] at zT
   rw [hH1] at h17
   refine run ?_
   exact eY (MB,Qc,Qd,hd7) ⟨h17,h27⟩ (h2:=by (exact cnt1 zT))
  ·rw [hc4,cond_false] at hes
   subst hes
   refine run ?_
   exact eY (ev1,qC,he1,hd1) ⟨h11,h21⟩ (h2:=by (exact ak))
 rintro ⟨vK,Ae,he2,hd2⟩ ⟨h1',h2'⟩
 dsimp only at h1' h2' ⊢
 refine run ?_
 refine jO 2 ?_
 refine eG 5 4 [0,1,2,3] [4] (⟨F,#[.int .i64 X.f.kind,.int .i64 X.f.stage,.int .i64 X.f.level,.bool X.f.walk,.int .i64 X.f.page],50⟩::⟨HB,#[.int .i64 H.frame,.int .i64 H.mid,.bool H.r,.bool H.w,.bool H.x,.bool H.af,.bool H.ng,.int .i64 H.soft,.int .i64 H.level],48⟩::⟨Wb,#[.slice p c.ws.length cap,vK,Ae,.int .i64 c.pk.cpu,.bool c.pk.fill,.bool c.pk.aP,.bool c.pk.walk,.int .i64 c.pk.drop,.bool c.pk.use,.bool c.one.on,.int .i64 c.one.frame,.int .i64 c.one.tag,.bool c.two.on,.int .i64 c.two.frame,.int .i64 c.two.tag,.int .i64 (c.page:Int),.int .i64 c.acc,oO],99⟩::(he2++hd2++hr1)) ?_
 refine dV ?_
 refine aN (b:=R) (tb:=50) (cs:=#[.int .i64 0,.int .i64 0,.int .i64 0,.bool false,.int .i64 0]) (cs':=#[.int .i64 X.f.kind,.int .i64 X.f.stage,.int .i64 X.f.level,.bool X.f.walk,.int .i64 X.f.page]) (hp':=⟨F,#[.int .i64 X.f.kind,.int .i64 X.f.stage,.int .i64 X.f.level,.bool X.f.walk,.int .i64 X.f.page],50⟩::⟨HB,#[.int .i64 H.frame,.int .i64 H.mid,.bool H.r,.bool H.w,.bool H.x,.bool H.af,.bool H.ng,.int .i64 H.soft,.int .i64 H.level],48⟩::⟨Wb,#[.slice p c.ws.length cap,vK,Ae,.int .i64 c.pk.cpu,.bool c.pk.fill,.bool c.pk.aP,.bool c.pk.walk,.int .i64 c.pk.drop,.bool c.pk.use,.bool c.one.on,.int .i64 c.one.frame,.int .i64 c.one.tag,.bool c.two.on,.int .i64 c.two.frame,.int .i64 c.two.tag,.int .i64 (c.page:Int),.int .i64 c.acc,oO],99⟩::(he2++hd2++hr1)) ?_ az
 refine bf ?_
 refine dY ?_
 refine run ?_
 exact Dx (v:=.int .i64 H.frame) (cs:=#[.int .i64 X.f.kind,.int .i64 X.f.stage,.int .i64 X.f.level,.bool X.f.walk,.int .i64 X.f.page]) ⟨_,_,_,he2,hd2,hr1,by rw [hH1,Rx],h1',h2',h31,by (exact ak)⟩
end
end Go.Proofs.YtiggoglimlnmmaaGreat
