/- Texts of one's own, merged: the engine, what the functions do, plain laws. -/
import Derived.Test.YtellmabgmnbhcaaGreatPv2
namespace Go.Proofs.YtellmabgmnbhcaaGreat
open Go.RowKit
set_option linter.unusedVariables false
set_option linter.unusedSimpArgs false
set_option maxRecDepth 20000
variable {w:World}{n level page a t b e k i fuel:Nat}{v:Value}{x:Operand}{l:Fm}{g:Nat→Nat}{all:Array Oper}
abbrev uV(x:Nat):List Value:=[.int .u64 (x:Int)]
abbrev dsR(d:DsD):List Value:=[.int .i64 d.kind,.int .i64 d.frame,.bool d.r,.bool d.w,.bool d.x,.bool d.af,.bool d.ng,.int .i64 d.soft,.int .i64 d.note]
section
attribute [local irreducible] Hy St Ops DH dI
theorem SQ(xs:List Nat)(u v:Value)(hu:aA w u 1 (xs.map uV))(hv:aA w v 1 (xs.map uV)):Fn Tryz.prog 274 [u,v].toArray w [] (fun r _=>r=.bool true):=by
 obtain⟨q,cap,rfl,hne,hle⟩:=hu.opened;obtain⟨q2,cap2,rfl,hne2,_⟩:=hv.opened;refine enter Tryz.func274 ?_;refine run ?_;refine ah _ rfl (fun hc=>absurd hc bx8) (fun hc=>?_);refine run ?_;refine aK (σ:=Nat) (fun k=>[(5,.int .i64 (k:Int))]) (fun _=>[]) (fun k=>k≤xs.length) (fun k=>xs.length-k) 0 (bF4 _) ?_;rintro k m hm hk;refine run ?_;refine ah _ rfl (fun hc=>?_) (fun hc=>?_)
 ·have hlt:k<xs.length:=by simp at hc;omega
  obtain⟨b,o,rfl⟩:=hne by0;obtain⟨b2,o2,rfl⟩:=hne2 by0;have h1:=aj (hu.row hlt);have h2:=aj (hv.row hlt);simp only[uV,bH6] at h1 h2;refine run ?_;refine dF ?_;refine dJ ?_;refine run ?_;refine ah _ rfl (fun hp=>?_) (fun hp=>?_)
  ·simp[aW,iF] at hp
  ·refine run ?_;exact aF (k+1) hlt
 ·refine run ?_;exact fin1 rfl
theorem Ky(xs:List Nat)(v:Value)(h:aA w v 1 (xs.map uV))(hl:xs.length<1000000):Fn Tryz.prog 258 [v].toArray w [] (fun u hp=>Acc 53 1 u hp (xs.map uV)):=by
 obtain⟨q,cap,rfl,hne,hle⟩:=h.opened;refine enter Tryz.func258 ?_;refine run ?_;refine aK (σ:=Nat×Value×Hp) (fun s=>[(3,s.2.1),(4,.int .i64 (s.1:Int))]) (fun s=>s.2.2) (fun s=>s.1≤xs.length∧Acc 53 1 s.2.1 s.2.2 ((xs.take s.1).map uV)) (fun s=>xs.length-s.1) (0,_,[]) ⟨by omega,Acc.nil _ _⟩ ?_;rintro⟨k,v,ha⟩ m hm ⟨hk,hA⟩;dsimp only at hm hk hA ⊢;refine run ?_;refine ah _ rfl (fun hc=>?_) (fun hc=>?_)
 ·have hlt:k<xs.length:=by simp at hc;omega
  obtain⟨b,o,rfl⟩:=hne by0;have h1:=aj (h.row hlt);simp only[uV,bH6] at h1;refine run ?_;intro T;refine dK (c:=uV (xs.getD k default)) hA (fun v' ha' hA'=>?_) by6 (aX (m:=1) mh rfl);refine run ?_;refine aF (k+1,v',ha') ⟨hlt,?_⟩;dsimp only;rw[dU hlt,bG5];exact hA'
 ·have:k=xs.length:=by simp at hc;omega
  subst this;refine run ?_;refine fin1 ?_;simpa using hA
theorem Be(xs:List Int)(u v:Value)(hu:aA w u 1 (xs.map bY))(hv:aA w v 1 (xs.map bY)):Fn Tryz.prog 327 [u,v].toArray w [] (fun r _=>r=.bool true):=by
 obtain⟨q,cap,rfl,hne,hle⟩:=hu.opened;obtain⟨q2,cap2,rfl,hne2,_⟩:=hv.opened;refine enter Tryz.func327 ?_;refine run ?_;refine ah _ rfl (fun hc=>absurd hc bx8) (fun hc=>?_);refine run ?_;refine aK (σ:=Nat) (fun k=>[(5,.int .i64 (k:Int))]) (fun _=>[]) (fun k=>k≤xs.length) (fun k=>xs.length-k) 0 (bF4 _) ?_;rintro k m hm hk;refine run ?_;refine ah _ rfl (fun hc=>?_) (fun hc=>?_)
 ·have hlt:k<xs.length:=by simp at hc;omega
  obtain⟨b,o,rfl⟩:=hne by0;obtain⟨b2,o2,rfl⟩:=hne2 by0;have h1:=aj (hu.row hlt);have h2:=aj (hv.row hlt);simp only[bY,bH6] at h1 h2;refine run ?_;refine dF ?_;refine dJ ?_;refine run ?_;refine ah _ rfl (fun hp=>?_) (fun hp=>?_)
  ·simp[aW,iF] at hp
  ·refine run ?_;exact aF (k+1) hlt
 ·refine run ?_;exact fin1 rfl
theorem qN(xs:List Int)(v:Value)(h:aA w v 1 (xs.map bY))(hl:xs.length<1000000):Fn Tryz.prog 107 [v].toArray w [] (fun u hp=>Acc 3 1 u hp (xs.map bY)):=by
 obtain⟨q,cap,rfl,hne,hle⟩:=h.opened;refine enter Tryz.func107 ?_;refine run ?_;refine aK (σ:=Nat×Value×Hp) (fun s=>[(3,s.2.1),(4,.int .i64 (s.1:Int))]) (fun s=>s.2.2) (fun s=>s.1≤xs.length∧Acc 3 1 s.2.1 s.2.2 ((xs.take s.1).map bY)) (fun s=>xs.length-s.1) (0,_,[]) ⟨by omega,Acc.nil _ _⟩ ?_;rintro⟨k,v,ha⟩ m hm ⟨hk,hA⟩;dsimp only at hm hk hA ⊢;refine run ?_;refine ah _ rfl (fun hc=>?_) (fun hc=>?_)
 ·have hlt:k<xs.length:=by simp at hc;omega
  obtain⟨b,o,rfl⟩:=hne by0;have h1:=aj (h.row hlt);simp only[bY,bH6] at h1;refine run ?_;intro T;refine dK (c:=bY (xs.getD k default)) hA (fun v' ha' hA'=>?_) by6 (aX (m:=1) mh rfl);refine run ?_;refine aF (k+1,v',ha') ⟨hlt,?_⟩;dsimp only;rw[dU hlt,bG5];exact hA'
 ·have:k=xs.length:=by simp at hc;omega
  subst this;refine run ?_;refine fin1 ?_;simpa using hA
theorem qG(v:Value)(xs:List (List Value))(h:aA w v 1 xs)(hall:∀ c∈xs,c.length=1∧c.all (·.oneCell')=true)(hl:xs.length<1000000):Fn Tryz.prog 74 [v].toArray w [] (fun u hn=>Own 3 1 u hn xs):=by
 obtain⟨⟨q,cap,rfl,hne⟩,_⟩:=h;refine enter Tryz.func74 ?_;refine run ?_;refine jI by5 (nC aB rfl rfl) ?_;refine run ?_;refine ah _ rfl (fun hp=>?_) (fun hp=>?_)
 ·obtain rfl:xs=[]:=by
   rcases bJ8 (xs=[]) with h | h
   ·exact h
   ·obtain⟨b,o,rfl,_⟩:=hne h;cases hp
  refine run ?_;refine fin1 ?_;exact⟨by simp,.inl ⟨rfl,rfl,rfl⟩⟩
 refine run ?_;refine iC aB by5 by5 (fun g=>?_);refine run ?_;rcases bJ8 (xs=[]) with rfl | hx
 ·cases q with
  | none=>cases hp
  | some q=>
  refine jI by5 (iy aB (jc:=0) rfl rfl rfl (bG0 _)) ?_;refine run ?_;refine fin1 ?_;exact⟨by simp,.inr ⟨g,0,#[],rfl,rfl,⟨rfl,bG0 _,by decide,rfl,rfl⟩⟩⟩
 ·obtain⟨b,o,rfl,hr⟩:=hne hx;refine eF aB by5 rfl ⟨rfl,bG0 _,by decide,rfl,rfl⟩ rfl rfl rfl rfl rfl rfl (.refl _) rfl hall hr bx8 hl (fun v' ha' hA=>?_);refine run ?_;refine fin1 ?_;rw[bG3];exact hA
theorem oN(v:Value)(xs:List (List Value))(h:aA w v 1 xs)(hall:∀ c∈xs,c.length=1∧c.all (·.oneCell')=true)(hl:xs.length<1000000):Fn Tryz.prog 69 [v].toArray w [] (fun u hn=>Own 53 1 u hn xs):=by
 obtain⟨⟨q,cap,rfl,hne⟩,_⟩:=h;refine enter Tryz.func69 ?_;refine run ?_;refine jI by5 (nC aB rfl rfl) ?_;refine run ?_;refine ah _ rfl (fun hp=>?_) (fun hp=>?_)
 ·obtain rfl:xs=[]:=by
   rcases bJ8 (xs=[]) with h | h
   ·exact h
   ·obtain⟨b,o,rfl,_⟩:=hne h;cases hp
  refine run ?_;refine fin1 ?_;exact⟨by simp,.inl ⟨rfl,rfl,rfl⟩⟩
 refine run ?_;refine iC aB by5 by5 (fun g=>?_);refine run ?_;rcases bJ8 (xs=[]) with rfl | hx
 ·cases q with
  | none=>cases hp
  | some q=>
  refine jI by5 (iy aB (jc:=0) rfl rfl rfl (bG0 _)) ?_;refine run ?_;refine fin1 ?_;exact⟨by simp,.inr ⟨g,0,#[],rfl,rfl,⟨rfl,bG0 _,by decide,rfl,rfl⟩⟩⟩
 ·obtain⟨b,o,rfl,hr⟩:=hne hx;refine eF aB by5 rfl ⟨rfl,bG0 _,by decide,rfl,rfl⟩ rfl rfl rfl rfl rfl rfl (.refl _) rfl hall hr bx8 hl (fun v' ha' hA=>?_);refine run ?_;refine fin1 ?_;rw[bG3];exact hA
theorem Oe(a:Int)(xs:List Int)(v:Value)(h:aA w v 1 (xs.map bY)):
  Fn Tryz.prog 212 [v,.int .i64 a].toArray w [] (fun u _=>u=.int .i64 (gU (fun t=>decide (t=a)) xs)):=by
 obtain⟨q,cap,rfl,hne,hle⟩:=h.opened;refine enter Tryz.func212 ?_;refine run ?_;refine aK (σ:=Nat) (fun k=>[(8,.int .i64 (k:Int))]) (fun _=>[]) (fun k=>k≤xs.length∧∀ j,j<k→decide (xs.getD j default=a)=false) (fun k=>xs.length-k) 0 ⟨bF4 _,fun j hj=>absurd hj bx6⟩ ?_;rintro k m rfl ⟨hk,hno⟩;refine run ?_;refine ah _ rfl (fun hc=>?_) (fun hc=>?_)
 ·have hlt:k<xs.length:=by simpa using hc
  obtain⟨b,o,rfl⟩:=hne by0;have hr:=aj (h.row hlt);have hr1:=hr;simp only[bH6] at hr1;refine run ?_;refine ah _ rfl (fun hp=>?_) (fun hp=>?_)
  ·refine run ?_;refine fin1 ?_;rw[fF hlt (by simpa [eq_comm] using hp) hno]
  ·refine run ?_;refine aF (k+1) ⟨hlt,fun j hj=>?_⟩;rcases bG1.1 hj with hj | rfl
   ·exact hno j hj
   ·simpa [eq_comm] using hp
 ·have hge:k=xs.length:=by simp at hc;omega
  subst hge;refine run ?_;refine fin1 ?_;rw[dS hno]
theorem jQ(a:Int)(xs:List Int)(v:Value)(h:aA w v 1 (xs.map bY)):
  Fn Tryz.prog 131 [v,.int .i64 a].toArray w [] (fun u _=>u=.bool (xs.any fun t=>decide (t=a))):=by
 refine enter Tryz.func131 ?_;refine run ?_;refine az (fun wc hG=>Oe a xs v (h.good hG)) ?_;refine run ?_;refine fin1 ?_;rw[←gq]
theorem Gq(n m:Int)(w:World):Fn Tryz.prog 96 [.int .i64 n,.int .i64 m].toArray w [] (fun u _=>u=.bool (decide (0≤n)&&decide (n≤m))):=by
 refine enter Tryz.func96 ?_;refine aC ?_;exact fin1 rfl
theorem Kz(a:Int)(xs:List Int)(v:Value)(h:aA w v 1 (xs.map bY)):
  Fn Tryz.prog 44 [v,.int .i64 a].toArray w [] (fun u _=>u=.int .i64 (gU (fun t=>decide (t=a)) xs)):=by
 obtain⟨q,cap,rfl,hne,hle⟩:=h.opened;refine enter Tryz.func44 ?_;refine run ?_;refine aK (σ:=Nat) (fun k=>[(5,.int .i64 (k:Int))]) (fun _=>[]) (fun k=>k≤xs.length∧∀ j,j<k→decide (xs.getD j default=a)=false) (fun k=>xs.length-k) 0 ⟨bF4 _,fun j hj=>absurd hj bx6⟩ ?_;rintro k m rfl ⟨hk,hno⟩;refine run ?_;refine ah _ rfl (fun hc=>?_) (fun hc=>?_)
 ·have hlt:k<xs.length:=by simpa using hc
  obtain⟨b,o,rfl⟩:=hne by0;have hr:=aj (h.row hlt);simp only[bH6] at hr;refine run ?_;refine ah _ rfl (fun hp=>?_) (fun hp=>?_)
  ·refine run ?_;refine fin1 ?_;rw[fF hlt hp hno]
  ·refine run ?_;refine aF (k+1) ⟨hlt,fun j hj=>?_⟩;rcases bG1.1 hj with hj | rfl
   ·exact hno j hj
   ·exact hp
 ·have hge:k=xs.length:=by simp at hc;omega
  subst hge;refine run ?_;refine fin1 ?_;rw[dS hno]
theorem Z9(xs:List Nat)(u v:Value)(hu:aA w u 1 (xs.map uV))(hv:aA w v 1 (xs.map uV)):Fn Tryz.prog 179 [.agg #[u],.agg #[v]].toArray w [] (fun r _=>r=.bool true):=by
 refine enter Tryz.func179 ?_;refine run ?_;intro B C;refine run ?_;refine az (fun wc hG=>SQ _ _ _ (hu.good hG) (hv.good hG)) ?_;refine run ?_;exact fin1 rfl
def WT(ws:List Nat)(u:Value)(hn:Hp):Prop:=∃ v h1,u=.agg #[v]∧Own 53 1 v h1 (ws.map uV)∧aJ h1 hn
theorem Ad(xs:List Nat)(v:Value)(h:aA w v 1 (xs.map uV))(hl:xs.length<1000000):Fn Tryz.prog 171 [.agg #[v]].toArray w [] (fun u hn=>WT xs u hn):=by
 obtain⟨q,cap,rfl,_⟩:=h.opened;refine enter Tryz.func171 ?_;refine run ?_;intro B;refine run ?_;intro X Y;refine run ?_;refine bI (fun wc hG=>Ky xs _ (h.good hG) hl) (fun v' hn hA=>?_);obtain⟨q2,cap2,rfl⟩:=hA.own.opened;refine bZ (_++hn) bG6 ?_;simp only[bF2,bF5];refine run ?_;refine dQ ⟨_,_,rfl,hA.own,?_⟩
 (exact ak)
def fJ(n:Nat):Bool:=decide (8≤n)&&decide (n≤512)&&decide (n%8=0)
theorem bP(h:fJ n=true):8≤n∧n≤512∧n/8*8=n∧n/8≤64:=by
 simp only[fJ,bE8,decide_eq_true_eq] at h;omega
theorem au0(n cap:Nat)(q:Option Addr)(w:World):Fn Tryz.prog 42 [.agg #[.slice q n cap]].toArray w [] (fun u _=>u=.bool (fJ n)):=by
 refine enter Tryz.func42 ?_;refine run ?_;intro B;refine aC ?_;refine UY (hy:=fun hg=>uI bz5 rfl n 8 by5 by5 bx7) (h:=?_);refine aC ?_;refine fin1 ?_
 congr 1
 unfold fJ;have c1:decide ((8:Int)≤(n:Int))=decide (8≤n):=by rw[bF3,decide_eq_true_eq,decide_eq_true_eq];omega
 have c2:decide ((n:Int)≤512)=decide (n≤512):=by rw[bF3,decide_eq_true_eq,decide_eq_true_eq];omega
 have c3:decide (((n%8:Nat):Int)=0)=decide (n%8=0):=by rw[bF3,decide_eq_true_eq,decide_eq_true_eq];omega
 rw[c1,c2,c3]
theorem o8(n cap:Nat)(hn:n<4611686018427387904)(q:Option Addr)(w:World):Fn Tryz.prog 27 [.agg #[.slice q n cap]].toArray w [] (fun u _=>u=.int .i64 ((n/8:Nat):Int)):=by
 refine enter Tryz.func27 ?_;refine run ?_;intro B;refine run ?_;refine jI by5 (uJ rfl rfl n 8 by5 by5 bx7 bx6) ?_;refine run ?_;exact fin1 rfl
theorem WU(n cap:Nat)(hn:n<4611686018427387904)(q:Option Addr)(w:World):Fn Tryz.prog 280 [.agg #[.slice q n cap]].toArray w [] (fun u _=>u=.bool (fJ n)):=by
 refine enter Tryz.func280 ?_;refine run ?_;intro B;refine aC ?_;refine UY (hy:=fun hg=>uI bz5 rfl n 8 by5 by5 bx7) (h:=?_);refine aC ?_;refine UY (hy:=fun hg=>uJ bz5 rfl n 8 by5 by5 bx7 bx6) (h:=?_);refine aC ?_;refine fin1 ?_
 congr 1
 unfold fJ;have c1:decide ((0:Int)<(n:Int))=decide (0<n):=by rw[bF3,decide_eq_true_eq,decide_eq_true_eq];omega
 have c2:decide (((n/8:Nat):Int)≤64)=decide (n/8≤64):=by rw[bF3,decide_eq_true_eq,decide_eq_true_eq];omega
 have c3:decide (((n%8:Nat):Int)=0)=decide (n%8=0):=by rw[bF3,decide_eq_true_eq,decide_eq_true_eq];omega
 rw[c1,c2,c3,bF3];simp only[bE8,decide_eq_true_eq];omega
theorem yL(n cap:Nat)(hn:n<4611686018427387904)(q:Option Addr)(w:World):Fn Tryz.prog 192 [.agg #[.slice q n cap]].toArray w [] (fun u _=>u=.int .i64 (bif fJ n then 0 else 1)):=by
 refine enter Tryz.func192 ?_;refine run ?_;intro B;refine run ?_;refine az (fun wc hG=>WU n cap hn q wc) ?_;refine run ?_;refine ah _ rfl (fun hc=>?_) (fun hc=>?_)
 ·refine run ?_;refine fin1 ?_;have:fJ n=false:=by simpa using hc
  rw[this];rfl
 ·refine run ?_;refine fin1 ?_;have:fJ n=true:=by simpa using hc
  rw[this];rfl
theorem wC(p:Int)(w:World):Fn Tryz.prog 113 [.int .i64 p].toArray w [] (fun u _=>u=.bool (PtD.dm p 0 4095)):=by
 refine enter Tryz.func113 ?_;refine run ?_;refine az (fun wc hG=>Gq p 4095 wc) ?_;refine run ?_;exact fin1 rfl
theorem CQ(stage:Int)(hs:stage=1∨stage=2)(level:Nat)(hl:level<4)(d:DsD)(w:World):Fn Tryz.prog 190 [.int .i64 stage,.int .i64 (level:Int),ug d].toArray w [] (fun u _=>u=.bool (d.may stage level)):=by
 have hlv:decide ((level:Int)<3)=decide (level<3):=by rw[bF3,decide_eq_true_eq,decide_eq_true_eq];omega
 have hlp:decide ((0:Int)<(level:Int))=decide (0<level):=by rw[bF3,decide_eq_true_eq,decide_eq_true_eq];omega
 have h9:=fH hl;refine enter Tryz.func190 ?_;refine run ?_;intro B;refine run ?_;refine ah _ rfl (fun hk=>?_) (fun hk=>?_)
 ·have hk0:d.kind=0:=by simpa using hk
  refine aC ?_;refine bH (fun hg wc hG=>Gq d.note 15 wc) ?_;refine aC ?_;refine fin1 ?_;rw[D6 d 0 0 d.note hk0];rcases hs with rfl | rfl<;>simp only[DsD.may,hk0,decide_true,cond_true,PtD.dm,bK0]
  ·cases d.bare<;>cases hz:decide (d.note=0)<;>simp_all
  ·cases d.bare<;>cases hz:decide (d.note=0)<;>simp_all
 ·have hk0:decide (d.kind=0)=false:=by simpa using hk
  refine run ?_;refine ah _ rfl (fun hk1=>?_) (fun hk1=>?_)
  ·have oM:d.kind=1:=by simpa using hk1
   refine aC ?_;refine bH (fun hg wc hG=>wC d.frame wc) ?_;refine aC ?_;refine fin1 ?_;rw[D6 d 1 d.frame 0 oM,hlv];simp only[DsD.may,oM,decide_true,cond_true,show decide ((1:Int)=0)=false from rfl,cond_false,bF6];cases decide (level<3)<;>cases d.bare<;>cases decide (d.note=0)<;>rfl
  ·have oM:decide (d.kind=1)=false:=by simpa using hk1
   refine run ?_;refine ah _ rfl (fun hk2=>?_) (fun hk2=>?_)
   ·have BO:d.kind=2:=by simpa using hk2
    refine run ?_;intro A;refine gQ 47 ?_;refine bg ?_;refine eH (fun hg wc hG=>wC d.frame wc) ?_;refine bg ?_;refine eH (fun hg wc hG=>o7 level hl wc) ?_;refine Sr (hy:=fun hg=>uI bz5 bz5 d.frame.toNat (au level) (by simp[jb,PtD.dm] at hg;omega) by5 bx6) (h:=?_);refine bg ?_;refine Ip (fun hg0 hg1 wc hG=>Gq d.soft 15 wc) ?_;refine bg ?_;refine run ?_;refine run ?_;refine fin1 ?_;rw[hlp];have hz:decide (((d.frame.toNat%au level:Nat):Int)=0)=decide (d.frame.toNat%au level=0):=by rw[bF3,decide_eq_true_eq,decide_eq_true_eq];omega
    rw[hz];simp only[DsD.may,BO,decide_true,cond_true,show decide ((2:Int)=0)=false from rfl,show decide ((2:Int)=1)=false from rfl,cond_false];rcases hs with rfl | rfl
    ·cases decide (0<level)<;>cases PtD.dm d.frame 0 4095<;>cases decide (d.frame.toNat%au level=0)<;>cases decide (d.note=0)<;>cases d.r<;>cases decide (d.soft=0)<;>rfl
    ·simp only[PtD.dm];cases decide (0<level)<;>cases decide (d.frame.toNat%au level=0)<;>cases decide (d.note=0)<;>cases d.ng<;>cases decide (0≤d.soft)<;>cases decide (d.soft≤15)<;>cases decide (0≤d.frame)<;>cases decide (d.frame≤4095)<;>rfl
   ·refine run ?_;refine fin1 ?_;have BO:decide (d.kind=2)=false:=by simpa using hk2
    simp[DsD.may,hk0,oM,BO]
theorem yM(stage:Int)(hs:stage=1∨stage=2)(level:Nat)(hl:level<4)(d:DsD)(hm:d.may stage level=true)(w:World):Fn Tryz.prog 186 [.int .i64 stage,.int .i64 (level:Int),ug d].toArray w [] (fun u _=>u=.int .u64 (d.word stage level:Int)):=by
 have hlv:decide ((level:Int)=3)=decide (level=3):=by rw[bF3,decide_eq_true_eq,decide_eq_true_eq];omega
 obtain⟨k1,k2,k3,k4⟩:=gy hm
 have hf:0≤d.frame∧d.frame≤4095:=by
  rcases k1 with e | e | e
  ·have:=k2 e;omega
  ·have:=k3 e;omega
  ·have:=k4 e;omega
 have hf0:=hf.1;have hf1:=hf.2;have hfz:((d.frame.toNat:Nat):Int)=d.frame:=by omega
 refine enter Tryz.func186 ?_;refine run ?_;intro B;refine run ?_;refine ah _ rfl (fun hk=>?_) (fun hk=>?_)
 ·have hk0:d.kind=0:=by simpa using hk
  have hn0:=(k2 hk0).2.1;have hn1:=(k2 hk0).2.2;have hnz:((d.note.toNat:Nat):Int)=d.note:=by omega
  refine run ?_;refine jI by5 (zT rfl rfl d.note.toNat 4 hnz.symm by5 bx7) ?_;refine run ?_;refine fin1 ?_;rw[DsD.SH stage level d hk0]
 ·have hk0:decide (d.kind=0)=false:=by simpa using hk
  refine run ?_;refine drawM 14 [0,1,2,3,4,5,6,7,8,9,10,11,12] [13] [] ?_;refine jY rfl (fun hx2=>fM (eU 277 rfl) rfl (fun wc hG=>uT 0 true wc)) ?_;refine gI ?_;refine ar' (hy:=fun hx2 hg=>Ht rfl) (h:=?_);refine ar' (v:=.bool (decide ((level:Int)=3))) (hy:=fun hx2 hg=>?_) (h:=?_)
  ·exact Vp bz5 rfl
  refine gI ?_;refine jY rfl (fun hx2=>fM (eU 277 rfl) rfl (fun wc hG=>uT 1 _ wc)) ?_;refine gI ?_;refine eBS (Ku [⟨0,1,1⟩,⟨1,1,b1 (decide (d.kind=1)||decide (level=3))⟩,⟨12,12,d.frame.toNat⟩]) (h:=?_) (hn:=?_)
  ·refine kL ?_;simp only[DN];rintro _ hn ⟨T,rfl,rfl⟩;refine jJ ?_;refine qZ ?_;simp only[bF2,bF5,bG3];refine run ?_;refine ah _ rfl (fun hk1=>?_) (fun hk1=>?_)
   ·have hk2:d.kind=2:=by simpa using hk1
    have oM:decide (d.kind=1)=false:=by rw[hk2];rfl
    simp only[oM,bI5];refine run ?_;refine drawM 11 [0,1,2,3,4,5,6,7,8,9] [10] [] ?_;refine gI ?_;refine jY rfl (fun hx2=>fM (eU 277 rfl) rfl (fun wc hG=>uT 10 _ wc)) ?_;refine gI ?_;refine jY rfl (fun hx2=>fM (eU 277 rfl) rfl (fun wc hG=>uT 54 _ wc)) ?_;refine gI ?_;refine eBS (Ku [⟨10,1,b1 d.af⟩,⟨54,1,b1 (!d.x)⟩]) (h:=?_) (hn:=by cases d.af<;>cases d.x<;>rfl);refine kL ?_;simp only[DN];rintro _ hn ⟨T2,rfl,rfl⟩;refine jJ ?_;refine qZ ?_;simp only[bF2,bF5,bG3];refine wo (m:=2) ([⟨10,1,b1 d.af⟩,⟨54,1,b1 (!d.x)⟩].map Np) [⟨T2,(Ku [⟨10,1,b1 d.af⟩,⟨54,1,b1 (!d.x)⟩]).toArray,355⟩,⟨B,#[.int .i64 d.kind,.int .i64 d.frame,.bool d.r,.bool d.w,.bool d.x,.bool d.af,.bool d.ng,.int .i64 d.soft,.int .i64 d.note],95⟩] (CP T 3 [⟨0,1,1⟩,⟨1,1,b1 (decide (level=3))⟩,⟨12,12,d.frame.toNat⟩]) bx8 (fun v' ha' hA'=>?_) bx8 rfl (qF _) (aX (m:=6) mh rfl) (hperm:=by (exact aU));refine aS (⟨B,#[.int .i64 d.kind,.int .i64 d.frame,.bool d.r,.bool d.w,.bool d.x,.bool d.af,.bool d.ng,.int .i64 d.soft,.int .i64 d.note],95⟩::ha') ak ?_;obtain⟨q,cap,rfl⟩:=hA'.opened;refine run ?_;refine ah _ rfl (fun h1=>?_) (fun h1=>?_)
    ·have h1':decide (stage=1)=true:=h1;refine run ?_;refine drawM 11 [0,1,2,3,4,5,6,7,8,9] [10] [] ?_;refine gI ?_;refine jY rfl (fun hx2=>fM (eU 277 rfl) rfl (fun wc hG=>uT 7 _ wc)) ?_;refine gI ?_;refine jY rfl (fun hx2=>fM (eU 277 rfl) rfl (fun wc hG=>uT 11 _ wc)) ?_;refine gI ?_;refine eBS (Ku [⟨7,1,b1 (!d.w)⟩,⟨11,1,b1 d.ng⟩]) (h:=?_) (hn:=by cases d.w<;>cases d.ng<;>rfl);refine kL ?_;simp only[DN];rintro _ hn ⟨T3,rfl,rfl⟩;refine jJ ?_;refine qZ ?_;simp only[bF2,bF5,bG3];refine wo (m:=2) ([⟨7,1,b1 (!d.w)⟩,⟨11,1,b1 d.ng⟩].map Np) [⟨T3,(Ku [⟨7,1,b1 (!d.w)⟩,⟨11,1,b1 d.ng⟩]).toArray,355⟩,⟨B,#[.int .i64 d.kind,.int .i64 d.frame,.bool d.r,.bool d.w,.bool d.x,.bool d.af,.bool d.ng,.int .i64 d.soft,.int .i64 d.note],95⟩] hA' bx8 (fun v2 ha2 hA2=>?_) bx8 rfl (qF _) (aX (m:=6) mh rfl) (hperm:=by (exact aU));refine run ?_;have e:d.fields stage level=[⟨0,1,1⟩,⟨1,1,b1 (decide (level=3))⟩,⟨12,12,d.frame.toNat⟩,⟨10,1,b1 d.af⟩,⟨54,1,b1 (!d.x)⟩,⟨7,1,b1 (!d.w)⟩,⟨11,1,b1 d.ng⟩]:=by simp only[DsD.fields,hk0,oM,h1',cond_false,cond_true]
     obtain⟨q2,cap2,rfl⟩:=hA2.opened;have hfo:=DsD.wB hm;rw[e] at hfo;refine az (fun wc hG=>IJ _ hfo (hA2.lie (fun b hb=>hG.here _ (bG4 _ hb)) bx8)) ?_;refine run ?_;refine fin1 ?_;rw[DsD.word,e]
    ·have h1':decide (stage=1)=false:=by simpa using h1
     have hso:=Kv hm hk2 h1';have hs0:=hso.1;have hs1:=hso.2;have hsz:((d.soft.toNat:Nat):Int)=d.soft:=by omega
     refine run ?_;refine drawM 15 [0,1,2,3,4,5,6,7,8,9,10,11,12,13] [14] [] ?_;refine gI ?_;refine jY rfl (fun hx2=>fM (eU 277 rfl) rfl (fun wc hG=>uT 6 _ wc)) ?_;refine gI ?_;refine jY rfl (fun hx2=>fM (eU 277 rfl) rfl (fun wc hG=>uT 7 _ wc)) ?_;refine gI ?_;refine eBS (Ku [⟨6,1,b1 d.r⟩,⟨7,1,b1 d.w⟩,⟨55,4,d.soft.toNat⟩]) (h:=?_) (hn:=by rw[←hsz];cases d.r<;>cases d.w<;>rfl);refine kL ?_;simp only[DN];rintro _ hn ⟨T3,rfl,rfl⟩;refine jJ ?_;refine qZ ?_;simp only[bF2,bF5,bG3];refine wo (m:=3) ([⟨6,1,b1 d.r⟩,⟨7,1,b1 d.w⟩,⟨55,4,d.soft.toNat⟩].map Np) [⟨T3,(Ku [⟨6,1,b1 d.r⟩,⟨7,1,b1 d.w⟩,⟨55,4,d.soft.toNat⟩]).toArray,355⟩,⟨B,#[.int .i64 d.kind,.int .i64 d.frame,.bool d.r,.bool d.w,.bool d.x,.bool d.af,.bool d.ng,.int .i64 d.soft,.int .i64 d.note],95⟩] hA' bx8 (fun v2 ha2 hA2=>?_) bx8 rfl (qF _) (aX (m:=9) mh rfl) (hperm:=by (exact aU));refine run ?_;have e:d.fields stage level=[⟨0,1,1⟩,⟨1,1,b1 (decide (level=3))⟩,⟨12,12,d.frame.toNat⟩,⟨10,1,b1 d.af⟩,⟨54,1,b1 (!d.x)⟩,⟨6,1,b1 d.r⟩,⟨7,1,b1 d.w⟩,⟨55,4,d.soft.toNat⟩]:=by simp only[DsD.fields,hk0,oM,h1',cond_false,cond_true]
     obtain⟨q2,cap2,rfl⟩:=hA2.opened;have hfo:=DsD.wB hm;rw[e] at hfo;refine az (fun wc hG=>IJ _ hfo (hA2.lie (fun b hb=>hG.here _ (bG4 _ hb)) bx8)) ?_;refine run ?_;refine fin1 ?_;rw[DsD.word,e]
   ·have hk2:d.kind=1:=by
     simp at hk0 hk1;rcases k1 with e | e | e
     ·exact absurd e hk0
     ·exact e
     ·exact absurd e hk1
    have oM:decide (d.kind=1)=true:=by rw[hk2];rfl
    simp only[oM,bW6,show b1 true=1 from rfl];refine run ?_;have e:d.fields stage level=[⟨0,1,1⟩,⟨1,1,1⟩,⟨12,12,d.frame.toNat⟩]:=by simp only[DsD.fields,hk0,oM,cond_false,cond_true]
    have hfo:=DsD.wB hm;rw[e] at hfo;refine az (fun wc hG=>IJ _ hfo ((CP T 3 _).lie (fun b hb=>hG.here _ (bG4 _ hb)) bx8)) ?_;refine run ?_;refine fin1 ?_;rw[DsD.word,e]
  ·rw[hlv,←hfz];cases decide (d.kind=1)<;>cases decide (level=3)<;>rfl
theorem nS{stage:Int}{v:Nat}{D:DsD}(hD:gY stage level v=D):zD stage level v=bif (!D.may stage level||!decide ((D.word stage level:Int)=(v:Int))) then dG else D:=by
 unfold zD;rw[hD];have:decide ((D.word stage level:Int)=(v:Int))=decide (D.word stage level=v):=by rw[bF3,decide_eq_true_eq,decide_eq_true_eq];omega
 rw[this];cases D.may stage level<;>cases decide (D.word stage level=v)<;>rfl
theorem al3(stage:Int)(hs:stage=1∨stage=2)(level:Nat)(hl:level<4)(v:Nat)(hv:v<18446744073709551616)(w:World):Fn Tryz.prog 110 [.int .i64 stage,.int .i64 (level:Int),.int .u64 (v:Int)].toArray w [] (fun u _=>u=ug (zD stage level v)):=by
 have hlv:decide ((level:Int)<3)=!decide (level=3):=by rw[bF3,decide_eq_true_eq];simp;omega
 refine enter Tryz.func110 ?_;refine run ?_;intro B C;refine run ?_;refine az (fun wc hG=>uS v 0 bx7 hv wc) ?_;refine run ?_;refine ah _ rfl (fun h0=>?_) (fun h0=>?_)
 ·have h0':(!decide (dD v 0 1=1))=true:=h0;have hD:gY stage level v=⟨0,0,false,false,false,false,false,0,(dD v 4 4:Int)⟩:=by rw[gY,h0',cond_true];rfl
  have hb:=CO v 4 4 bx7;refine run ?_;refine az (fun wc hG=>II v 4 4 bx7 bx7 hv wc) ?_;refine run ?_;refine az (fun wc hG=>CQ stage hs level hl (⟨0,0,false,false,false,false,false,0,(dD v 4 4:Int)⟩) wc) ?_;refine aC ?_;refine bH (b:=!DsD.may stage level (⟨0,0,false,false,false,false,false,0,(dD v 4 4:Int)⟩)) (fun hg wc hG=>yM stage hs level hl (⟨0,0,false,false,false,false,false,0,(dD v 4 4:Int)⟩) bE7 wc) ?_;refine aC ?_;refine ah _ rfl (fun hc=>?_) (fun hc=>?_)
  ·refine run ?_;refine dQ ?_;rw[nS hD,hc];rfl
  ·refine run ?_;refine dQ ?_;rw[nS hD,hc];rfl
 ·have h0':(!decide (dD v 0 1=1))=false:=by simpa using h0
  have hb:=CO v 12 12 bx7;refine run ?_;refine az (fun wc hG=>uS v 1 bx7 hv wc) ?_;refine aC ?_;refine ah _ rfl (fun h1=>?_) (fun h1=>?_)
  ·rw[hlv] at h1;have hD:gY stage level v=⟨1,(dD v 12 12:Int),false,false,false,false,false,0,0⟩:=by rw[gY,h0',cond_false,h1,cond_true];rfl
   refine run ?_;refine az (fun wc hG=>II v 12 12 bx7 bx7 hv wc) ?_;refine run ?_;refine az (fun wc hG=>CQ stage hs level hl (⟨1,(dD v 12 12:Int),false,false,false,false,false,0,0⟩) wc) ?_;refine aC ?_;refine bH (b:=!DsD.may stage level (⟨1,(dD v 12 12:Int),false,false,false,false,false,0,0⟩)) (fun hg wc hG=>yM stage hs level hl (⟨1,(dD v 12 12:Int),false,false,false,false,false,0,0⟩) bE7 wc) ?_;refine aC ?_;refine ah _ rfl (fun hc=>?_) (fun hc=>?_)
   ·refine run ?_;refine dQ ?_;rw[nS hD,hc];rfl
   ·refine run ?_;refine dQ ?_;rw[nS hD,hc];rfl
  ·have h1':(decide (dD v 1 1=1)&&decide ((level:Int)<3))=false:=by simpa using h1
   rw[hlv] at h1';refine run ?_;refine az (fun wc hG=>II v 12 12 bx7 bx7 hv wc) ?_;refine run ?_;refine az (fun wc hG=>uS v 10 bx7 hv wc) ?_;refine run ?_;refine az (fun wc hG=>uS v 54 bx7 hv wc) ?_;refine run ?_;refine ah _ rfl (fun hst=>?_) (fun hst=>?_)
   ·have hst':decide (stage=1)=true:=hst;have hD:gY stage level v=⟨2,(dD v 12 12:Int),true,!decide (dD v 7 1=1),!decide (dD v 54 1=1),decide (dD v 10 1=1),decide (dD v 11 1=1),0,0⟩:=by rw[gY,h0',cond_false,h1',cond_false,hst',cond_true];rfl
    refine run ?_;refine az (fun wc hG=>uS v 7 bx7 hv wc) ?_;refine run ?_;refine az (fun wc hG=>uS v 11 bx7 hv wc) ?_;refine run ?_;refine az (fun wc hG=>CQ stage hs level hl (⟨2,(dD v 12 12:Int),true,!decide (dD v 7 1=1),!decide (dD v 54 1=1),decide (dD v 10 1=1),decide (dD v 11 1=1),0,0⟩) wc) ?_;refine aC ?_;refine bH (b:=!DsD.may stage level (⟨2,(dD v 12 12:Int),true,!decide (dD v 7 1=1),!decide (dD v 54 1=1),decide (dD v 10 1=1),decide (dD v 11 1=1),0,0⟩)) (fun hg wc hG=>yM stage hs level hl (⟨2,(dD v 12 12:Int),true,!decide (dD v 7 1=1),!decide (dD v 54 1=1),decide (dD v 10 1=1),decide (dD v 11 1=1),0,0⟩) bE7 wc) ?_;refine aC ?_;refine ah _ rfl (fun hc=>?_) (fun hc=>?_)
    ·refine run ?_;refine dQ ?_;rw[nS hD,hc];rfl
    ·refine run ?_;refine dQ ?_;rw[nS hD,hc];rfl
   ·have hst':decide (stage=1)=false:=by simpa using hst
    have hD:gY stage level v=⟨2,(dD v 12 12:Int),decide (dD v 6 1=1),decide (dD v 7 1=1),!decide (dD v 54 1=1),decide (dD v 10 1=1),false,(dD v 55 4:Int),0⟩:=by rw[gY,h0',cond_false,h1',cond_false,hst',cond_false];rfl
    have hb4:=CO v 55 4 bx7;refine run ?_;refine az (fun wc hG=>uS v 6 bx7 hv wc) ?_;refine run ?_;refine az (fun wc hG=>uS v 7 bx7 hv wc) ?_;refine run ?_;refine az (fun wc hG=>II v 55 4 bx7 bx7 hv wc) ?_;refine run ?_;refine az (fun wc hG=>CQ stage hs level hl (⟨2,(dD v 12 12:Int),decide (dD v 6 1=1),decide (dD v 7 1=1),!decide (dD v 54 1=1),decide (dD v 10 1=1),false,(dD v 55 4:Int),0⟩) wc) ?_;refine aC ?_;refine bH (b:=!DsD.may stage level (⟨2,(dD v 12 12:Int),decide (dD v 6 1=1),decide (dD v 7 1=1),!decide (dD v 54 1=1),decide (dD v 10 1=1),false,(dD v 55 4:Int),0⟩)) (fun hg wc hG=>yM stage hs level hl (⟨2,(dD v 12 12:Int),decide (dD v 6 1=1),decide (dD v 7 1=1),!decide (dD v 54 1=1),decide (dD v 10 1=1),false,(dD v 55 4:Int),0⟩) bE7 wc) ?_;refine aC ?_;refine ah _ rfl (fun hc=>?_) (fun hc=>?_)
    ·refine run ?_;refine dQ ?_;rw[nS hD,hc];rfl
    ·refine run ?_;refine dQ ?_;rw[nS hD,hc];rfl
end
section
def lT(ws:List Nat):Prop:=∀ x∈ws,x<18446744073709551616
theorem lT.at{ws:List Nat}(h:lT ws)(p:Nat):ws.getD p 0<18446744073709551616:=by
 rw[bE']
 cases hp:ws[p]? with
 | none=>simp
 | some x=>exact h x (bS7 hp)
theorem lT.set{ws:List Nat}(h:lT ws){x:Nat}(hx:x<18446744073709551616)(p:Nat):lT (ws.set p x):=by
 intro y hy;rcases bV2 hy with hy | rfl
 ·exact h y hy
 ·exact hx
theorem lT.lH{ws:List Nat}(h:lT ws)(p level:Nat)(d:DsD):lT (lH ws p level d):=h.set (DsD.word_lt _ _ _) p
theorem lT.uh{ws:List Nat}(h:lT ws)(o k:Nat):lT (uh ws o k):=by
 induction k with
 | zero=>exact h
 | succ k ih=>exact ih.set bx7 _
theorem lT.kR{ws:List Nat}(h:lT ws)(f:Int):lT (kR ws f):=h.uh _ _
theorem lT.jS:∀ (l:List Int) (p level:Nat) {ws:List Nat},lT ws→lT (jS page l p level ws).2:=by
 intro l
 induction l with
 | nil=>intro p level ws h;exact h
 | cons f r ih=>intro p level ws h;exact ih _ _ ((h.kR f).lH _ _ _)
attribute [local irreducible] Hy St Ops DH dI
section
variable {P : Program} {T : Tab} {n : Nat} {w0 : World} {mu : List Nat} {l : Fm} {hp : Hp} {dd : Option Nat} {ty : TypeId} {pos : String} {af : Array Edge} {gg : Option (Nat × Bool)} {t u : TypeId} {x y : Operand}
theorem WV{pi qi:Int}(hx:ev l x=some (.int .i64 pi))(hy:ev l y=some (.int .i64 qi))(p q r:Nat)(hpi:pi=(p:Int))(hqi:qi=(q:Int))(hr:p+q=r)(hb:r<9223372036854775808):Hy P n w0 mu l hp ⟨dd,.binOp .add t x y u,ty,pos,af,gg⟩ (.int .i64 (r:Int)):=by
 subst hpi hqi hr;have:=Ho (o:=⟨dd,.binOp .add t x y u,ty,pos,af,gg⟩) (P:=P) (n:=n) (w0:=w0) (mu:=mu) (hp:=hp) rfl hx hy bx6 bx6;rwa [←Int.natCast_add] at this
end
theorem yN(n cap:Nat)(q:Option Addr)(hn:n<1000000)(f:Int)(w:World):Fn Tryz.prog 43 [.agg #[.slice q n cap],.int .i64 f].toArray w [] (fun u _=>u=.bool (bK n f)):=by
 refine enter Tryz.func43 ?_;refine run ?_;intro B;refine run ?_;refine az (fun wc hG=>o8 n cap bx6 q wc) ?_;refine run ?_;refine az (fun wc hG=>Gq f _ wc) ?_;refine run ?_;refine fin1 ?_;unfold bK
 congr 2
 rw[bF3,decide_eq_true_eq,decide_eq_true_eq];omega
theorem KA(ws:List Nat)(hw:lT ws)(h:aA w v 1 (ws.map uV))(stage:Int)(hs:stage=1∨stage=2)(level:Nat)(hl:level<4)(f:Int)(hf:bK ws.length f=true)(page:Nat)(hp:page≤4095)(hn:ws.length<1000000):Fn Tryz.prog 108 [.agg #[v],.int .i64 stage,.int .i64 (level:Int),.int .i64 f,.int .i64 (page:Int)].toArray w [] (fun u _=>u=ug (zD stage level (ws.getD (jg f level page) 0))):=by
 obtain⟨q,cap,rfl,hne,hle⟩:=h.opened;have hfi:=iI hf;have hpl:=D7 (level:=level) (page:=page) hf;have Nq:=Aa level page;have hne0:ws≠[]:=by intro e;subst e;simp at hpl
 obtain⟨b,o,rfl⟩:=hne hne0;have hr:=aj (h.row hpl);simp only[uV,bH6] at hr;refine enter Tryz.func108 ?_;refine run ?_;intro B C;refine run ?_;refine gQ 13 ?_;refine dJ ?_;refine eu (fun wc hG=>Kt level hl page hp wc) ?_;refine Nl (WV rfl rfl (f.toNat*8) (l7 level page) (jg f level page) bx6 rfl rfl bx6) ?_;refine dJ ?_;refine eu (fun wc hG=>al3 stage hs level hl _ (hw.at _) wc) ?_;refine dJ ?_;refine run ?_;exact dQ rfl
theorem Gs(ws:List Nat)(hw:lT ws)(h:aA w v 1 (ws.map uV))(level:Nat)(hl:level<4)(f:Int)(hf:bK ws.length f=true)(page:Nat)(hp:page≤4095)(hn:ws.length<1000000):Fn Tryz.prog 108 [.agg #[v],.int .i64 2,.int .i64 (level:Int),.int .i64 f,.int .i64 (page:Int)].toArray w [] (fun u _=>u=ug (gJ ws (jg f level page) level)):=KA ws hw h 2 (.inr rfl) level hl f hf page hp hn
theorem aH9{fn:Func}{R:Value→Hp→Prop}{hp:Hp}{s0 s1 s2:Nat}{cs:Array Value}{tb:TypeId}{v1 v2:Value}(h:R (.tuple #[v,.agg cs,v1,v2]) hp)(hr:fn.results=#[.tmp s0,.cell a t,.tmp s1,.tmp s2]:=by rfl)(h0:look l s0=some v:=by rfl)(hv:look l a=some (.pointer (some ⟨b,0,none⟩)):=by rfl)(h1:look l s1=some v1:=by rfl)(h2:look l s2=some v2:=by rfl)(hag:mem Tb.ag t=true:=by rfl)(hm:(⟨b,cs,tb⟩:mO)∈hp:=by (first | (with_reducible apply mh) | (focus ((repeat (first | (with_reducible apply mh) | (with_reducible apply mt) | (with_reducible apply bF7)));done))))(hz:lk Tb.sz t=some cs.size:=by rfl):Fin Tryz.prog fn R .ret l hp:=
 ⟨.inl rfl,[v,.agg cs,v1,v2],by rw[hr];exact⟨h0,⟨⟨b,cs,tb⟩,hm,hv,.inr ⟨aB.gag hag,aB.zH hz,rfl⟩⟩,h1,h2,trivial⟩,h⟩
theorem Og(ws:List Nat)(hw:lT ws)(h:aA w v 1 (ws.map uV))(root:Int)(page:Nat)(hp:page≤4095)(hn:ws.length<1000000):Fn Tryz.prog 93 [.agg #[v],.int .i64 root,.int .i64 (page:Int)].toArray w [] (fun u hn=>∃ v2 h2,u=.tuple #[v2,ug (bif (aQ ws root page 3).ok then (aQ ws root page 3).d else dG),.int .i64 (bif (aQ ws root page 3).ok then ((aQ ws root page 3).lv:Int) else ((aQ ws root page 3).fs.length:Int)),.bool (aQ ws root page 3).ok]∧Own 3 1 v2 h2 ((aQ ws root page 3).fs.map bY)∧aJ h2 hn):=by
 obtain⟨q,cap,rfl,hne,hle⟩:=h.opened;refine enter Tryz.func93 ?_;refine run ?_;intro B C;refine run ?_;refine aK (σ:=Nat×Int×List Int×DsD×Value×Hp) (fun s=>[(10,s.2.2.2.2.1),(11,.int .i64 s.2.1),(12,.int .i64 (s.1:Int))]) (fun s=>⟨C,dsC dG,95⟩::⟨B,#[.slice q ws.length cap],24⟩::s.2.2.2.2.2) (fun s=>s.1<4∧s.2.2.1.length=s.1∧bT ws page 3 (4-s.1) s.1 s.2.1 s.2.2.1 s.2.2.2.1=aQ ws root page 3∧Acc 3 1 s.2.2.2.2.1 s.2.2.2.2.2 (s.2.2.1.map bY)) (fun s=>4-s.1) (0,root,[],dG,_,[]) ⟨(by decide:0<4),rfl,rfl,Acc.nil _ _⟩ ?_;rintro⟨level,f,fs,d,v2,ha⟩ m hm ⟨hl,hfs,hwk,hA⟩;dsimp only at hm hl hfs hwk hA ⊢;refine run ?_;refine az (fun wc hG=>yN ws.length cap q hn f wc) ?_;refine run ?_;have h4:4-level=(3-level)+1:=by omega
 rw[h4,bT] at hwk;refine ah _ rfl (fun hc=>?_) (fun hc=>?_)
 ·have hh:bK ws.length f=false:=by simpa using hc
  rw[hh,cond_false] at hwk;rw[←hwk];refine run ?_;refine aH9 ?_;refine⟨_,ha,?_,hA.own,by (exact ak)⟩;simp only[cond_false,hfs];rfl
 ·have hh:bK ws.length f=true:=by simpa using hc
  rw[hh,cond_true] at hwk;refine run ?_;intro T;refine dK (c:=bY f) (hp':=[⟨T,#[.int .i64 f],3⟩,⟨C,dsC dG,95⟩,⟨B,#[.slice q ws.length cap],24⟩]) hA (fun v' ha' hA'=>?_) by6 (aX (m:=1) mh rfl) (hperm:=by (exact aU));refine aS (⟨C,dsC dG,95⟩::⟨B,#[.slice q ws.length cap],24⟩::ha') ak ?_;refine run ?_;refine az (fun wc hG=>Gs ws hw (h.good hG) level hl f hh page hp hn) ?_;generalize hd':gJ ws (jg f level page) level=d' at hwk;have htab:d'.kind=1→level<3:=fun e=>sV (by rw[hd'];exact e);refine run ?_;intro D;refine ah _ rfl (fun hc2=>?_) (fun hc2=>?_)
  ·have hk:(!decide (d'.kind=1))=true:=hc2;rw[hk,bW6,cond_true] at hwk;rw[←hwk];obtain⟨q3,cap3,rfl⟩:=hA'.own.opened;refine run ?_;refine late 4 2 ?_;refine Wu 3 1 ?_;refine Wu 3 2 ?_;refine xw 3 [0,1,2] [] [] ?_;refine gI ?_;refine kL ?_;simp only[DN];refine jJ ?_;refine qZ ?_;simp only[bF2,bF5,bG3];refine run ?_;refine aH9 ?_;refine⟨_,ha',?_,by simpa using hA'.own,by (exact ak)⟩;simp only[cond_true,qM.lv,bG9,bE9,hfs,bM4,bI6,bP2,bH5,bR']
  ·have hk:decide (d'.kind=1)=true:=by simpa using hc2
   have h3:=htab (of_decide_eq_true hk);rw[hk,show decide (level=3)=false from decide_eq_false bx6] at hwk;simp only[bH3,bR0,cond_false] at hwk;refine run ?_;refine aF (level+1,d'.frame,fs++[f],d',v',ha') ⟨by dsimp only;omega,by simp[hfs],?_,by simpa using hA'⟩;rw[←hwk];show bT ws page 3 (4-(level+1)) _ _ _ _=_;rw[show 4-(level+1)=3-level by omega]
theorem Own.au1{h:Hp}{xs:List Nat}(hA:Own e 1 v h (xs.map uV))(hk:k<xs.length):∃ g cap cur,v=.slice (some ⟨g,0,none⟩) xs.length cap∧h=[⟨g,cur,e⟩]∧k+1≤cur.size ∧
  ∀ z:Nat,Own e 1 (.slice (some ⟨g,0,none⟩) xs.length cap) [⟨g,cur.setIfInBounds k (.int .u64 (z:Int)),e⟩] ((xs.set k z).map uV):=by
 obtain⟨g,cap,cur,rfl,rfl,hr⟩:=hA.row (n:=xs.length) bx8 bx6
 have hall0:∀ (ys:List Nat),∀ c∈ys.map uV,c.length=1∧c.all (·.oneCell')=true:=by
  intro ys c hc;obtain⟨x,_,rfl⟩:=bF9.1 hc;exact⟨rfl,rfl⟩
 have hall:∀ c∈xs.map uV,c.length=1:=fun c hc=>(hall0 xs c hc).1
 have hi:(xs.map uV)[k]?=some (uV (xs.getD k 0)):=by
  rw[bH4,bE',bF0 hk];rfl
 have hsz:=hr.size;have hle:=hr.le;refine⟨g,cap,cur,rfl,rfl,by omega,fun z=>⟨hall0 _,.inr ⟨g,cap,_,by simp,rfl,?_⟩⟩⟩;have h2:=hr.put hall hi (k:=0) (vs:=[.int .u64 (z:Int)]) bx8;have e1:(uV (xs.getD k 0)).take 0++[Value.int .u64 (z:Int)]++(uV (xs.getD k 0)).drop (0+[Value.int .u64 (z:Int)].length)=uV z:=rfl;rw[e1,bH6,bI8] at h2;have e2:((xs.set k z).map uV).length=xs.length:=by simp
 rw[e2,bN6];exact h2
theorem Own.Ae{g cap:Nat}{cur:Array Value}{xs:List Nat}(hA:Own e 1 (.slice (some ⟨g,0,none⟩) n cap) [⟨g,cur,e⟩] (xs.map uV))(hk:k<xs.length):k+1≤cur.size∧k<n∧n=xs.length ∧
  ∀ z:Nat,Own e 1 (.slice (some ⟨g,0,none⟩) n cap) [⟨g,cur.setIfInBounds k (.int .u64 (z:Int)),e⟩] ((xs.set k z).map uV):=by
 obtain⟨g',cap',cur',e1,e2,h1,h2⟩:=hA.au1 hk;injection e1 with e1 e3 e4
 injection e1 with e1
 injection e1 with e1
 injection e2 with e2
 injection e2 with _ e2
 subst e1 e3 e4 e2;exact⟨h1,hk,rfl,h2⟩
theorem gZ{w0:World}{mu:List Nat}{Q:Exit→Fm→Hp→Prop}{ops:List Oper}{h1 hn rest:Hp}(hle:aJ h1 hn)(h:Ops Tryz.prog n w0 mu all ops l (h1++rest) Q):Ops Tryz.prog n w0 mu all ops l (hn++rest) Q:=aS _ (cnt1 hle) h
theorem KC{fn:Func}{R:Value→Hp→Prop}{hp:Hp}{s1 s2:Nat}{cs:Array Value}{tb:TypeId}{v1 v2:Value}(h:R (.tuple #[.agg cs,v1,v2]) hp)(hr:fn.results=#[.cell a t,.tmp s1,.tmp s2]:=by rfl)(hv:look l a=some (.pointer (some ⟨b,0,none⟩)):=by rfl)(h1:look l s1=some v1:=by rfl)(h2:look l s2=some v2:=by rfl)(hag:mem Tb.ag t=true:=by rfl)(hm:(⟨b,cs,tb⟩:mO)∈hp:=by (first | (with_reducible apply mh) | (focus ((repeat (first | (with_reducible apply mh) | (with_reducible apply mt) | (with_reducible apply bF7)));done))))(hz:lk Tb.sz t=some cs.size:=by rfl):Fin Tryz.prog fn R .ret l hp:=
 ⟨.inl rfl,[.agg cs,v1,v2],by rw[hr];exact⟨⟨⟨b,cs,tb⟩,hm,hv,.inr ⟨aB.gag hag,aB.zH hz,rfl⟩⟩,h1,h2,trivial⟩,h⟩
theorem Qv(ws:List Nat)(hw:lT ws)(h:aA w v 1 (ws.map uV))(root:Int)(page:Nat)(hp:page≤4095)(hn:ws.length<1000000):Fn Tryz.prog 37 [.agg #[v],.int .i64 root,.int .i64 (page:Int)].toArray w [] (fun u hn=>u=.tuple #[ug (iE ws root page).d,.int .i64 ((iE ws root page).level:Int),.int .i64 (iE ws root page).e]):=by
 obtain⟨q,cap,rfl,hne,hle⟩:=h.opened;refine enter Tryz.func37 ?_;refine run ?_;intro B C;refine run ?_;refine bI (fun wc hG=>Og ws hw (h.good hG) root page hp hn) ?_;rintro u hn2 ⟨v2,h2,rfl,hO,hle2⟩;refine bZ (_++hn2) bG6 ?_;simp only[bF2,bF5];refine run ?_;intro D
 cases hk:(aQ ws root page 3).ok with
 | false=>
  have hg:iE ws root page=⟨dG,0,2⟩:=by simp[iE,hk]
  rw[hg];refine aP ?_;refine KC ?_
  rfl
 | true=>
  have hg:iE ws root page=⟨(aQ ws root page 3).d,(aQ ws root page 3).lv,0⟩:=by simp[iE,hk]
  rw[hg];simp only[cond_true];refine aP ?_;refine KC ?_;rfl
theorem IQ(ws:List Nat)(h:aA w v 1 (ws.map uV))(f:Int)(level:Nat)(hl:level<4)(hf:bK ws.length f=true)(page:Nat)(hp:page≤4095)(d:DsD)(hm:d.may 2 level=true)(hn:ws.length<1000000):Fn Tryz.prog 105 [.agg #[v],.int .i64 f,.int .i64 (level:Int),.int .i64 (page:Int),ug d].toArray w [] (fun u hn=>WT (lH ws (jg f level page) level d) u hn):=by
 have hfi:=iI hf;have hpl:=D7 (level:=level) (page:=page) hf;obtain⟨q,cap,rfl,hne,hle⟩:=h.opened;refine enter Tryz.func105 ?_;refine run ?_;intro B C D;refine run ?_;refine bI (fun wc hG=>Ad ws _ (h.good hG) hn) ?_;rintro u hn2 ⟨v2,h2,rfl,hO,hle2⟩;obtain⟨g,cap2,cur,rfl,rfl,hsz,hset⟩:=hO.au1 hpl;refine gZ hle2 ?_;simp only[bF2,bF5];refine run ?_;intro E;refine run ?_;refine gQ 11 ?_;refine dJ ?_;refine eu (fun wc hG=>Kt level hl page hp wc) ?_;refine Nl (WV rfl rfl (f.toNat*8) (l7 level page) (jg f level page) bx6 rfl rfl bx6) ?_;refine dJ ?_;refine eu (fun wc hG=>yM 2 (.inr rfl) level hl d hm wc) ?_;refine dJ ?_;refine run ?_;refine dQ ⟨_,_,rfl,hset _,?_⟩
 (exact ak)
theorem Af{α:Type}[Inhabited α](p:α→Bool)(l:List α):∀ j,p (l.getD j default)=true→∃ j0,j0≤j∧p (l.getD j0 default)=true∧∀ i,i<j0→p (l.getD i default)=false:=by
 intro j
 induction j using Nat.strongRecOn with
 | ind j ih=>
  intro h;by_cases hx:∃ i,i<j∧p (l.getD i default)=true
  ·obtain⟨i,hi,hp⟩:=hx;obtain⟨j0,h0,h1,h2⟩:=ih i hi hp;exact⟨j0,by omega,h1,h2⟩
  ·refine⟨j,bG0 _,h,fun i hi=>?_⟩
   cases hp:p (l.getD i default) with
   | false=>rfl
   | true=>exact absurd ⟨i,hi,hp⟩ hx
theorem Oh(l:List Int)(k:Nat)(hk:k<l.length):decide (gU (fun t=>decide (t=l.getD k default)) l=(k:Int))=!(l.take k).any (fun t=>decide (t=l.getD k 0)):=by
 cases h:(l.take k).any (fun t=>decide (t=l.getD k 0)) with
 | false=>
  rw[fF hk bx8 fun j hj=>?_]
  ·simp
  ·have h2:=bP7.1 h (l.getD j 0) (by
    rw[bE',bF0 bx6]
    exact bN'.2 ⟨j,by omega,rfl⟩)
   simpa using h2
 | true=>
  obtain⟨x,hx,hxe⟩:=bJ9.1 h;obtain⟨j,hj,rfl⟩:=bN'.1 hx;have hj1:j<l.length:=by omega
  have hje:decide (l.getD j default=l.getD k default)=true:=by
   rw[bE',bF0 hj1];exact hxe
  obtain⟨j0,h0,h1,h2⟩:=Af (fun t=>decide (t=l.getD k default)) l j hje;rw[fF (k:=j0) bx6 h1 h2];simp;omega
theorem aa0(n cap:Nat)(q:Option Addr)(hn:n<1000000)(fs l:List Int){v1 v2:Value}(h1:aA w v1 1 (l.map bY))(h2:aA w v2 1 (fs.map bY)):Fn Tryz.prog 104 [.agg #[.slice q n cap],v1,v2].toArray w [] (fun u _=>u=.bool (nR n fs l)):=by
 obtain⟨q1,cap1,rfl,hne1,hle1⟩:=h1.opened;obtain⟨q2,cap2,rfl,hne2,hle2⟩:=h2.opened;refine enter Tryz.func104 ?_;refine run ?_;intro B;refine run ?_;refine aK (σ:=Nat) (fun k=>[(7,.int .i64 (k:Int))]) (fun _=>[⟨B,#[.slice q n cap],24⟩]) (fun k=>k≤l.length∧∀ j,j<k→oh n fs l j=true) (fun k=>l.length-k) 0 ⟨bF4 _,fun j hj=>absurd hj bx6⟩ ?_;rintro k m rfl ⟨hk,hyes⟩;refine run ?_;refine ah _ rfl (fun hc=>?_) (fun hc=>?_)
 ·have hlt:k<l.length:=by simp at hc;omega
  obtain⟨b,o,rfl⟩:=hne1 by0;have hr:=aj (h1.row hlt);simp only[bH6] at hr;refine run ?_;refine dF ?_;refine bg ?_;refine eu (fun wc hG=>yN n cap q hn _ wc) ?_;refine bg ?_;refine eH (fun hg wc hG=>Kz _ l _ (h1.good hG)) ?_;refine bg ?_;refine eH (fun hg wc hG=>Kz _ fs _ (h2.good hG)) ?_;refine bg ?_;refine run ?_;have e1:=Oh l k hlt
  have e2:(0≤gU (fun t=>decide (t=l.getD k default)) fs)↔fs.any (fun t=>decide (t=l.getD k 0))=true:=by
   rw[←gq];simp
  refine ah _ rfl (fun hc2=>?_) (fun hc2=>?_)
  ·refine run ?_;refine fin1 ?_;rw[Bd hlt];rw[e1] at hc2
   have:oh n fs l k=false:=by
    unfold oh
    cases hh:fs.any (fun t=>decide (t=l.getD k 0)) with
    | true=>simp
    | false=>
     have:decide (0≤gU (fun t=>decide (t=l.getD k default)) fs)=false:=by
      rw[decide_eq_false_iff_not,e2,hh];simp
     rw[this] at hc2;have h3:bK n (l[k]?.getD 0)=false∨l[k]?.getD 0∈List.take k l:=by simpa using hc2
     simp;intro h;rcases h3 with h4 | h4
     ·rw[h4] at h;cases h
     ·exact h4
   exact this
  ·refine run ?_;refine aF (k+1) ⟨hlt,fun j hj=>?_⟩;rcases bG1.1 hj with hj | rfl
   ·exact hyes j hj
   ·rw[e1] at hc2;unfold oh
    cases hh:fs.any (fun t=>decide (t=l.getD j 0)) with
    | true=>
     have:decide (0≤gU (fun t=>decide (t=l.getD j default)) fs)=true:=by
      rw[decide_eq_true_eq,e2,hh]
     rw[this] at hc2
     simp at hc2
    | false=>
     have:decide (0≤gU (fun t=>decide (t=l.getD j default)) fs)=false:=by
      rw[decide_eq_false_iff_not,e2,hh];simp
     rw[this] at hc2;simpa using hc2
 ·refine run ?_;refine fin1 ?_;have:k=l.length:=by simp at hc;omega
  subst this;rw[xy hyes]
theorem aa1(ws:List Nat){v1:Value}(h:aA w v 1 (ws.map uV))(f:Int)(hf:bK ws.length f=true)(hv1:aA w v1 1 ([f].map bY))(hn:ws.length<1000000):Fn Tryz.prog 106 [.agg #[v],v1].toArray w [] (fun u hn=>WT (kR ws f) u hn):=by
 have hfi:=iI hf;obtain⟨q,cap,rfl,hne,hle⟩:=h.opened;obtain⟨q1,cap1,rfl,hne1,hle1⟩:=hv1.opened;refine enter Tryz.func106 ?_;refine run ?_;intro B C;refine run ?_;refine bI (fun wc hG=>Ad ws _ (h.good hG) hn) ?_;rintro u hn2 ⟨v2,h2,rfl,hO,hle2⟩;refine gZ hle2 ?_;obtain⟨g,cap3,cur,rfl,rfl,_⟩:=hO.row (n:=ws.length) bx8 bx6;simp only[bF2,bF5];refine run ?_;intro D;refine run ?_;refine aK (σ:=Nat×List Nat×Array Value) (fun s=>[(6,.int .i64 (s.1:Int))]) (fun s=>[⟨g,s.2.2,53⟩,⟨D,#[.slice (some ⟨g,0,none⟩) ws.length cap3],24⟩,⟨C,#[.slice none 0 0],24⟩,⟨B,#[.slice q ws.length cap],24⟩]) (fun s=>(s.1=0∧s.2.1=ws∨s.1=1∧s.2.1=kR ws f)∧Own 53 1 (.slice (some ⟨g,0,none⟩) ws.length cap3) [⟨g,s.2.2,53⟩] (s.2.1.map uV)) (fun s=>1-s.1) (0,ws,cur) ⟨.inl ⟨rfl,rfl⟩,hO⟩ ?_;rintro⟨i,us,cu⟩ m hm ⟨hi,hU⟩;dsimp only at hm hi hU ⊢;refine run ?_;refine ah _ rfl (fun hc=>?_) (fun hc=>?_)
 ·have hi0:i=0:=by
   rcases hi with h | h
   ·exact h.1
   ·rw[h.1] at hc;simp at hc
  subst hi0
  obtain rfl:us=ws:=by
   rcases hi with h | h
   ·exact h.2
   ·exact absurd h.1 bx7
  obtain⟨b1,o1,rfl⟩:=hne1 bx8;have hl1:([f]:List Int).length=1:=rfl;have hr:=aj (hv1.row (k:=0) bx8);simp only[bO6,bI8,show ([f]:List Int).getD 0 default=f from rfl] at hr;refine run ?_;refine aK (σ:=Nat×Array Value) (fun s=>[(7,.int .i64 (s.1:Int))]) (fun s=>[⟨g,s.2,53⟩,⟨D,#[.slice (some ⟨g,0,none⟩) us.length cap3],24⟩,⟨C,#[.slice none 0 0],24⟩,⟨B,#[.slice q us.length cap],24⟩]) (fun s=>s.1≤8∧Own 53 1 (.slice (some ⟨g,0,none⟩) us.length cap3) [⟨g,s.2,53⟩] ((uh us (f.toNat*8) s.1).map uV)) (fun s=>8-s.1) (0,cu) ⟨by dsimp only;omega,hU⟩ ?_;rintro⟨k,cv⟩ m2 hm2 ⟨hk,hV⟩;dsimp only at hm2 hk hV ⊢;refine run ?_;refine ah _ rfl (fun hc2=>?_) (fun hc2=>?_)
  ·have hk8:k<8:=by simp at hc2;omega
   obtain⟨hsz,hlt,_,hset⟩:=hV.Ae (k:=f.toNat*8+k) (by rw[Ac];omega);refine run ?_;refine gQ 9 ?_;refine dJ ?_;rw[show f*8+(k:Int)=((f.toNat*8+k:Nat):Int) by omega];refine run ?_;refine aF (k+1,_) ⟨hk8,hset 0⟩
  ·have:k=8:=by simp at hc2;omega
   subst this;refine run ?_;refine aF (1,kR us f,cv) ⟨.inr ⟨rfl,rfl⟩,hV⟩
 ·refine run ?_
  have hi1:us=kR ws f:=by
   rcases hi with h | h
   ·rw[h.1] at hc;simp at hc
   ·exact h.2
  subst hi1;refine dQ ⟨_,_,rfl,hU,?_⟩
  (exact ak)
end
def au2(r:IL)(u:Value)(hn:Hp):Prop:=∃ v h1,u=.tuple #[.agg #[v],.int .i64 r.e]∧Own 53 1 v h1 (r.ws.map uV)∧aJ h1 hn
def SS(r:IL)(u:Value)(hn:Hp):Prop:=∃ v h1 v2 h2,u=.tuple #[.agg #[v],v2,.int .i64 r.e]∧Own 53 1 v h1 (r.ws.map uV)∧Own 3 1 v2 h2 (r.left.map bY)∧aJ (h1++h2) hn
theorem Own.nil(e sz:Nat):Own e sz (.slice none 0 0) [] []:=⟨by simp,.inl ⟨rfl,rfl,rfl⟩⟩
theorem ry{fn:Func}{R:Value→Hp→Prop}{hp:Hp}{s1 s2:Nat}{cs:Array Value}{tb:TypeId}{v1 v2:Value}(h:R (.tuple #[.agg cs,v1,v2]) hp)(hr:fn.results=#[.cell a t,.tmp s1,.tmp s2]:=by rfl)(hv:look l a=some (.pointer (some ⟨b,0,none⟩)):=by rfl)(h1:look l s1=some v1:=by rfl)(h2:look l s2=some v2:=by rfl)(hag:mem Tb.ag t=true:=by rfl)(hm:(⟨b,cs,tb⟩:mO)∈hp:=by (first | (with_reducible apply mh) | (focus ((repeat (first | (with_reducible apply mh) | (with_reducible apply mt) | (with_reducible apply bF7)));done))))(hz:lk Tb.sz t=some cs.size:=by rfl):Fin Tryz.prog fn R .ret l hp:=KC h hr hv h1 h2 hag hm hz
theorem Gt{fn:Func}{R:Value→Hp→Prop}{hp:Hp}{a2 t2 b2 s2:Nat}{cs cs2:Array Value}{tb tb2:TypeId}{v2:Value}(h:R (.tuple #[.agg cs,.agg cs2,v2]) hp)(hr:fn.results=#[.cell a t,.cell a2 t2,.tmp s2]:=by rfl)(hv:look l a=some (.pointer (some ⟨b,0,none⟩)):=by rfl)(hw:look l a2=some (.pointer (some ⟨b2,0,none⟩)):=by rfl)(h2:look l s2=some v2:=by rfl)(hag:mem Tb.ag t=true:=by rfl)(hm:(⟨b,cs,tb⟩:mO)∈hp:=by (first | (with_reducible apply mh) | (focus ((repeat (first | (with_reducible apply mh) | (with_reducible apply mt) | (with_reducible apply bF7)));done))))(hz:lk Tb.sz t=some cs.size:=by rfl)(aT0:mem Tb.ag t2=true:=by rfl)(hm2:(⟨b2,cs2,tb2⟩:mO)∈hp:=by (first | (with_reducible apply mh) | (focus ((repeat (first | (with_reducible apply mh) | (with_reducible apply mt) | (with_reducible apply bF7)));done))))(hz2:lk Tb.sz t2=some cs2.size:=by rfl):Fin Tryz.prog fn R .ret l hp:=
 ⟨.inl rfl,[.agg cs,.agg cs2,v2],by rw[hr];exact⟨⟨⟨b,cs,tb⟩,hm,hv,.inr ⟨aB.gag hag,aB.zH hz,rfl⟩⟩,⟨⟨b2,cs2,tb2⟩,hm2,hw,.inr ⟨aB.gag aT0,aB.zH hz2,rfl⟩⟩,h2,trivial⟩,h⟩
theorem aJ.mem{r h:Hp}(hl:aJ r h){b:mO}(hb:b∈r):b∈h:=by
 obtain⟨x,hx⟩:=hl.perm;exact hx.mem_iff.1 (bG4 _ hb)
theorem SV{ws:List Nat}{down:Nat}:∀ (k level:Nat) (f:Int) (fs:List Int) (d:DsD),(bT ws page down k level f fs d).fs.length≤fs.length+k:=by
 intro k
 induction k with
 | zero=>intro level f fs d;exact bG0 _
 | succ k ih=>
  intro level f fs d;rw[bT]
  cases bK ws.length f with
  | false=>simp
  | true=>
   simp only[cond_true]
   cases (!decide ((gJ ws (jg f level page) level).kind=1)||decide (level=down)) with
   | true=>simp
   | false=>
    have:=ih (level+1) (gJ ws (jg f level page) level).frame (fs++[f]) (gJ ws (jg f level page) level);rw[bG9,bM4] at this;simp only[cond_false];omega
theorem yO(ws:List Nat)(root:Int)(page down:Nat):(aQ ws root page down).fs.length≤4:=SV 4 0 root [] dG
theorem D8(fs:List Int)(f:Int)(d:DsD)(b:Bool)(page:Nat):(⟨fs++[f],d,b⟩:qM).lv=fs.length∧(⟨fs++[f],d,b⟩:qM).place page=jg f fs.length page:=by
 have h1:(⟨fs++[f],d,b⟩:qM).lv=fs.length:=by simp[qM.lv]
 refine⟨h1,?_⟩;unfold qM.place;rw[h1]
 congr 1
 simp[bE']
section
attribute [local irreducible] Hy St Ops DH dI
theorem au3(ws:List Nat)(hw:lT ws)(h:aA w v 1 (ws.map uV))(root:Int)(page:Nat)(hp:page≤4095)(level:Nat)(hl:level<4)(d:DsD)(hm:d.may 2 level=true)(hn:ws.length<1000000):Fn Tryz.prog 52 [.agg #[v],.int .i64 root,.int .i64 (page:Int),.int .i64 (level:Int),ug d].toArray w [] (fun u hn=>au2 (fB ws root page level d) u hn):=by
 obtain⟨q,cap,rfl,hne,hle⟩:=h.opened;refine enter Tryz.func52 ?_;refine run ?_;intro B C D;refine run ?_;refine aK (σ:=Nat×Int×List Int×DsD) (fun s=>[(12,.int .i64 s.2.1),(13,.int .i64 (s.1:Int))]) (fun _=>[⟨D,#[.slice none 0 0],24⟩,⟨C,#[.int .i64 d.kind,.int .i64 d.frame,.bool d.r,.bool d.w,.bool d.x,.bool d.af,.bool d.ng,.int .i64 d.soft,.int .i64 d.note],95⟩,⟨B,#[.slice q ws.length cap],24⟩]) (fun s=>s.1≤level∧s.2.2.1.length=s.1∧bT ws page level (4-s.1) s.1 s.2.1 s.2.2.1 s.2.2.2=aQ ws root page level) (fun s=>4-s.1) (0,root,[],dG) ⟨bF4 _,rfl,rfl⟩ ?_;rintro⟨k,f,fs,d0⟩ m hm2 ⟨hk,hfs,hwk⟩;dsimp only at hm2 hk hfs hwk ⊢;have h4:4-k=(3-k)+1:=by omega
 rw[h4,bT] at hwk;refine run ?_;refine az (fun wc hG=>yN ws.length cap q hn f wc) ?_;refine run ?_;refine ah _ rfl (fun hc=>?_) (fun hc=>?_)
 ·have hh:bK ws.length f=false:=by simpa using hc
  rw[hh,cond_false] at hwk;refine run ?_;have e:fB ws root page level d=badM 2:=by simp only[fB,←hwk];rfl
  rw[e];refine fZ ⟨_,_,rfl,Own.nil _ _,trivial⟩
 ·have hh:bK ws.length f=true:=by simpa using hc
  rw[hh,cond_true] at hwk;refine run ?_;refine ah _ rfl (fun hc2=>?_) (fun hc2=>?_)
  ·have hkl:k=level:=by simp at hc2;omega
   subst hkl;rw[decide_eq_true rfl,Bool.or_true,cond_true] at hwk
   have e:fB ws root page k d=⟨lH ws (jg f k page) k d,[],0⟩:=by
    obtain⟨p1,p2⟩:=D8 fs f (gJ ws (jg f k page) k) true page;rw[hfs] at p1 p2;simp only[fB,←hwk,p1,p2,decide_true,bH3,cond_false]
   rw[e];refine run ?_;refine bI (fun wc hG=>IQ ws (h.good hG) f k hl hh page hp d hm hn) ?_;rintro u hn2 ⟨v2,h2,rfl,hO,hle2⟩;obtain⟨q2,cap2,rfl⟩:=hO.opened;refine gZ hle2 ?_;refine bZ (_++h2) bG6 ?_;simp only[bF2,bF5];refine run ?_;refine fZ ⟨_,_,rfl,hO,by (exact ak)⟩
  ·have hkl:k<level:=by simp at hc2;omega
   rw[show decide (k=level)=false from decide_eq_false bx6,bR0] at hwk;refine run ?_;refine az (fun wc hG=>Gs ws hw (h.good hG) k bx6 f hh page hp hn) ?_;generalize hd':gJ ws (jg f k page) k=d' at hwk;refine run ?_;intro E;refine run ?_;refine ah _ rfl (fun hc3=>?_) (fun hc3=>?_)
   ·have hk1:(!decide (d'.kind=1))=true:=hc3;rw[hk1,cond_true] at hwk;refine run ?_
    have e:fB ws root page level d=badM 3:=by
     obtain⟨p1,p2⟩:=D8 fs f d' true page;rw[hfs] at p1;simp only[fB,←hwk,p1,show decide (k=level)=false from decide_eq_false bx6];rfl
    rw[e];refine fZ ⟨_,_,rfl,Own.nil _ _,trivial⟩
   ·have hk1:(!decide (d'.kind=1))=false:=by simpa using hc3
    rw[hk1,cond_false] at hwk;refine run ?_;refine aF (k+1,d'.frame,fs++[f],d') ⟨hkl,by simp[hfs],?_⟩;rw[←hwk];show bT ws page level (4-(k+1)) _ _ _ _=_;rw[show 4-(k+1)=3-k by omega]
def aH'(w0:World)(mv:Value)(hm:Hp)(us:List Nat):Prop:=∀ wc hp,Good w0 [] hp wc→(∀ b∈hm,b∈hp)→aA wc mv 1 (us.map uV)
structure LkS where
 i:Nat
 us:List Nat
 ft:Int
 p:Option Addr
 mq:Option Addr
 mc:Nat
 hm:Hp
theorem aA.drop{p:Option Addr}{c:Nat}{xs:List Int}(h:aA w (.slice p n c) 1 (xs.map bY))(hn:n=xs.length)(hc:n≤c)(hi:i≤n):∃ p',sliced p i n c 1=.slice p' (xs.drop i).length (c-i)∧(xs.drop i).length≤c-i∧aA w (.slice p' (xs.drop i).length (c-i)) 1 ((xs.drop i).map bY):=by
 subst hn;obtain⟨⟨q,cap,e,hne⟩,hle⟩:=h;injection e with e1 e2 e3
 subst e1 e3;have hdl:(xs.drop i).length=xs.length-i:=bK8;refine⟨_,by unfold sliced;rw[hdl],by omega,⟨⟨_,_,by rw[bE9],fun hx=>?_⟩,by rw[bE9] at hle ⊢;omega⟩⟩
 have hlt:i<xs.length:=by
  rcases bN5 i xs.length with h | h
  ·exact h
  ·rw[bJ3 h] at hx;exact absurd rfl hx
 obtain⟨b,o,rfl,hr⟩:=hne (by intro e;simp at e;subst e;simp at hlt);refine⟨b,o+i,?_,fun j cc hj=>?_⟩
 ·rw[if_neg bx6,bH6];simp[vY]
 ·rw[List.map_drop,bM8] at hj;have:=hr (i+j) cc hj;rw[bH6] at this ⊢;rwa [←bS3] at this
theorem au4(ws:List Nat)(hw:lT ws){vl:Value}(h:aA w v 1 (ws.map uV))(l:List Int)(hv:aA w vl 1 (l.map bY))(hcap:∃ p c,vl=.slice p l.length c∧l.length≤c)(root:Int)(page:Nat)(hp:page≤4095)(d:DsD)(hm:d.may 2 3=true)(hn:ws.length≤512)(hln:l.length<1000000):Fn Tryz.prog 49 [.agg #[v],.int .i64 root,vl,.int .i64 (page:Int),ug d].toArray w [] (fun u hn=>SS (ru ws root l page d) u hn):=by
 obtain⟨q,cap,rfl,hne,hle⟩:=h.opened;obtain⟨ql,KD,rfl,hcap⟩:=hcap;refine enter Tryz.func49 ?_;refine run ?_;intro B C D;refine run ?_;refine bI (fun wc hG=>Og ws hw (h.good hG) root page hp bx6) ?_;rintro u hn2 ⟨v2,h2,rfl,hO,hle2⟩;refine gZ hle2 ?_;refine bZ (_++h2) bG6 ?_;simp only[bF2,bF5];refine run ?_;intro E;refine run ?_;have hl4:=yO ws root page 3
 cases hok:(aQ ws root page 3).ok with
 | false=>
  have e:ru ws root l page d=badM 2:=by simp only[ru,hok];rfl
  rw[e];refine aP ?_
  refine ry ⟨_,_,_,_,rfl,Own.nil _ _,Own.nil _ _,trivial⟩
 | true=>
  have kF:=jP hok;have hnt:=Qu hok;simp only[ru,hok];generalize aQ ws root page 3=W at hO hok kF hnt hl4 ⊢;have Ag:=kF.le;have hpos:=kF.pos;obtain⟨g,cap2,cur,rfl,rfl,mg,au5,_⟩:=hO.aG5 (k:=W.fs.length-1) bx6;simp only[cond_true,bF6];refine aP ?_;refine bH (fun hg wc hG=>aa0 ws.length cap q bx6 W.fs l (hv.good hG) (hO.lie (fun b hb=>hG.here b (by simp at hb;simp[hb])) by6)) ?_;refine aP ?_;refine ah _ rfl (fun hc=>?_) (fun hc=>?_)
  ·have hfr:nR ws.length W.fs l=false:=by simpa using hc
   rw[hfr,bI3,cond_true];refine aP ?_;refine ry ⟨_,_,_,_,rfl,Own.nil _ _,Own.nil _ _,trivial⟩
  have hfr:nR ws.length W.fs l=true:=by simpa using hc
  rw[hfr,bH3,cond_false];clear hc;have hmay:W.d.may 2 W.lv=true:=by rw[kF.d];exact l9 _ _ _
  have bc5:0≤W.d.note:=by
   obtain⟨k1,k2,k3,k4⟩:=gy hmay;rcases k1 with e | e | e
   ·have:=k2 e;omega
   ·exact (hnt e).elim
   ·have:=k4 e;omega
  have hlv:W.lv=W.fs.length-1:=rfl;have e1:decide ((W.lv:Int)<3)=decide (W.fs.length<4):=by rw[bF3,decide_eq_true_eq,decide_eq_true_eq];omega
  have e2:decide (0<W.d.note)=!decide (W.d.note=0):=by rw[bF3,decide_eq_true_eq];simp;omega
  refine aC ?_;refine ah _ rfl (fun hc=>?_) (fun hc=>?_)
  ·rw[e1,e2] at hc;rw[hc,cond_true];refine aP ?_;refine ry ⟨_,_,_,_,rfl,Own.nil _ _,Own.nil _ _,trivial⟩
  rw[e1,e2] at hc;rw[hc,cond_false];clear hc;have e3:decide ((l.length:Int)<3-(W.lv:Int))=decide (l.length+W.fs.length<4):=by rw[bF3,decide_eq_true_eq,decide_eq_true_eq];omega
  refine aC ?_;refine ah _ rfl (fun hc=>?_) (fun hc=>?_)
  ·rw[e3] at hc;rw[hc,cond_true];refine aP ?_;refine ry ⟨_,_,_,_,rfl,Own.nil _ _,Own.nil _ _,trivial⟩
  rw[e3] at hc;rw[hc,cond_false];replace hc:4≤l.length+W.fs.length:=by simpa using hc
  refine run ?_;rw[show ((W.fs.length:Int)-1).toNat=W.fs.length-1 by omega];refine run ?_;generalize hlk:4-W.fs.length=lk;have aI0:lk≤l.length:=by omega
  refine aK (σ:=LkS) (fun s=>[(15,.int .i64 ((W.lv+s.i:Nat):Int)),(17,.int .i64 s.ft),(2,.slice s.p (l.drop s.i).length (KD-s.i))]) (fun s=>⟨D,#[.slice none 0 0],24⟩::⟨C,#[.int .i64 d.kind,.int .i64 d.frame,.bool d.r,.bool d.w,.bool d.x,.bool d.af,.bool d.ng,.int .i64 d.soft,.int .i64 d.note],95⟩::⟨B,#[.slice s.mq ws.length s.mc],24⟩::s.hm) (fun s=>s.i≤lk∧jS page ((l.take lk).drop s.i) (jg s.ft (W.lv+s.i) page) (W.lv+s.i) s.us=jS page (l.take lk) (W.place page) W.lv ws∧s.us.length=ws.length∧lT s.us∧bK ws.length s.ft=true∧aA w (.slice s.p (l.drop s.i).length (KD-s.i)) 1 ((l.drop s.i).map bY)∧(l.drop s.i).length≤KD-s.i∧aH' w (.slice s.mq ws.length s.mc) s.hm s.us) (fun s=>lk-s.i) ⟨0,ws,W.fs.getD (W.fs.length-1) 0,ql,q,cap,[]⟩ ⟨bF4 _,rfl,rfl,hw,?_,hv,by simpa using hcap,fun wc hp hG _=>h.good hG⟩ ?_
  ·exact kF.has _ bB9
  rintro⟨i,us,f0,p,mq,mc,hm1⟩ m hm2 ⟨hi,fC,Fa,huw,hf0,hsl,hsc,hmem⟩;dsimp only at hm2 hi fC Fa huw hf0 hsl hsc hmem ⊢;refine run ?_;refine ah _ rfl (fun hc3=>?_) (fun hc3=>?_)
  ·have hilt:i<lk:=by simp at hc3;omega
   obtain⟨q5,cap5,e5,hne5,_⟩:=hsl.opened;injection e5 with e5
   subst e5;obtain⟨b5,o5,rfl⟩:=hne5 (by intro e;have:=congrArg List.length e;simp at this;omega);have hr:=aj (hsl.row (k:=0) by6);have e6:(l.drop i).getD 0 default=l.getD i 0:=by simp[bE']
   simp only[bO6,bI8,e6] at hr;generalize hf:l.getD i 0=f at hr;have Y4:bK ws.length f=true:=by rw[←hf];exact Gn hfr bx6
   have hfi:=iI Y4;have hlen:(l.drop i).length=l.length-i:=bK8;refine run ?_;refine uP 14 20 [0,1,2,3,6,7,8,9,10,11,12] [4,5,13] (⟨D,#[.slice none 0 0],24⟩::⟨C,#[.int .i64 d.kind,.int .i64 d.frame,.bool d.r,.bool d.w,.bool d.x,.bool d.af,.bool d.ng,.int .i64 d.soft,.int .i64 d.note],95⟩::⟨B,#[.slice mq ws.length mc],24⟩::hm1) ?_;refine jV ?_;refine uQ (bY f) (fun T=>?_);refine yF (fun wc hG=>aa1 us (hmem wc _ hG (fun b hb=>by simp[hb])) f (by rw[Fa];exact Y4) (v1:=.slice (some ⟨T,0,none⟩) 1 1) (iH (xs:=[bY f]) (hG.here ⟨T,(bY f).toArray,3⟩ bx8) (by simp[bY]) bx8) bx6) ?_;rintro u hn3 ⟨v3,h3,rfl,hO3,hle3⟩;refine yF (fun wc hG=>IQ (kR us f) (hO3.lie (fun b hb=>hG.here b (bG4 _ (hle3.mem hb))) (by simp[jl];omega)) f0 (W.lv+i) bx6 (by rw[jl,Fa];exact hf0) page hp (jW f) (yJ bx6 bx6 bx6) (by rw[jl];omega)) ?_;rintro u hn4 ⟨v4,h4,rfl,hO4,yP⟩;refine di ?_;refine kN ?_;obtain⟨g4,cap4,SX,rfl,rfl,hr4⟩:=hO4.row (n:=ws.length) (by rw[bE9,kE,jl,Fa]) bx6;refine aS (⟨B,#[.slice mq ws.length mc],24⟩::⟨D,#[.slice none 0 0],24⟩::⟨C,#[.int .i64 d.kind,.int .i64 d.frame,.bool d.r,.bool d.w,.bool d.x,.bool d.af,.bool d.ng,.int .i64 d.soft,.int .i64 d.note],95⟩::[⟨g4,SX,53⟩]) (cnt1 yP) ?_;refine run ?_;obtain⟨p',e7,hc7,aa2⟩:=hsl.drop (i:=1) rfl hsc bx6;have e8:(l.drop i).drop 1=l.drop (i+1):=by rw[bN4]
   have e9:KD-i-1=KD-(i+1):=by omega
   rw[e8,e9] at e7 hc7 aa2;refine aG7 17 ?_;refine uP 6 20 [0,1,2,3,4,5] [] (⟨B,#[.slice (some ⟨g4,0,none⟩) ws.length cap4],24⟩::⟨D,#[.slice none 0 0],24⟩::⟨C,#[.int .i64 d.kind,.int .i64 d.frame,.bool d.r,.bool d.w,.bool d.x,.bool d.af,.bool d.ng,.int .i64 d.soft,.int .i64 d.note],95⟩::[⟨g4,SX,53⟩]) ?_;refine jV ?_;refine ZU by5 bD6 (fun hx2=>zO aB rfl rfl by5 bx7 bx6) ?_;refine jV ?_;refine di ?_;refine kN ?_;rw[show sliced (some ⟨b5,o5,none⟩) (1:Int).toNat (l.drop i).length (KD-i) 1=_ from e7];refine run ?_
   have hcons:(l.take lk).drop i=f::(l.take lk).drop (i+1):=by
    have h1:i<(l.take lk).length:=by rw[bI1];omega
    rw[bS6 h1,bQ9,←hf,bE',bF0 bx6];rfl
   rw[hcons,jS] at fC;refine aF ⟨i+1,lH (kR us f) (jg f0 (W.lv+i) page) (W.lv+i) (jW f),f,p',some ⟨g4,0,none⟩,cap4,[⟨g4,SX,53⟩]⟩ ⟨hilt,fC,by dsimp only;rw[kE,jl,Fa],(huw.kR f).lH _ _ _,Y4,aa2,hc7,fun wc hp hG hb=>hO4.lie (fun b hb'=>hG.here b (hb b hb')) (by simp[kE,jl,Fa];omega)⟩ (hm:=by dsimp only;omega) (h2:=by (exact ak))
  ·have hw8:=(iI hf0).2.1;refine run ?_;refine bI (fun wc hG=>IQ us (hmem wc _ hG (fun b hb=>by simp[hb])) f0 3 bx7 (by rw[Fa];exact hf0) page hp d hm bx6) ?_;rintro u hn4 ⟨v4,h4,rfl,hO4,yP⟩;obtain⟨g4,cap4,SX,rfl,rfl,hr4⟩:=hO4.row (n:=ws.length) (by rw[bE9,kE,Fa]) bx6;refine aS (⟨D,#[.slice none 0 0],24⟩::[⟨g4,SX,53⟩]) (cnt1 yP) ?_;refine run ?_;refine bI (fun wc hG=>qN (l.drop i) _ (hsl.good hG) by6) (fun v5 h5 hO5=>?_);obtain⟨q5,cap5,rfl⟩:=hO5.own.opened;refine bZ (_++h5) bG6 ?_;simp only[bF2,bF5];refine run ?_;have hik:i=lk:=by simp at hc3;omega
   subst hik;have h3:W.lv+i=3:=by omega
   rw[bJ3 by6,jS,h3] at fC;refine ry ⟨_,[⟨g4,SX,53⟩],_,h5,rfl,?_,hO5.own,by (exact ak)⟩;rw[←fC];exact hO4
theorem Oi(n cap:Nat)(q:Option Addr)(root:Int)(hn:n<1000000)(f:Int)(w:World):Fn Tryz.prog 281 [.agg #[.slice q n cap,.int .i64 root],.int .i64 f].toArray w [] (fun u _=>u=.bool (bK n f)):=by
 refine enter Tryz.func281 ?_;refine aC ?_;intro B;refine aC ?_;refine UY (v:=.int .i64 ((n/8:Nat):Int)) (hy:=fun hg1=>by simp only[hg1,bJ];exact uJ rfl rfl n 8 rfl rfl bx7 bx6) (h:=?_);refine aC ?_;exact fin1 rfl
theorem aI2(f:Nat)(hf:f<1000000)(level:Nat)(hl:level<4)(page:Nat)(hp:page≤4095)(w:World):Fn Tryz.prog 248 [.int .i64 (f:Int),.int .i64 (level:Int),.int .i64 (page:Int)].toArray w [] (fun u _=>u=.int .i64 ((f*8+l7 level page:Nat):Int)):=by
 refine enter Tryz.func248 ?_;refine run ?_;refine az (fun wc hG=>WO level hl page hp wc) ?_;have Nq:=Aa level page;refine run ?_;exact fin1 rfl
theorem Oj(f:Int)(hf:bK n f=true)(hn:n<1000000)(level:Nat)(hl:level<4)(page:Nat)(hp:page≤4095)(w:World):Fn Tryz.prog 248 [.int .i64 f,.int .i64 (level:Int),.int .i64 (page:Int)].toArray w [] (fun u _=>u=.int .i64 (jg f level page:Int)):=by
 have h:=iI hf;have:=aI2 f.toNat bx6 level hl page hp w;rw[h.2.2] at this;exact this
theorem au6(ws:List Nat)(hw:lT ws)(h:aA w v 1 (ws.map uV))(root:Int)(p level:Nat)(hl:level<4)(hp:p<ws.length)(hn:ws.length<1000000):Fn Tryz.prog 282 [.agg #[v,.int .i64 root],.int .i64 (p:Int),.int .i64 (level:Int)].toArray w [] (fun u _=>u=ug (zD 2 level (ws.getD p 0))):=by
 obtain⟨q,cap,rfl,hne,hle⟩:=h.opened;have hne0:ws≠[]:=by intro e;subst e;simp at hp
 obtain⟨b,o,rfl⟩:=hne hne0;have hr:=aj (h.row hp);simp only[uV,bH6] at hr;refine enter Tryz.func282 ?_;refine run ?_;intro B C;refine run ?_;refine az (fun wc hG=>al2 2 (.inr rfl) level hl _ (hw.at _) wc) ?_;refine run ?_;intro D;refine run ?_;exact dQ rfl
theorem al4(ws:List Nat)(hw:lT ws)(h:aA w v 1 (ws.map uV))(root:Int)(p level:Nat)(hl:level<4)(hp:p<ws.length)(hn:ws.length<1000000):Fn Tryz.prog 282 [.agg #[v,.int .i64 root],.int .i64 (p:Int),.int .i64 (level:Int)].toArray w [] (fun u _=>u=ug (gJ ws p level)):=au6 ws hw h root p level hl hp hn
theorem rC(d:DsD)(q:Option Addr)(n cap:Nat)(hn:0<n)(hn2:n<1000000)(w:World):Fn Tryz.prog 196 [.agg #[.int .i64 d.kind,.int .i64 d.frame,.bool d.r,.bool d.w,.bool d.x,.bool d.af,.bool d.ng,.int .i64 d.soft,.int .i64 d.note,.slice q n cap]].toArray w [] (fun u _=>u=.int .i64 ((n-1:Nat):Int)):=by
 refine enter Tryz.func196 ?_;refine run ?_;intro B;refine run ?_;refine fin1 ?_;rw[show ((n-1:Nat):Int)=(n:Int)-1 by omega]
theorem Ol(ws:List Nat){cap:Nat}{g:Nat}{cur:Array Value}(hO:Own 53 1 (.slice (some ⟨g,0,none⟩) n cap) [⟨g,cur,53⟩] (ws.map uV))(root:Int)(p level:Nat)(hl:level<4)(hp:p<ws.length)(hn:ws.length<1000000)(d:DsD)(hm:d.may 2 level=true)(hN:eX [⟨g,cur,53⟩] w):
  Fn Tryz.prog 244 [.agg #[.slice (some ⟨g,0,none⟩) n cap,.int .i64 root],.int .i64 (p:Int),.int .i64 (level:Int),ug d].toArray w [g] (fun u hn=>u=.tuple #[]∧aJ [⟨g,cur.setIfInBounds p (.int .u64 (d.word 2 level:Int)),53⟩] hn):=by
 obtain⟨hsz,hlt,hnn,hset⟩:=hO.Ae hp;refine eP [⟨g,cur,53⟩] hN Tryz.func244 ?_;refine run ?_;intro B C;refine run ?_;have hw2:=IP 2 (.inr rfl) level hl d;rw[hm] at hw2;refine uP 12 11 [0,1,2,3,4,5,6,7,8,9,10] [11] [⟨C,#[.int .i64 d.kind,.int .i64 d.frame,.bool d.r,.bool d.w,.bool d.x,.bool d.af,.bool d.ng,.int .i64 d.soft,.int .i64 d.note],95⟩,⟨B,#[.slice (some ⟨g,0,none⟩) n cap,.int .i64 root],272⟩] ?_;refine jV ?_;refine zW (fun wc hx hG=>hw2 wc) ?_;refine jV ?_;refine jd (b:=g) (tb:=53) (cs:=cur) (hp':=[⟨C,#[.int .i64 d.kind,.int .i64 d.frame,.bool d.r,.bool d.w,.bool d.x,.bool d.af,.bool d.ng,.int .i64 d.soft,.int .i64 d.note],95⟩,⟨B,#[.slice (some ⟨g,0,none⟩) n cap,.int .i64 root],272⟩]) (cs':=cur.setIfInBounds p (.int .u64 (d.word 2 level:Int))) ?_ aU;refine di ?_;refine kN ?_;refine run ?_;exact fin0 ⟨rfl,by (exact ak)⟩
theorem aa3(ws:List Nat)(hw:lT ws)(h:aA w v 1 (ws.map uV))(root:Int)(page:Nat)(hp:page≤4095)(down:Nat)(hd:down<4)(hn:ws.length<1000000):Fn Tryz.prog 283 [.agg #[v,.int .i64 root],.int .i64 (page:Int),.int .i64 (down:Int)].toArray w [] (fun u hn=>∃ v2 h2 d,u=.tuple #[.agg #[.int .i64 d.kind,.int .i64 d.frame,.bool d.r,.bool d.w,.bool d.x,.bool d.af,.bool d.ng,.int .i64 d.soft,.int .i64 d.note,v2],.int .i64 (bif (aQ ws root page down).ok then 0 else 2)]∧Own 3 1 v2 h2 ((aQ ws root page down).fs.map bY)∧aJ h2 hn∧d=(aQ ws root page down).d):=by
 obtain⟨q,cap,rfl,hne,hle⟩:=h.opened;refine enter Tryz.func283 ?_;refine run ?_;intro B C;refine run ?_;refine aK (σ:=Nat×Int×List Int×DsD×Value×Hp) (fun s=>[(8,.int .i64 s.2.1),(9,.int .i64 (s.1:Int))]) (fun s=>⟨C,#[.int .i64 s.2.2.2.1.kind,.int .i64 s.2.2.2.1.frame,.bool s.2.2.2.1.r,.bool s.2.2.2.1.w,.bool s.2.2.2.1.x,.bool s.2.2.2.1.af,.bool s.2.2.2.1.ng,.int .i64 s.2.2.2.1.soft,.int .i64 s.2.2.2.1.note,s.2.2.2.2.1],275⟩::⟨B,#[.slice q ws.length cap,.int .i64 root],272⟩::s.2.2.2.2.2) (fun s=>s.1<4∧s.2.2.1.length=s.1∧bT ws page down (4-s.1) s.1 s.2.1 s.2.2.1 s.2.2.2.1=aQ ws root page down∧Acc 3 1 s.2.2.2.2.1 s.2.2.2.2.2 (s.2.2.1.map bY)) (fun s=>4-s.1) (0,root,[],dG,.slice none 0 0,[]) ⟨(by decide:0<4),rfl,rfl,Acc.nil _ _⟩ ?_ (hh:=by exact aJ.refl _);rintro⟨level,f,fs,d,v2,ha⟩ m hm ⟨hl,hfs,hwk,hA⟩;dsimp only at hm hl hfs hwk hA ⊢;obtain⟨q2,cap2,rfl⟩:=hA.own.opened;refine run ?_;refine az (fun wc hG=>Oi ws.length cap q root hn f wc) ?_;refine run ?_;have h4:4-level=(3-level)+1:=by omega
 rw[h4,bT] at hwk;refine ah _ rfl (fun hc=>?_) (fun hc=>?_)
 ·have hh:bK ws.length f=false:=by simpa using hc
  rw[hh,cond_false] at hwk;rw[←hwk];refine run ?_;refine fZ ⟨_,ha,d,rfl,hA.own,by (exact ak),rfl⟩
 ·have hh:bK ws.length f=true:=by simpa using hc
  rw[hh,cond_true] at hwk;refine run ?_;intro T;refine dK (c:=bY f) (hp':=[⟨T,#[.int .i64 f],3⟩,⟨C,#[.int .i64 d.kind,.int .i64 d.frame,.bool d.r,.bool d.w,.bool d.x,.bool d.af,.bool d.ng,.int .i64 d.soft,.int .i64 d.note,.slice q2 (fs.map bY).length cap2],275⟩,⟨B,#[.slice q ws.length cap,.int .i64 root],272⟩]) hA (fun v' ha' hA'=>?_) by6 (aX (m:=1) mh rfl) (hperm:=by (exact aU));rw[show fs.map bY++[bY f]=(fs++[f]).map bY by simp] at hA';obtain⟨q3,cap3,rfl⟩:=hA'.own.opened;refine aS (⟨C,#[.int .i64 d.kind,.int .i64 d.frame,.bool d.r,.bool d.w,.bool d.x,.bool d.af,.bool d.ng,.int .i64 d.soft,.int .i64 d.note,.slice q2 (fs.map bY).length cap2],275⟩::⟨B,#[.slice q ws.length cap,.int .i64 root],272⟩::ha') ak ?_;refine run ?_;refine gQ 7 ?_;refine dJ ?_;refine eu (fun wc hG=>Oj f hh hn level hl page hp wc) ?_;refine dJ ?_;refine eu (fun wc hG=>al4 ws hw (h.good hG) root _ level hl (D7 hh) hn) ?_;generalize hd':gJ ws (jg f level page) level=d' at hwk;have htab:d'.kind=1→level<3:=fun e=>sV (by rw[hd'];exact e);refine dJ ?_;refine aP ?_;have e1:decide ((level:Int)=(down:Int))=decide (level=down):=by rw[bF3,decide_eq_true_eq,decide_eq_true_eq];omega
  refine ah _ rfl (fun hc2=>?_) (fun hc2=>?_)
  ·rw[e1] at hc2;rw[hc2,cond_true] at hwk;rw[←hwk];refine aP ?_;refine fZ ⟨_,ha',d',rfl,hA'.own,by (exact ak),rfl⟩
  ·rw[e1] at hc2;rw[hc2,cond_false] at hwk;have h3:=htab (by simp at hc2;exact hc2.1);refine run ?_;refine aF (level+1,d'.frame,fs++[f],d',.slice q3 ((fs++[f]).map bY).length cap3,ha') ⟨by dsimp only;omega,by simp[hfs],?_,hA'⟩;rw[←hwk];show bT ws page down (4-(level+1)) _ _ _ _=_;rw[show 4-(level+1)=3-level by omega]
end
section
theorem KE{P:Program}{w0:World}{mu:List Nat}{hp:Hp}{Q:Exit→Fm→Hp→Prop}{rest:List Oper}(h:∀ w,Good w0 mu hp w→Ops P n w0 mu all rest l hp Q):Ops P n w0 mu all rest l hp Q:=by
 intro a w hk hG;exact h w hG a w hk hG
section
variable {P : Program} {n : Nat} {w0 : World} {mu : List Nat} {lf : Fm} {hp : Hp} {dd : Option Tmp} {ty : TypeId} {pos : String} {af : Array Edge}
theorem Om{p:Addr}(hx:ev lf x=some (.pointer (some p))):EZ P n w0 mu lf hp ⟨dd,.nilCheck x,ty,pos,af,none⟩ (.pointer (some p)):=⟨rfl,fun a w hk _=>by simp[execOp,hk.ev hx]⟩
theorem aa4{T:Tab}(ok:bC P T){t:TypeId}{off k' off':Nat}{os:List Nat}(hx:ev lf x=some (.pointer (some ⟨b,off,none⟩)))(ho:lk T.fo t=some os)(hk2:nth os k=some k')(he:off+k'=off'):EZ P n w0 mu lf hp ⟨dd,.fieldAddr t x k,ty,pos,af,none⟩ (.pointer (some ⟨b,off',none⟩)):=by
 have hf:=ok.gfo ho (by rw[nZ] at hk2;simpa using hk2);subst he;refine⟨rfl,fun a w hk _=>?_⟩;simp only[execOp,hk.ev hx];unfold U6 at hf
 cases hu:P.underlying t with
 | none=>rw[hu] at hf;cases hf
 | some dd=>
  rw[hu] at hf
  cases dd with
  | struct fs=>
   simp only at hf
   cases hq:fs[k]? with
   | none=>rw[hq] at hf;cases hf
   | some f=>
    rw[hq] at hf;simp only[bN8] at hf
    cases hz:fK P f.type with
    | none=>rw[hz] at hf;cases hf
    | some s=>
     rw[hz] at hf
     cases s with
     | zero=>cases hf
     | succ s=>
      simp only[bH2] at hf;subst hf
      cases hi:P.info? f.type with
      | none=>simp[fK,hi] at hz
      | some i=>
       have hsz:i.size=s+1:=by simpa [fK,hi] using hz
       simp[Instr.fieldAt,Instr.sureAddr,run_underlying hu w,hq,fieldPlace,sizeOf,typeInfo,hi,hsz,add_lit]
  | _=>cases hf
variable {l : Fm} {all : Array Oper} {iv : Fm} {i d : Nat} {ds : List (Nat × Nat)} {D : List Nat} {Y : Fm → Prop}
end
section
variable {n : Nat} {w0 : World} {mu : List Nat} {l : Fm} {hp : Hp} {all : Array Oper} {iv : Fm} {i d : Nat} {ds : List (Nat × Nat)} {D : List Nat} {Y : Fm → Prop} {ty : TypeId} {pos : String} {af : Array Edge}
theorem Gu{p:Addr}(h:gX Tryz.prog n w0 mu all ds l hp Y D ((i,.pointer (some p))::iv))(ho:all[i]?=some ⟨some d,.nilCheck x,ty,pos,af,none⟩:=by rfl)(hx:ev (aT ds iv af.toList++l) x=some (.pointer (some p)):=by rfl):gX Tryz.prog n w0 mu all ds l hp Y (i::D) iv:=Dv ho (Om hx) h
theorem IU{t:TypeId}{off k' off':Nat}{os:List Nat}(h:gX Tryz.prog n w0 mu all ds l hp Y D ((i,.pointer (some ⟨b,off',none⟩))::iv))(ho:all[i]?=some ⟨some d,.fieldAddr t x k,ty,pos,af,none⟩:=by rfl)(hx:ev (aT ds iv af.toList++l) x=some (.pointer (some ⟨b,off,none⟩)):=by rfl)(hfo:lk Tb.fo t=some os:=by rfl)(hk:nth os k=some k':=by rfl)(he:off+k'=off':=by rfl):gX Tryz.prog n w0 mu all ds l hp Y (i::D) iv:=Dv ho (aa4 aB hx hfo hk he) h
theorem D9{f:FuncId}{xs:List Operand}{vs:List Value}{tys:Array TypeId}{X:Fm→Prop}{S:List Nat}(hc:∀ w hx,Good w0 mu (hx++hp) w→Fn Tryz.prog f vs.toArray w [] (fun u _=>u=v))(h:jr Tryz.prog n w0 mu all ds l hp X S ((i,v)::iv))(ho:all[i]?=some ⟨some d,.call { callee:=.value (.func f),args:=xs.toArray,argTypes:=tys },ty,pos,af,none⟩:=by rfl)(bM:mem iR f=true:=by rfl)(hv:evs (aT ds iv af.toList++l) xs=some vs:=by rfl):jr Tryz.prog n w0 mu all ds l hp X (i::S) iv:=
 jY ho (fun hx=>fM (eU f bM) hv (fun w hG=>hc w hx hG)) h
end
section
variable {P : Program} {n : Nat} {w0 : World} {mu : List Nat} {l : Fm} {h0 hp hc : Hp} {all : Array Oper} {iv aY bz : Fm} {i d t0 : Nat} {ds : List (Nat × Nat)} {S r : List Nat} {X : Fm → Prop} {Y : Fm → Hp → Prop} {op : Op} {ty : TypeId} {pos : String} {af : Array Edge} {v : Value} {j dj : Nat} {want b : Bool}
end
section
variable {n : Nat} {w0 : World} {mu : List Nat} {l : Fm} {h0 hp hc : Hp} {all : Array Oper} {iv aY bz : Fm} {i d : Nat} {ds : List (Nat × Nat)} {r : List Nat} {Y : Fm → Hp → Prop} {ty : TypeId} {pos : String} {af : Array Edge}
end
section
variable {P : Program} {n : Nat} {w0 : World} {mu : List Nat} {l : Fm} {hp : Hp} {dd : Option Tmp} {ty : TypeId} {pos : String} {af : Array Edge} {gg : Option (Nat × Bool)} {t u : TypeId} {x y : Operand}
theorem au7{pi qi:Int}(hx:ev l x=some (.int .u64 pi))(hy:ev l y=some (.int .u64 qi))(p q:Nat)(hpi:pi=(p:Int))(hqi:qi=(q:Int))(h1:p<18446744073709551616)(h2:q<18446744073709551616):Hy P n w0 mu l hp ⟨dd,.binOp .xor t x y u,ty,pos,af,gg⟩ (.int .u64 ((p ^^^ q:Nat):Int)):=
 bQ fun ac w hk _=>by
  subst hpi hqi;have:=u64_xor_nat p q h1 h2;simp only[execOp,hk.ev hx,hk.ev hy];simp[eqGuard_xor,binOp_xor,intBits_xor,this]
end
section
variable {P : Program} {n : Nat} {w0 : World} {mu : List Nat} {l : Fm} {hp : Hp} {Q : Exit → Fm → Hp → Prop} {all : Array Oper} {rest : List Oper} {dst : Option Nat} {op : Op} {ty : TypeId} {pos : String} {af : Array Edge}
theorem WW{j dj:Nat}{want b:Bool}(h:Ops P n w0 mu all (⟨dst,op,ty,pos,af,none⟩::rest) l hp Q)(hw:jb b want=true)(hj:(all[j]?).bind (·.dst)=some dj:=by rfl)(hb:look l dj=some (.bool b):=by rfl)(hdj:Nat.blt dj n=true:=by rfl):Ops P n w0 mu all (⟨dst,op,ty,pos,af,some (j,want)⟩::rest) l hp Q:=by
 intro a w hk hG;have h1:=h a w hk hG;have h2:=jM (o:=⟨dst,op,ty,pos,af,some (j,want)⟩) (c0:=true) hk rfl hj hb hdj;rw[hw] at h2;replace h2:Region.wanted (⟨dst,op,ty,pos,af,some (j,want)⟩:Oper) (yielded all a.tmps)=true:=h2;unfold wpList at h1 ⊢;rw[if_pos h2];rw[if_pos (by simp[Region.wanted])] at h1;exact h1
end
theorem aA.takeN{α:Type}{f:α→List Value}{xs:List α}{p:Option Addr}{cap sz:Nat}(h:aA w (.slice p n cap) sz (xs.map f))(hk:k≤xs.length):aA w (.slice p k cap) sz ((xs.take k).map f):=by
 obtain⟨⟨q,c,e,hne⟩,hle⟩:=h;injection e with e1 e2 e3
 subst e1 e3;have hl:((xs.take k).map f).length=k:=by rw[bE9,bI1];omega
 refine⟨⟨_,_,by rw[hl],fun hx=>?_⟩,by rw[hl];rw[bE9] at hle;omega⟩;obtain⟨b,off,rfl,hr⟩:=hne (by intro e;apply hx;rw[bP0] at e ⊢;rw[e];simp);refine⟨b,off,rfl,fun i c hi=>hr i c ?_⟩;rw[List.map_take,bK2] at hi;split at hi
 ·exact hi
 ·cases hi
attribute [local irreducible] Hy St Ops DH dI jr iP gX DS iD
end
section
attribute [local irreducible] Hy St Ops DH dI
def Gv(n:Nat)(page:Int):Bool:=fJ n&&PtD.dm page 0 4095
theorem SY{page:Int}(h:Gv n page=true):fJ n=true∧(8≤n∧n≤512)∧((page.toNat:Nat):Int)=page∧page.toNat≤4095:=by
 simp only[Gv,bE8] at h;have h1:=bP h.1;have h2:=nG h.2;exact⟨h.1,⟨h1.1,h1.2.1⟩,h2.1,h2.2⟩
theorem S9{cap:Nat}{q:Option Addr}(hn:n<1000000)(root page:Int)(down:Nat)(hd:down<4)(hk:Gv n page=false)(w:World):Fn Tryz.prog 195 [.agg #[.slice q n cap],.int .i64 root,.int .i64 page,.int .i64 (down:Int)].toArray w [] (fun u hn=>u=.tuple #[.agg #[.slice none 0 0,.int .i64 0],.agg #[.int .i64 0,.int .i64 0,.bool false,.bool false,.bool false,.bool false,.bool false,.int .i64 0,.int .i64 0,.slice none 0 0],.int .i64 1]):=by
 refine enter Tryz.func195 ?_;refine run ?_;intro B C D;refine run ?_;refine az (fun wc hG=>yL n cap bx6 q wc) ?_;refine aP ?_;refine ah _ rfl (fun hc=>?_) (fun hc=>?_)
 ·refine run ?_;refine uP 4 2 [0,1] [2,3] [⟨D,#[.int .i64 0,.int .i64 0,.bool false,.bool false,.bool false,.bool false,.bool false,.int .i64 0,.int .i64 0,.slice none 0 0],275⟩,⟨C,#[.slice none 0 0,.int .i64 0],272⟩,⟨B,#[.slice q n cap],24⟩] ?_;refine jV ?_;refine jd (b:=C) (tb:=272) (cs:=#[.slice none 0 0,.int .i64 0]) (cs':=#[.slice none 0 0,.int .i64 0]) (hp':=[⟨D,#[.int .i64 0,.int .i64 0,.bool false,.bool false,.bool false,.bool false,.bool false,.int .i64 0,.int .i64 0,.slice none 0 0],275⟩,⟨B,#[.slice q n cap],24⟩]) ?_ aU;refine jd (b:=D) (tb:=275) (cs:=#[.int .i64 0,.int .i64 0,.bool false,.bool false,.bool false,.bool false,.bool false,.int .i64 0,.int .i64 0,.slice none 0 0]) (cs':=#[.int .i64 0,.int .i64 0,.bool false,.bool false,.bool false,.bool false,.bool false,.int .i64 0,.int .i64 0,.slice none 0 0]) (hp':=[⟨C,#[.slice none 0 0,.int .i64 0],272⟩,⟨B,#[.slice q n cap],24⟩]) ?_ aU;refine di ?_;refine kN ?_;refine run ?_;exact Gt rfl
 ·exfalso;simp only[Gv,PtD.dm] at hk
  cases hm:fJ n with
  | false=>rw[hm] at hc;simp at hc
  | true=>rw[hm] at hk hc;simp at hk hc;omega
theorem WX{fs:List Int}(d:DsD)(h:aA w v 1 (fs.map bY))(hl:fs.length≤4)(h0:0<fs.length)(hn:n<1000000)(hf:∀ f∈fs,bK n f=true)(page:Nat)(hp:page≤4095):Fn Tryz.prog 245 [.agg #[.int .i64 d.kind,.int .i64 d.frame,.bool d.r,.bool d.w,.bool d.x,.bool d.af,.bool d.ng,.int .i64 d.soft,.int .i64 d.note,v],.int .i64 (page:Int)].toArray w [] (fun u _=>u=.int .i64 (jg (fs.getD (fs.length-1) 0) (fs.length-1) page:Int)):=by
 obtain⟨q,cap,rfl,hne,hle⟩:=h.opened;obtain⟨b,o,rfl⟩:=hne (by intro e;subst e;simp at h0);have hr:=aj (h.row (k:=fs.length-1) bx6);simp only[bH6] at hr;refine enter Tryz.func245 ?_;refine run ?_;intro B;refine run ?_;refine gQ 10 ?_;refine dJ ?_;refine eu (fun wc hG=>rC d _ fs.length cap h0 bx6 wc) ?_;refine dJ ?_;refine eu (fun wc hG=>rC d _ fs.length cap h0 bx6 wc) ?_;refine dJ ?_;refine eu (fun wc hG=>Oj (fs.getD (fs.length-1) 0) (hf _ bB9) hn (fs.length-1) bx6 page hp wc) ?_;refine dJ ?_;refine run ?_;exact fin1 rfl
theorem Gw(W:qM)(d:DsD)(h:aA w v 1 (W.fs.map bY))(hl:W.fs.length≤4)(h0:0<W.fs.length)(hn:n<1000000)(hf:∀ f∈W.fs,bK n f=true)(page:Nat)(hp:page≤4095):Fn Tryz.prog 245 [.agg #[.int .i64 d.kind,.int .i64 d.frame,.bool d.r,.bool d.w,.bool d.x,.bool d.af,.bool d.ng,.int .i64 d.soft,.int .i64 d.note,v],.int .i64 (page:Int)].toArray w [] (fun u _=>u=.int .i64 (W.place page:Int)):=WX d h hl h0 hn hf page hp
theorem qM.Fine.KF{W:qM}{ws:List Nat}{down:Nat}(h:W.Fine ws page down):W.place page<ws.length:=by
 have h1:=h.pos;exact D7 (h.has _ (by rw[bE',qM.lv,bF0 bx6];simp))
theorem Ah(xs:List Nat)(v:Value)(root:Int)(h:aA w v 1 (xs.map uV))(hl:xs.length<1000000):Fn Tryz.prog 243 [.agg #[v,.int .i64 root]].toArray w [] (fun u hn=>∃ v2 h2,u=.agg #[v2,.int .i64 root]∧Own 53 1 v2 h2 (xs.map uV)∧aJ h2 hn):=by
 obtain⟨q,cap,rfl,hne,hle⟩:=h.opened;refine enter Tryz.func243 ?_;refine run ?_;intro B;refine run ?_;intro C;refine run ?_;refine uP 9 8 [0,1,2,5,6] [3,4,7,8] [⟨B,#[.slice q xs.length cap,.int .i64 root],272⟩] ?_;refine jV ?_;refine yF (fun wc hG=>oN _ (xs.map uV) (h.good hG) bA5 (by simpa using hl)) ?_;intro u hn2 hO;obtain⟨q2,cap2,rfl⟩:=hO.opened;refine NY ?_;refine NY ?_;refine jd (b:=C) (tb:=272) (cs:=#[.slice none 0 0,.int .i64 0]) (cs':=#[.slice q2 (xs.map uV).length cap2,.int .i64 root]) (hp':=hn2++[⟨B,#[.slice q xs.length cap,.int .i64 root],272⟩]) ?_ aU;refine di ?_;refine kN ?_;refine run ?_;refine dQ ⟨_,hn2,rfl,hO,by (exact ak)⟩
theorem aa5(n cap:Nat)(q:Option Addr)(root:Int)(hn:n<1000000)(d:DsD)(fs l:List Int){v1 v2:Value}(h1:aA w v1 1 (l.map bY))(hc1:∃ p c,v1=.slice p l.length c∧l.length≤c)(h2:aA w v2 1 (fs.map bY))(hroot:root∈fs):Fn Tryz.prog 247 [.agg #[.slice q n cap,.int .i64 root],.agg #[.int .i64 d.kind,.int .i64 d.frame,.bool d.r,.bool d.w,.bool d.x,.bool d.af,.bool d.ng,.int .i64 d.soft,.int .i64 d.note,v2],v1].toArray w [] (fun u _=>u=.bool (nR n fs l)):=by
 obtain⟨q1,cap1,rfl,hcap1⟩:=hc1;obtain⟨_,_,e1,hne1,_⟩:=h1.opened;injection e1 with e1
 subst e1;obtain⟨q2,cap2,rfl,hne2,hle2⟩:=h2.opened;refine enter Tryz.func247 ?_;refine run ?_;intro B C;refine run ?_;refine aK (σ:=Nat) (fun k=>[(11,.int .i64 (k:Int))]) (fun _=>[⟨C,#[.int .i64 d.kind,.int .i64 d.frame,.bool d.r,.bool d.w,.bool d.x,.bool d.af,.bool d.ng,.int .i64 d.soft,.int .i64 d.note,.slice q2 fs.length cap2],275⟩,⟨B,#[.slice q n cap,.int .i64 root],272⟩]) (fun k=>k≤l.length∧∀ j,j<k→oh n fs l j=true) (fun k=>l.length-k) 0 ⟨bF4 _,fun j hj=>absurd hj bx6⟩ ?_;rintro k m rfl ⟨hk,hyes⟩;refine run ?_;refine ah _ rfl (fun hc=>?_) (fun hc=>?_)
 ·have hlt:k<l.length:=by simp at hc;omega
  obtain⟨b,o,rfl⟩:=hne1 by0;have hr:=aj (h1.row hlt);simp only[bH6] at hr;refine run ?_;refine az (fun wc hG=>Oi n cap q root hn _ wc) ?_;refine aC ?_;have hsl:aA w (.slice (some ⟨b,o,none⟩) k cap1) 1 ((l.take k).map bY):=h1.takeN bx6;refine UY (v:=.slice (some ⟨b,o,none⟩) k cap1) (hy:=fun hg1=>by simp only[hg1,bJ];exact pO aB rfl rfl by5 bx6 bx6 (m':=k) bx8 (.inr ⟨_,_,rfl⟩)) (h:=?_);refine aC ?_;refine bH (fun hg wc hG=>jQ _ _ _ (hsl.good hG)) ?_;refine aC ?_;refine bH (fun hg wc hG=>jQ _ fs _ (h2.good hG)) ?_;refine aC ?_
  have e1:(!bK n (l.getD k default)||decide (l.getD k default=root)||(l.take k).any (fun t=>decide (t=l.getD k default))||fs.any (fun t=>decide (t=l.getD k default)))=!oh n fs l k:=by
   unfold oh;show _=!(bK n (l.getD k default)&&!(l.take k).any (fun t=>decide (t=l.getD k default))&&!fs.any (fun t=>decide (t=l.getD k default)));generalize l.getD k default=x;by_cases hx:x=root
   ·have:fs.any (fun t=>decide (t=x))=true:=by rw[bJ9];exact⟨x,by rw[hx];exact hroot,by simp⟩
    rw[this];simp
   ·rw[decide_eq_false hx];cases bK n x<;>cases (l.take k).any (fun t=>decide (t=x))<;>cases fs.any (fun t=>decide (t=x))<;>rfl
  refine ah _ rfl (fun hc2=>?_) (fun hc2=>?_)
  ·rw[e1] at hc2;refine run ?_;refine fin1 ?_;rw[Bd hlt (by simpa using hc2)]
  ·rw[e1] at hc2;refine run ?_;refine aF (k+1) ⟨hlt,fun j hj=>?_⟩;rcases bG1.1 hj with hj | rfl
   ·exact hyes j hj
   ·simpa using hc2
 ·refine run ?_;refine fin1 ?_;have:k=l.length:=by simp at hc;omega
  subst this;rw[xy hyes]
theorem Ea(ws:List Nat)(hw:lT ws)(h:aA w v 1 (ws.map uV))(hm:fJ ws.length=true)(root:Int)(page:Nat)(hp:page≤4095)(down:Nat)(hd:down<4):Fn Tryz.prog 195 [.agg #[v],.int .i64 root,.int .i64 (page:Int),.int .i64 (down:Int)].toArray w [] (fun u hn=>∃ v2 h2 d,u=.tuple #[.agg #[v,.int .i64 root],.agg #[.int .i64 d.kind,.int .i64 d.frame,.bool d.r,.bool d.w,.bool d.x,.bool d.af,.bool d.ng,.int .i64 d.soft,.int .i64 d.note,v2],.int .i64 (bif (aQ ws root page down).ok then 0 else 2)]∧Own 3 1 v2 h2 ((aQ ws root page down).fs.map bY)∧aJ h2 hn∧d=(aQ ws root page down).d):=by
 have rX:=bP hm;obtain⟨q,cap,rfl,hne,hle⟩:=h.opened;refine enter Tryz.func195 ?_;refine run ?_;intro B C D;refine run ?_;refine az (fun wc hG=>yL ws.length cap bx6 q wc) ?_;rw[hm];refine aP ?_;refine ah _ rfl (fun hc=>?_) (fun hc=>?_)
 ·exfalso;simp at hc;omega
 refine run ?_;refine bI (fun wc hG=>aa3 ws hw (h.good hG) root page hp down hd bx6) ?_;rintro u hn2 ⟨v2,h2,d,rfl,hO,hle2,hdd⟩;obtain⟨q2,cap2,e2⟩:=hO.opened;rw[bE9] at e2;subst e2;refine gZ hle2 ?_;refine bZ (_++h2) bG6 ?_;simp only[bF2,bF5];refine run ?_;refine uP 5 3 [0,1,2] [3,4] (⟨D,#[.int .i64 d.kind,.int .i64 d.frame,.bool d.r,.bool d.w,.bool d.x,.bool d.af,.bool d.ng,.int .i64 d.soft,.int .i64 d.note,.slice q2 (aQ ws root page down).fs.length cap2],275⟩::⟨C,#[.slice q ws.length cap,.int .i64 root],272⟩::⟨B,#[.slice q ws.length cap],24⟩::h2) ?_;refine jV ?_;refine cSame ?_;refine cSame ?_;refine di ?_;refine kN ?_;refine run ?_;refine Gt ⟨_,h2,d,rfl,hO,by (exact ak),hdd⟩
theorem IV(ws:List Nat)(hw:lT ws)(h:aA w v 1 (ws.map uV))(hm:fJ ws.length=true)(root:Int)(page:Nat)(hp:page≤4095):Fn Tryz.prog 117 [.agg #[v],.int .i64 root,.int .i64 (page:Int)].toArray w [] (fun u hn=>u=.tuple #[ug (iE ws root page).d,.int .i64 ((iE ws root page).level:Int),.int .i64 (iE ws root page).e]):=by
 have rX:=bP hm;refine enter Tryz.func117 ?_;obtain⟨q,cap,rfl,hne,hle⟩:=h.opened;refine run ?_;intro B C;refine run ?_;refine bI (fun wc hG=>Ea ws hw (h.good hG) hm root page hp 3 bx7) ?_;rintro u hn2 ⟨v2,h2,d,rfl,hO,hle2,hdd⟩;obtain⟨q2,cap2,e2⟩:=hO.opened;rw[bE9] at e2;subst e2;refine gZ hle2 ?_;refine bZ (_++h2) bG6 ?_;simp only[bF2,bF5];refine run ?_;intro E F;refine run ?_;have hok:(bif (aQ ws root page 3).ok then (0:Int) else 2)=(iE ws root page).e:=by cases hk:(aQ ws root page 3).ok<;>simp[iE,hk]
 rw[hok];refine ah _ rfl (fun hc=>?_) (fun hc=>?_)
 ·have hg:iE ws root page=⟨dG,0,2⟩:=by
   cases hk:(aQ ws root page 3).ok with
   | false=>simp[iE,hk]
   | true=>simp[iE,hk] at hc
  rw[hg];refine run ?_;exact KC (cs:=#[.int .i64 0,.int .i64 0,.bool false,.bool false,.bool false,.bool false,.bool false,.int .i64 0,.int .i64 0]) rfl
 ·have hk:(aQ ws root page 3).ok=true:=by
   cases hk:(aQ ws root page 3).ok with
   | false=>simp[iE,hk] at hc
   | true=>rfl
  have hg:iE ws root page=⟨(aQ ws root page 3).d,(aQ ws root page 3).lv,0⟩:=by simp[iE,hk]
  rw[hg];have kF:=jP hk;have hpos:=kF.pos;refine run ?_;rw[hdd];refine uP 5 4 [0,1,2,3] [4] (⟨F,#[.int .i64 (aQ ws root page 3).d.kind,.int .i64 (aQ ws root page 3).d.frame,.bool (aQ ws root page 3).d.r,.bool (aQ ws root page 3).d.w,.bool (aQ ws root page 3).d.x,.bool (aQ ws root page 3).d.af,.bool (aQ ws root page 3).d.ng,.int .i64 (aQ ws root page 3).d.soft,.int .i64 (aQ ws root page 3).d.note,.slice q2 (aQ ws root page 3).fs.length cap2],275⟩::⟨E,#[.slice q ws.length cap,.int .i64 root],272⟩::⟨B,#[.slice q ws.length cap],24⟩::h2) ?_;refine jV ?_;refine zW (fun wc hx hG=>rC _ q2 (aQ ws root page 3).fs.length cap2 hpos (by have:=kF.le;omega) wc) ?_;refine jV ?_;refine jd (b:=C) (tb:=95) (cs:=#[.int .i64 0,.int .i64 0,.bool false,.bool false,.bool false,.bool false,.bool false,.int .i64 0,.int .i64 0]) (cs':=#[.int .i64 (aQ ws root page 3).d.kind,.int .i64 (aQ ws root page 3).d.frame,.bool (aQ ws root page 3).d.r,.bool (aQ ws root page 3).d.w,.bool (aQ ws root page 3).d.x,.bool (aQ ws root page 3).d.af,.bool (aQ ws root page 3).d.ng,.int .i64 (aQ ws root page 3).d.soft,.int .i64 (aQ ws root page 3).d.note]) (hp':=⟨F,#[.int .i64 (aQ ws root page 3).d.kind,.int .i64 (aQ ws root page 3).d.frame,.bool (aQ ws root page 3).d.r,.bool (aQ ws root page 3).d.w,.bool (aQ ws root page 3).d.x,.bool (aQ ws root page 3).d.af,.bool (aQ ws root page 3).d.ng,.int .i64 (aQ ws root page 3).d.soft,.int .i64 (aQ ws root page 3).d.note,.slice q2 (aQ ws root page 3).fs.length cap2],275⟩::⟨E,#[.slice q ws.length cap,.int .i64 root],272⟩::⟨B,#[.slice q ws.length cap],24⟩::h2) ?_ aU;refine di ?_;refine kN ?_;refine run ?_;exact KC rfl
theorem Qw(ws:List Nat)(hw:lT ws)(h:aA w v 1 (ws.map uV))(hm:fJ ws.length=true)(root:Int)(page:Nat)(hp:page≤4095)(level:Nat)(hl:level<4)(d:DsD)(hd:d.may 2 level=true):Fn Tryz.prog 306 [.agg #[v],.int .i64 root,.int .i64 (page:Int),.int .i64 (level:Int),ug d].toArray w [] (fun u hn=>au2 (fB ws root page level d) u hn):=by
 have rX:=bP hm;refine enter Tryz.func306 ?_;obtain⟨q,cap,rfl,hne,hle⟩:=h.opened;refine run ?_;intro B C D;refine run ?_;refine az (fun wc hG=>yK 2 (.inr rfl) level hl d wc) ?_;rw[hd];refine aP ?_;refine bI (fun wc hG=>Ea ws hw (h.good hG) hm root page hp level hl) ?_;rintro u hn2 ⟨v2,h2,dd,rfl,hO,hle2,hdd⟩;obtain⟨q2,cap2,e2⟩:=hO.opened;rw[bE9] at e2;subst e2;refine gZ hle2 ?_;refine bZ (_++h2) bG6 ?_;simp only[bF2,bF5];refine run ?_;intro E F;refine run ?_;refine ah _ rfl (fun hc=>?_) (fun hc=>?_)
 ·have hk:(aQ ws root page level).ok=false:=by
   cases hk:(aQ ws root page level).ok with
   | false=>rfl
   | true=>simp[hk] at hc
  have hg:fB ws root page level d=badM 2:=by simp only[fB,hk];rfl
  rw[hg,hk];refine run ?_;exact fZ ⟨_,_,rfl,Own.nil _ _,trivial⟩
 ·have hk:(aQ ws root page level).ok=true:=by
   cases hk:(aQ ws root page level).ok with
   | false=>simp[hk] at hc
   | true=>rfl
  have kF:=jP hk;refine run ?_;have hpos:=kF.pos;have Ag:=kF.le;refine az (fun wc hG=>rC dd q2 (aQ ws root page level).fs.length cap2 hpos bx6 wc) ?_;refine run ?_;have e1:decide ((((aQ ws root page level).fs.length-1:Nat):Int)=(level:Int))=decide ((aQ ws root page level).lv=level):=by rw[bF3,decide_eq_true_eq,decide_eq_true_eq,qM.lv];omega
  rw[e1];refine ah _ rfl (fun hc2=>?_) (fun hc2=>?_)
  ·have hk2:decide ((aQ ws root page level).lv=level)=false:=by simpa using hc2
   have hg:fB ws root page level d=badM 3:=by simp only[fB,hk,hk2];rfl
   rw[hg];refine run ?_;exact fZ ⟨_,_,rfl,Own.nil _ _,trivial⟩
  have hk2:decide ((aQ ws root page level).lv=level)=true:=by simpa using hc2
  have hg:fB ws root page level d=⟨lH ws ((aQ ws root page level).place page) level d,[],0⟩:=by simp only[fB,hk,hk2];rfl
  rw[hg];refine run ?_;refine bI (fun wc hG=>Ah ws _ root (h.good hG) bx6) ?_;rintro u hn3 ⟨v3,h3,rfl,hO3,hle3⟩;obtain⟨g3,cap3,uY,rfl,rfl,hr3⟩:=hO3.row (n:=ws.length) (by rw[bE9]) bx6;refine gZ hle3 ?_;refine run ?_;intro X;refine run ?_;refine gQ 6 ?_;refine dJ ?_;refine eu (fun wc hG=>Gw (aQ ws root page level) dd (hO.lie (fun b hb=>hG.here b bD4) bx9) Ag hpos (n:=ws.length) bx6 kF.has page hp) ?_;refine dJ ?_;have hpl:=kF.KF;obtain⟨hsz3,_,_,aI3⟩:=hO3.Ae hpl;refine je [⟨g3,uY,53⟩] (⟨X,#[.slice (some ⟨g3,0,none⟩) ws.length cap3,.int .i64 root],272⟩::⟨D,#[.slice none 0 0],24⟩::⟨B,#[.slice q ws.length cap],24⟩::⟨C,#[.int .i64 d.kind,.int .i64 d.frame,.bool d.r,.bool d.w,.bool d.x,.bool d.af,.bool d.ng,.int .i64 d.soft,.int .i64 d.note],95⟩::⟨F,#[.int .i64 dd.kind,.int .i64 dd.frame,.bool dd.r,.bool dd.w,.bool dd.x,.bool dd.af,.bool dd.ng,.int .i64 dd.soft,.int .i64 dd.note,.slice q2 (aQ ws root page level).fs.length cap2],275⟩::⟨E,#[.slice q ws.length cap,.int .i64 root],272⟩::h2) (fun wc hG=>Ol ws hO3 root _ level hl hpl bx6 d hd hG.iY) ?_ aU;rintro u4 hn4 ⟨rfl,yP⟩;refine gZ yP ?_;simp only[bF2,bF5];refine run ?_;exact fZ ⟨_,[⟨g3,_,53⟩],rfl,aI3 _,by (exact ak)⟩
end
section
section
variable {P : Program} {T : Tab} {n : Nat} {w0 : World} {mu : List Nat} {l : Fm} {hp : Hp} {dd : Option Tmp} {ty : TypeId} {pos : String} {af : Array Edge} {gg : Option (Nat × Bool)} {Q : Exit → Fm → Hp → Prop} {all : Array Oper} {rest : List Oper}
theorem KG(ok:bC P T){sz o m c:Nat}{cs:Array Value}{tb:TypeId}{z x0:Value}{hp':Hp}(hx:ev l x=some (.slice (some ⟨b,o,none⟩) m c))(ht:lk T.sl t=some (e,sz))(hz:lk T.zs e=some z)(hzc:z.cells=#[x0])(hsz1:sz=1)(hz1:x0.oneCell'=true)(hm:0<m)
  (hperm:(⟨b,cs,tb⟩::hp').Perm hp) (hfit:o+m*sz≤cs.size)
  (h:Ops P n w0 mu all rest l (⟨b,putAt cs o (List.replicate m x0),tb⟩::hp') Q):Ops P n w0 mu all (⟨none,.call { callee:=.builtin .clear,args:=#[x],argTypes:=#[t] },ty,pos,af,none⟩::rest) l hp Q:=by
 intro ac w hk hG;obtain⟨hu,hsz⟩:=ok.zC ht;have hG':=hG.perm hperm;have hb:=hG'.here _ (bF' ..);subst hsz1
 have hrep:(Builtin.zeroCells z.cells m).toList=List.replicate m x0:=by
  rw[List.eq_replicate_iff];refine⟨by rw[bR5,size_zeroCells,hzc];simp,fun u hu=>?_⟩;rw[hzc] at hu;simp only[Builtin.zeroCells,Array.mem_toList_iff,Array.mem_map,Array.mem_range] at hu;obtain⟨i,hi,rfl⟩:=hu;simp[bT1]
 have hst:=run_storeCells_cells (P:=P) b o (List.replicate m x0) 0 w
  (fun j hj=>by rw[bW3] at hj;rw[cell_of_block hb];simp[show o+j<cs.size by omega])
  (fun j _=>fQ hb) (fun u hu=>by rw[(List.mem_replicate.1 hu).2];exact hz1)
 simp only[bI8] at hst;refine wpList_plain rfl fun K hK=>?_;unfold Oper.wp execOp
 have hr:(Builtin.clear_ #[t] ty #[.slice (some ⟨b,o,none⟩) m c]).run P w=.ok (.tuple #[]) (w.setCells b o (List.replicate m x0)):=by
  obtain⟨m',rfl⟩:∃ m',m=m'+1:=⟨m-1,by omega⟩
  simp[Builtin.clear_,run_underlying hu,pF (ok.Nj hz) w,hrep,hst]
 simp only[resolve,invoke,builtin,Sem.run_bind,Sem.run_pure,Result.andThen_ok,bM6,bI',bL',hk.ev hx,hr];exact hK _ _ (h _ _ hk (Good.sets (w:=w) _ cs o w hG'))
end
theorem Tc:∀ (xs bs:List Value) (cs:Array Value) (o:Nat),putAt cs o (xs++bs)=putAt (putAt cs o xs) (o+xs.length) bs:=by
 intro xs
 induction xs with
 | nil=>intro bs cs o;rfl
 | cons a r ih=>intro bs cs o;rw[bF2,putAt,putAt,ih,bI6];congr 1;omega
theorem Own.zeros{g cap:Nat}{cur:Array Value}{ws:List Nat}(hA:Own e 1 (.slice (some ⟨g,0,none⟩) n cap) [⟨g,cur,e⟩] (ws.map uV)){o:Nat}:∀ k,o+k≤ws.length→Own e 1 (.slice (some ⟨g,0,none⟩) n cap) [⟨g,putAt cur o (List.replicate k (.int .u64 0)),e⟩] ((uh ws o k).map uV):=by
 intro k
 induction k with
 | zero=>intro _;exact hA
 | succ k ih=>
  intro hk;obtain⟨_,_,_,hset⟩:=(ih bx6).Ae (k:=o+k) (by rw[Ac];omega);rw[List.replicate_succ',Tc,bW3,uh];exact hset 0
attribute [local irreducible] Hy St Ops DH dI
def Ec(ws:List Nat)(root:Int)(l:List Int)(page:Int)(d:DsD):IL:=bif d.may 2 3&&decide (d.kind=2)&&Gv ws.length page then ru ws root l page.toNat d else badM 1
set_option maxHeartbeats 400000 in
theorem au8(ws:List Nat)(hw:lT ws){vl:Value}(h:aA w v 1 (ws.map uV))(hn:ws.length<1000000)(l:List Int)(hv:aA w vl 1 (l.map bY))(hcap:∃ p c,vl=.slice p l.length c∧l.length≤c∧(p=none∨∃ b off,p=some ⟨b,off,none⟩))(hln:l.length<1000000)(root page:Int)(d:DsD):Fn Tryz.prog 165 [.agg #[v],.int .i64 root,vl,.int .i64 page,ug d].toArray w [] (fun u hn=>SS (Ec ws root l page d) u hn):=by
 refine enter Tryz.func165 ?_;obtain⟨q,cap,rfl,hne,hle⟩:=h.opened;obtain⟨ql,KD,rfl,hcap,hql⟩:=hcap;refine run ?_;intro B C D;refine aC ?_;refine az (fun wc hG=>yK 2 (.inr rfl) 3 bx7 d wc) ?_;refine aC ?_;refine ah _ rfl (fun hc=>?_) (fun hc=>?_)
 ·have hg:Ec ws root l page d=badM 1:=by
   have:(d.may 2 3&&decide (d.kind=2))=false:=by
    cases hm:d.may 2 3 with
    | false=>rfl
    | true=>rw[hm] at hc;simpa using hc
   simp only[Ec,this];rfl
  rw[hg];refine run ?_;exact ry ⟨_,_,_,_,rfl,Own.nil _ _,Own.nil _ _,trivial⟩
 have hmk:(d.may 2 3&&decide (d.kind=2))=true:=by
  cases hm:d.may 2 3 with
  | false=>rw[hm] at hc;simp at hc
  | true=>rw[hm] at hc;simpa using hc
 have aI4:=hmk;rw[bE8,decide_eq_true_eq] at aI4;obtain⟨hdm,hdk⟩:=aI4
 cases hk:Gv ws.length page with
 | false=>
  have hg:Ec ws root l page d=badM 1:=by simp only[Ec,hk,hmk];rfl
  rw[hg];refine run ?_;refine bI (fun wc hG=>S9 bx6 root page 3 bx7 hk wc) ?_;rintro u hn2 rfl;refine aS [⟨D,#[.slice none 0 0],24⟩,⟨C,#[.int .i64 d.kind,.int .i64 d.frame,.bool d.r,.bool d.w,.bool d.x,.bool d.af,.bool d.ng,.int .i64 d.soft,.int .i64 d.note],95⟩,⟨B,#[.slice q ws.length cap],24⟩] ak ?_;refine run ?_;intro E F;refine aP ?_
  exact ry ⟨_,_,_,_,rfl,Own.nil _ _,Own.nil _ _,trivial⟩
 | true=>
  obtain⟨hm,rX,hz,qA⟩:=SY hk;have hg:Ec ws root l page d=ru ws root l page.toNat d:=by simp only[Ec,hk,hmk];rfl
  rw[hg];rw[←hz];simp only[bK'];generalize page.toNat=pg at qA;refine run ?_;refine bI (fun wc hG=>Ea ws hw (h.good hG) hm root pg qA 3 bx7) ?_;rintro u hn2 ⟨v2,h2,d2,rfl,hO,hle2,hdd⟩;have hl4:=yO ws root pg 3;simp only[ru]
  cases hok:(aQ ws root pg 3).ok with
  | false=>
   obtain⟨q2,cap2,e2⟩:=hO.opened;subst e2;simp only[bO7,bI3,cond_true];refine aS [⟨D,#[.slice none 0 0],24⟩,⟨C,#[.int .i64 d.kind,.int .i64 d.frame,.bool d.r,.bool d.w,.bool d.x,.bool d.af,.bool d.ng,.int .i64 d.soft,.int .i64 d.note],95⟩,⟨B,#[.slice q ws.length cap],24⟩] ak ?_;refine run ?_;intro E F;refine aP ?_
   exact ry ⟨_,_,_,_,rfl,Own.nil _ _,Own.nil _ _,trivial⟩
  | true=>
   have kF:=jP hok;have hnt:=Qu hok;have hroot:=SI hok;generalize aQ ws root pg 3=W at hO hok kF hnt hl4 hdd hroot ⊢;have Ag:=kF.le;have hpos:=kF.pos;obtain⟨q2,cap2,e2⟩:=hO.opened;rw[bE9] at e2;subst e2 hdd;simp only[cond_true,bF6,bH3,cond_false];refine aS (⟨D,#[.slice none 0 0],24⟩::⟨C,#[.int .i64 d.kind,.int .i64 d.frame,.bool d.r,.bool d.w,.bool d.x,.bool d.af,.bool d.ng,.int .i64 d.soft,.int .i64 d.note],95⟩::⟨B,#[.slice q ws.length cap],24⟩::h2) (cnt1 hle2) ?_;refine run ?_;intro E F;refine aP ?_;refine az (fun wc hG=>rC W.d q2 W.fs.length cap2 hpos bx6 wc) ?_;have hlk:(3:Int)-((W.fs.length-1:Nat):Int)=((4-W.fs.length:Nat):Int):=by omega
   refine run ?_;rw[hlk];refine aP ?_;refine az (fun wc hG=>aa5 ws.length cap q root bx6 W.d W.fs l (hv.good hG) ⟨_,_,rfl,hcap⟩ (hO.lie (fun b hb=>hG.here b bD4) bx9) hroot) ?_;refine run ?_;refine ah _ rfl (fun hc=>?_) (fun hc=>?_)
   ·have hfr:nR ws.length W.fs l=false:=by simpa using hc
    rw[hfr,bI3,cond_true];refine run ?_;exact ry ⟨_,_,_,_,rfl,Own.nil _ _,Own.nil _ _,trivial⟩
   have hfr:nR ws.length W.fs l=true:=by simpa using hc
   rw[hfr,bH3,cond_false];clear hc;refine aC ?_;have e1:decide (0<((4-W.fs.length:Nat):Int))=decide (W.fs.length<4):=by rw[bF3,decide_eq_true_eq,decide_eq_true_eq];omega
   rw[e1];refine ah _ rfl (fun hc=>?_) (fun hc=>?_)
   ·rw[hc,cond_true];refine run ?_;exact ry ⟨_,_,_,_,rfl,Own.nil _ _,Own.nil _ _,trivial⟩
   rw[hc,cond_false];clear hc;have e3:decide ((l.length:Int)<((4-W.fs.length:Nat):Int))=decide (l.length+W.fs.length<4):=by rw[bF3,decide_eq_true_eq,decide_eq_true_eq];omega
   refine run ?_;refine ah _ rfl (fun hc=>?_) (fun hc=>?_)
   ·rw[e3] at hc;rw[hc,cond_true];refine run ?_;exact ry ⟨_,_,_,_,rfl,Own.nil _ _,Own.nil _ _,trivial⟩
   rw[e3] at hc;rw[hc,cond_false];replace hc:4≤l.length+W.fs.length:=by simpa using hc
   refine run ?_;refine DX 7 6 [0,2,3,4] [1,5] [6] (⟨F,#[.int .i64 W.d.kind,.int .i64 W.d.frame,.bool W.d.r,.bool W.d.w,.bool W.d.x,.bool W.d.af,.bool W.d.ng,.int .i64 W.d.soft,.int .i64 W.d.note,.slice q2 W.fs.length cap2],275⟩::⟨E,#[.slice q ws.length cap,.int .i64 root],272⟩::⟨D,#[.slice none 0 0],24⟩::⟨C,#[.int .i64 d.kind,.int .i64 d.frame,.bool d.r,.bool d.w,.bool d.x,.bool d.af,.bool d.ng,.int .i64 d.soft,.int .i64 d.note],95⟩::⟨B,#[.slice q ws.length cap],24⟩::h2) ?_;refine jV ?_;refine zW (fun wc hx hG=>Gw W W.d (hO.lie (fun b hb=>hG.here b bD4) bx9) Ag hpos (n:=ws.length) bx6 kF.has pg qA) ?_;refine jV ?_;refine ku (fun wc hG=>Ah ws _ root (h.good hG) bx6) (Ah ws _ root h bx6).some ?_;refine sN ?_;refine kL ?_;rintro _ _ ⟨X,rfl,rfl⟩ u hn3 ⟨v3,h3,rfl,hO3,hle3⟩;obtain⟨g3,cap3,uY,rfl,rfl,hr3⟩:=hO3.row (n:=ws.length) (by rw[bE9]) bx6;simp only[DN,bF2,bF5,bG3];refine WB ?_;refine di ?_;refine kN ?_;refine aS (⟨X,#[.slice (some ⟨g3,0,none⟩) ws.length cap3,.int .i64 root],272⟩::⟨g3,uY,53⟩::⟨F,#[.int .i64 W.d.kind,.int .i64 W.d.frame,.bool W.d.r,.bool W.d.w,.bool W.d.x,.bool W.d.af,.bool W.d.ng,.int .i64 W.d.soft,.int .i64 W.d.note,.slice q2 W.fs.length cap2],275⟩::⟨E,#[.slice q ws.length cap,.int .i64 root],272⟩::⟨D,#[.slice none 0 0],24⟩::⟨C,#[.int .i64 d.kind,.int .i64 d.frame,.bool d.r,.bool d.w,.bool d.x,.bool d.af,.bool d.ng,.int .i64 d.soft,.int .i64 d.note],95⟩::⟨B,#[.slice q ws.length cap],24⟩::h2) (cnt1 hle3) ?_;refine run ?_;generalize bj4:4-W.fs.length=lk at *;have aI0:lk≤l.length:=by omega
   refine jI by5 (pO aB rfl rfl by5 bx6 bx6 (m':=lk) bx8 hql) ?_;refine run ?_;refine aK (σ:=Nat×Array Value×Nat×List Nat) (fun s=>[(86,.int .i64 (s.1:Int)),(17,.int .i64 (s.2.2.1:Int))]) (fun s=>⟨X,#[.slice (some ⟨g3,0,none⟩) ws.length cap3,.int .i64 root],272⟩::⟨g3,s.2.1,53⟩::⟨F,#[.int .i64 W.d.kind,.int .i64 W.d.frame,.bool W.d.r,.bool W.d.w,.bool W.d.x,.bool W.d.af,.bool W.d.ng,.int .i64 W.d.soft,.int .i64 W.d.note,.slice q2 W.fs.length cap2],275⟩::⟨E,#[.slice q ws.length cap,.int .i64 root],272⟩::⟨D,#[.slice none 0 0],24⟩::⟨C,#[.int .i64 d.kind,.int .i64 d.frame,.bool d.r,.bool d.w,.bool d.x,.bool d.af,.bool d.ng,.int .i64 d.soft,.int .i64 d.note],95⟩::⟨B,#[.slice q ws.length cap],24⟩::h2) (fun s=>s.1≤lk∧s.2.2.1<ws.length∧s.2.2.2.length=ws.length∧jS pg ((l.take lk).drop s.1) s.2.2.1 (W.lv+s.1) s.2.2.2=jS pg (l.take lk) (W.place pg) W.lv ws∧Own 53 1 (.slice (some ⟨g3,0,none⟩) ws.length cap3) [⟨g3,s.2.1,53⟩] (s.2.2.2.map uV)) (fun s=>lk-s.1) (0,uY,W.place pg,ws) ⟨bF4 _,kF.KF,rfl,rfl,hO3⟩ ?_;rintro⟨i,cu,pl,us⟩ m hm2 ⟨hi,hpl,Fa,fC,hU⟩;dsimp only at hm2 hi hpl Fa fC hU ⊢;refine run ?_;refine ah _ rfl (fun hc3=>?_) (fun hc3=>?_)
   ·have hilt:i<lk:=by simp at hc3;omega
    obtain⟨q5,cap5,e5,hne5,_⟩:=hv.opened;injection e5 with e5
    subst e5;obtain⟨b5,o5,rfl⟩:=hne5 (by intro e;subst e;simp at aI0;omega);have hr:=aj (hv.row (k:=i) bx6);simp only[bH6] at hr;have Y4:bK ws.length (l.getD i default)=true:=Gn hfr bx6;generalize hf:l.getD i default=f at hr Y4;have hfi:=iI Y4;refine run ?_;have bj5:=hr3.le;refine jI by5 (vZ aB rfl rfl rfl by5 bx6 bx6 bx6 bx6 (o':=f.toNat*8) bx6 (m':=8) bx6 (c':=cap3-f.toNat*8) bx6) ?_;have hUz:Own 53 1 (.slice (some ⟨g3,0,none⟩) ws.length cap3) [⟨g3,putAt cu (f.toNat*8) (List.replicate 8 (.int .u64 0)),53⟩] ((kR us f).map uV):=hU.zeros 8 bx6;obtain⟨au5,_,_,_⟩:=hU.Ae (k:=ws.length-1) bx6;refine KG aB (hp':=⟨X,#[.slice (some ⟨g3,0,none⟩) ws.length cap3,.int .i64 root],272⟩::⟨F,#[.int .i64 W.d.kind,.int .i64 W.d.frame,.bool W.d.r,.bool W.d.w,.bool W.d.x,.bool W.d.af,.bool W.d.ng,.int .i64 W.d.soft,.int .i64 W.d.note,.slice q2 W.fs.length cap2],275⟩::⟨E,#[.slice q ws.length cap,.int .i64 root],272⟩::⟨D,#[.slice none 0 0],24⟩::⟨C,#[.int .i64 d.kind,.int .i64 d.frame,.bool d.r,.bool d.w,.bool d.x,.bool d.af,.bool d.ng,.int .i64 d.soft,.int .i64 d.note],95⟩::⟨B,#[.slice q ws.length cap],24⟩::h2) rfl rfl rfl rfl rfl rfl bx7 p1 bx6 ?_;generalize hcz:putAt cu (f.toNat*8) (List.replicate 8 (.int .u64 0))=cz at hUz ⊢;clear hcz;refine run ?_;refine az (fun wc hG=>rC W.d q2 W.fs.length cap2 hpos bx6 wc) ?_;refine run ?_;rw[show ((W.fs.length-1:Nat):Int)+(i:Int)=((W.lv+i:Nat):Int) by unfold qM.lv;omega];have hlv:W.lv=W.fs.length-1:=rfl;have aI5:pl<(kR us f).length:=by rw[jl];omega
    obtain⟨_,_,_,hset⟩:=hUz.Ae aI5;refine je [⟨g3,cz,53⟩] (⟨X,#[.slice (some ⟨g3,0,none⟩) ws.length cap3,.int .i64 root],272⟩::⟨F,#[.int .i64 W.d.kind,.int .i64 W.d.frame,.bool W.d.r,.bool W.d.w,.bool W.d.x,.bool W.d.af,.bool W.d.ng,.int .i64 W.d.soft,.int .i64 W.d.note,.slice q2 W.fs.length cap2],275⟩::⟨E,#[.slice q ws.length cap,.int .i64 root],272⟩::⟨D,#[.slice none 0 0],24⟩::⟨C,#[.int .i64 d.kind,.int .i64 d.frame,.bool d.r,.bool d.w,.bool d.x,.bool d.af,.bool d.ng,.int .i64 d.soft,.int .i64 d.note],95⟩::⟨B,#[.slice q ws.length cap],24⟩::h2) (fun wc hG=>Ol _ hUz root _ (W.lv+i) bx6 aI5 (by rw[jl];omega) (jW f) (yJ bx6 bx6 bx6) hG.iY) ?_ aU;rintro u4 hn4 ⟨rfl,yP⟩;refine gZ yP ?_;simp only[bF2,bF5];refine run ?_;refine az (fun wc hG=>Oj f Y4 bx6 (W.lv+i+1) bx6 pg qA wc) ?_;refine run ?_
    have hcons:(l.take lk).drop i=f::(l.take lk).drop (i+1):=by
     have h1:i<(l.take lk).length:=by rw[bI1];omega
     rw[bS6 h1,bQ9,←hf,bE',bF0 bx6];rfl
    rw[hcons,jS] at fC;have hst:=hset ((jW f).word 2 (W.lv+i));refine aF (i+1,cz.setIfInBounds pl (.int .u64 (((jW f).word 2 (W.lv+i):Nat):Int)),jg f (W.lv+i+1) pg,lH (kR us f) pl (W.lv+i) (jW f)) ⟨hilt,D7 Y4,by dsimp only;rw[kE,jl,Fa],fC,hst⟩ (hm:=by dsimp only;omega) (h2:=by (exact ak))
   ·have hik:i=lk:=by simp at hc3;omega
    subst hik;have hpl2:pl<us.length:=by omega
    obtain⟨au5,_,_,hset⟩:=hU.Ae hpl2;refine run ?_;refine je [⟨g3,cu,53⟩] (⟨X,#[.slice (some ⟨g3,0,none⟩) ws.length cap3,.int .i64 root],272⟩::⟨F,#[.int .i64 W.d.kind,.int .i64 W.d.frame,.bool W.d.r,.bool W.d.w,.bool W.d.x,.bool W.d.af,.bool W.d.ng,.int .i64 W.d.soft,.int .i64 W.d.note,.slice q2 W.fs.length cap2],275⟩::⟨E,#[.slice q ws.length cap,.int .i64 root],272⟩::⟨D,#[.slice none 0 0],24⟩::⟨C,#[.int .i64 d.kind,.int .i64 d.frame,.bool d.r,.bool d.w,.bool d.x,.bool d.af,.bool d.ng,.int .i64 d.soft,.int .i64 d.note],95⟩::⟨B,#[.slice q ws.length cap],24⟩::h2) (fun wc hG=>Ol _ hU root _ 3 bx7 hpl2 bx6 d hdm hG.iY) ?_ aU;rintro u4 hn4 ⟨rfl,yP⟩;refine gZ yP ?_;simp only[bF2,bF5];refine run ?_;obtain⟨p',e7,hc7,aa2⟩:=hv.drop (i:=i) rfl hcap bx6;refine uP 7 6 [0,1,2,3,4] [5,6] [] ?_;refine jV ?_;refine ZU by5 bD6 (fun hx2=>zO aB rfl rfl by5 bx6 bx6) ?_;rw[show sliced ql ((i:Nat):Int).toNat l.length KD 1=_ from e7];refine jV ?_;refine yF (fun wc hG=>qG _ ((l.drop i).map bY) (aa2.good hG) bA5 by6) ?_;intro v5 h5 hO5;obtain⟨q5,cap5,rfl⟩:=hO5.opened;refine jd (b:=D) (tb:=24) (cs:=#[.slice none 0 0]) (cs':=#[.slice (some ⟨g3,0,none⟩) ws.length cap3]) (hp':=h5++(⟨g3,cu.setIfInBounds pl (.int .u64 ((d.word 2 3:Nat):Int)),53⟩::⟨X,#[.slice (some ⟨g3,0,none⟩) ws.length cap3,.int .i64 root],272⟩::⟨F,#[.int .i64 W.d.kind,.int .i64 W.d.frame,.bool W.d.r,.bool W.d.w,.bool W.d.x,.bool W.d.af,.bool W.d.ng,.int .i64 W.d.soft,.int .i64 W.d.note,.slice q2 W.fs.length cap2],275⟩::⟨E,#[.slice q ws.length cap,.int .i64 root],272⟩::⟨C,#[.int .i64 d.kind,.int .i64 d.frame,.bool d.r,.bool d.w,.bool d.x,.bool d.af,.bool d.ng,.int .i64 d.soft,.int .i64 d.note],95⟩::⟨B,#[.slice q ws.length cap],24⟩::h2)) ?_ aU;refine di ?_;refine kN ?_;refine run ?_;rw[bJ3 bA7,jS] at fC;refine ry ⟨_,[⟨g3,cu.setIfInBounds pl (.int .u64 ((d.word 2 3:Nat):Int)),53⟩],_,h5,rfl,?_,hO5,by (exact ak)⟩;rw[←fC];exact hset _
end
structure AcD where
 dd:Int
 mid:Int
 n:Int
 d:DsD
 lp:Option Addr
 ll:Nat
 lc:Nat
instance : Inhabited AcD := ⟨⟨0, 0, 0, dG, none, 0, 0⟩⟩
theorem Own.aT1{g cap:Nat}{cur:Array Value}{xs:List Nat}(hA:Own e 1 (.slice (some ⟨g,0,none⟩) n cap) [⟨g,cur,e⟩] (xs.map uV))(hk:k<xs.length):nth cur.toList k=some (.int .u64 (xs.getD k 0:Int)):=by
 obtain⟨g',cap',cur',e1,e2,hr⟩:=hA.row (n:=xs.length) bx8 bx6;injection e2 with e2
 injection e2 with _ e2
 subst e2;have hall:∀ c∈xs.map uV,c.length=1:=fun c hc=>by obtain⟨x,_,rfl⟩:=bF9.1 hc;rfl
 have hi:(xs.map uV)[k]?=some (uV (xs.getD k 0)):=by
  rw[bH4,bE',bF0 hk];rfl
 have h1:=hr.nth hall hi (k:=0) rfl;rwa [bH6,bI8] at h1
theorem au9{ws:List Nat}:∀ c∈ws.map uV,c.length=1∧c.all (·.oneCell')=true:=by
 intro c hc;obtain⟨x,_,rfl⟩:=bF9.1 hc;exact⟨rfl,rfl⟩
theorem WY(b m:Nat)(hm:m≤65536):Own 53 1 (.slice (some ⟨b,0,none⟩) m m) [⟨b,madeCells (Value.int .u64 0).cells (m*1),53⟩] ((List.replicate m 0).map uV):=by
 rw[show madeCells (Value.int .u64 0).cells (m*1)=((List.replicate m [Value.int .u64 0]).flatten).toArray from o6 [.int .u64 0] m 1 rfl bx7];exact IM b m _ (by rw[List.map_replicate];rfl) rfl au9 bx8 bx8 bC1
section
attribute [local irreducible] Hy St Ops DH dI
theorem IW{ha:Hp}(xs:List Nat)(h64:lT xs)(hA:Own 53 1 v ha (xs.map uV))(hN:eX ha w)(hl:xs.length<100000):Fn Tryz.prog 183 [v].toArray w (ha.map (·.b)) (fun u hn=>u=.tuple #[]):=by
 obtain⟨q,cap,ev⟩:=hA.opened;rw[bE9] at ev;subst ev;refine eP _ hN Tryz.func183 ?_;refine run ?_;refine aK (σ:=Nat×Hp×List Nat) (fun s=>[(2,.int .i64 (s.1:Int))]) (fun s=>s.2.1) (fun s=>s.1≤xs.length∧s.2.2.length=xs.length∧lT s.2.2∧Own 53 1 (.slice q xs.length cap) s.2.1 (s.2.2.map uV)) (fun s=>xs.length-s.1) (0,ha,xs) ⟨bF4 _,rfl,h64,hA⟩ ?_;rintro⟨k,h,ys⟩ m hm ⟨hk,hyl,aa6,hO⟩;dsimp only at hm hk hyl aa6 hO ⊢;refine run ?_;refine ah _ rfl (fun hc=>?_) (fun hc=>?_)
 ·have hlt:k<xs.length:=by simp at hc;omega
  obtain⟨g,cap',cur,eg,rfl,hsz,hset⟩:=hO.au1 (k:=k) bx6;rw[hyl] at eg;cases eg;have hn:=hO.aT1 (k:=k) bx6;refine run ?_;refine jI by5 (au7 rfl rfl (ys.getD k 0) 21845 rfl rfl (aa6.at k) bx7) ?_;refine run ?_;exact aF (k+1,[⟨g,cur.setIfInBounds k (.int .u64 ((ys.getD k 0 ^^^ 21845:Nat):Int)),53⟩],ys.set k (ys.getD k 0 ^^^ 21845)) (hm:=by dsimp only;omega) ⟨hlt,by rw[bL5];exact hyl,aa6.set (Nat.xor_lt_two_pow (n:=64) (aa6.at k) bx7) _,by rw[←hyl];exact hset _⟩ (h2:=by (exact ak))
 ·refine run ?_;intro T;refine qC (c:=uV 5) [⟨T,#[.int .u64 5],53⟩] hO (fun v' ha' hA'=>?_) bx9 (aX (m:=1) mh rfl) aU;refine run ?_;exact fin0 rfl
theorem Own.Qx{sz:Nat}{h:Hp}{xs:List Int}(hA:Own e sz v h (xs.map bY)):∃ p cap,v=.slice p xs.length cap∧xs.length≤cap∧(p=none∨∃ b off,p=some ⟨b,off,none⟩):=by
 rcases hA.2 with⟨h1,rfl,rfl⟩ | ⟨g,cap,cur,rfl,rfl,hrow⟩
 ·have:xs=[]:=by simpa using h1
  subst this;exact⟨_,_,rfl,bG0 _,.inl rfl⟩
 ·have:=hrow.le;rw[bE9] at *;exact⟨_,_,rfl,this,.inr ⟨_,_,rfl⟩⟩
theorem mD{α:Type}{P:α→Prop}{c:Bool}{a b:α}(ha:P a)(hb:P b):P (bif c then a else b):=by cases c<;>assumption
def TOk(n m:Nat)(T:IL):Prop:=lT T.ws∧T.ws.length≤n∧T.left.length≤m
theorem IX(n m:Nat)(e:Int):TOk n m (badM e):=⟨fun x hx=>(by cases hx),bF4 _,bF4 _⟩
theorem Qy{ws:List Nat}(hw:lT ws)(root:Int)(free:List Int)(page:Nat)(d:DsD):TOk ws.length free.length (ru ws root free page d):=by
 unfold ru;refine mD (IX _ _ _) (mD (IX _ _ _) (mD (IX _ _ _) ⟨(lT.jS _ _ _ hw).lH _ _ _,?_,?_⟩))
 ·dsimp only;rw[kE,SK];exact bG0 _
 ·dsimp only;rw[bK8];omega
end
theorem Td{m:Nat}{f:Int}(h:n≤m)(hf:bK n f=true):bK m f=true:=by
 simp only[bK,bE8,decide_eq_true_eq] at hf ⊢;have:=Nat.div_le_div_right (c:=8) h;omega
theorem xA{m:Nat}{fs l:List Int}(h:n≤m)(hf:nR n fs l=true):nR m fs l=true:=by
 refine xy fun i hi=>?_;have:=bF1.1 hf i (bG2.2 hi);simp only[oh,bE8] at this ⊢;exact⟨⟨Td h this.1.1,this.1.2⟩,this.2⟩
def aZ(f soft:Int):DsD:=⟨2,f,true,true,true,true,false,soft,0⟩
def uj:List Int:=[1,2,3,4,5,6,7,8,9,10,11,12,13,14,15]
def Tf(n:Nat):Nat→IL
 | 0=>⟨List.replicate n 0,uj,0⟩
 | k+1=>ru (Tf n k).ws 0 (Tf n k).left k (aZ k 0)
def bD(F k:Nat):Option DsD:=bif decide (k<16) then some (jK 1) else bif decide (F≤k) then some dG else none
def Ti(n F:Nat):Nat→List Nat
 | 0=>(Tf n 64).ws
 | k+1=>match bD F k with
  | some d=>(fB (Ti n F k) 0 k 3 d).ws
  | none=>Ti n F k
def kV(own o9 f:Int):DsD:=
 bif decide (own=0)&&decide (o9= -2) then aZ f 0 else bif decide (own=0) then aZ f 1 else bif decide (o9=0) then aZ f 2
 else bif decide (own= -1) then jK 1 else jK (1+own)
def pU(n:Nat)(dd:Nat→DsD):Nat→IL
 | 0=>⟨List.replicate n 0,uj,0⟩
 | k+1=>⟨(fB (ru (pU n dd k).ws 0 (pU n dd k).left k (aZ k 0)).ws 0 k 3 (dd k)).ws,(ru (pU n dd k).ws 0 (pU n dd k).left k (aZ k 0)).left,0⟩
def uZ(F k:Nat):DsD:=bif decide (k<16) then jK 1 else bif decide (F≤k) then dG else aZ k 0
def dO(n:Nat)(g:Nat→Nat):List Nat:=(List.range n).map g
theorem eG(n:Nat)(g:Nat→Nat):(dO n g).length=n:=by simp[dO]
theorem KH{p:Nat}(g:Nat→Nat)(h:p<n):(dO n g).getD p 0=g p:=by
 simp[dO,bE',bM0 h]
theorem gK{g':Nat→Nat}(h:∀ q,q<n→g q=g' q):dO n g=dO n g':=List.map_congr_left fun q hq=>h q (bG2.1 hq)
theorem nT(g:Nat→Nat)(p w:Nat):(dO n g).set p w=dO n fun q=>bif Nat.beq q p then w else g q:=by
 apply bO9;intro i;rw[bQ'];simp only[dO,bE9,bL0,bH4];by_cases hp:p=i
 ·subst hp;by_cases hl:p<n
  ·simp[hl,bM0 hl]
  ·simp[hl,bL9 (show (List.range n).length≤p by simp;omega)]
 ·have:Nat.beq i p=false:=by
   cases h:Nat.beq i p with
   | false=>rfl
   | true=>exact absurd (bL8 h).symm hp
  rw[if_neg hp];by_cases hl:i<n
  ·simp[bM0 hl,this]
  ·simp[bL9 (show (List.range n).length≤i by simp;omega)]
theorem sW{o:Nat}:∀ k,(∀ q,o≤q→q<o+k→g q=0)→uh (dO n g) o k=dO n g:=by
 intro k
 induction k with
 | zero=>intro _;rfl
 | succ k ih=>
  intro h;rw[uh,ih (fun q h1 h2=>h q h1 bx6),nT];refine gK fun q hq=>?_
  cases hb:Nat.beq q (o+k) with
  | false=>rfl
  | true=>rw[cond_true,bL8 hb,h _ bx6 bx6]
theorem Ai(n:Nat):List.replicate n 0=dO n fun _=>0:=by
 apply bO9;intro i;simp only[dO,bH4,bV6];by_cases hl:i<n
 ·simp[hl,bM0 hl]
 ·simp[hl,bL9 (show (List.range n).length≤i by simp;omega)]
theorem nU{p:Nat}(h:p<n):gJ (dO n g) p level=zD 2 level (g p):=by unfold gJ;rw[KH g h]
instance : DecidableEq DsD := fun a b => decidable_of_iff (a.kind = b.kind ∧ a.frame = b.frame ∧ a.r = b.r ∧ a.w = b.w ∧ a.x = b.x ∧ a.af = b.af ∧ a.ng = b.ng ∧ a.soft = b.soft ∧ a.note = b.note) (by cases a; cases b; simp)
def iJ(f:Nat):Nat:=(jW (f:Int)).word 2 0
theorem Qz(f level:Nat):(jW (f:Int)).word 2 level=iJ f:=rfl
theorem qH{f:Nat}(hf:f<16)(hl:level<3):zD 2 level (iJ f)=jW (f:Int):=by
 have:∀ f,f<16→∀ level,level<3→zD 2 level (iJ f)=jW (f:Int):=by decide +kernel
 exact this f hf level hl
theorem wE(hl:level<4):zD 2 level 0=dG:=by
 have:∀ level,level<4→zD 2 level 0=dG:=by decide +kernel
 exact this level hl
theorem Oo:∀ k,k<64→jg 0 0 k=0:=by decide +kernel
theorem Oq:∀ k,k<64→jg 1 1 k=8:=by decide +kernel
theorem IY:∀ k,k<64→jg 2 2 k=16+k/8:=by decide +kernel
theorem Aj:∀ k,k<64→jg ((3+k/8:Nat):Int) 3 k=24+k:=by decide +kernel
theorem BP{f:Nat}(hn:128≤n)(hf:f<16):bK n (f:Int)=true:=by
 simp[bK];omega
theorem au'(hn:128≤n)(hk:k<64)(h0:g 0=iJ 1)(h1:g 8=iJ 2)(h2:g (16+k/8)=iJ (3+k/8)):aQ (dO n g) 0 k 3=⟨[0,1,2,((3+k/8:Nat):Int)],zD 2 3 (g (24+k)),true⟩:=by
 have p0:=Oo k hk;have p1:=Oq k hk;have p2:=IY k hk;have p3:=Aj k hk;have e0:gJ (dO n g) 0 0=jW 1:=by rw[nU bx6,h0];exact qH bx7 bx7
 have e1:gJ (dO n g) 8 1=jW 2:=by rw[nU bx6,h1];exact qH bx7 bx7
 have e2:gJ (dO n g) (16+k/8) 2=jW ((3+k/8:Nat):Int):=by rw[nU bx6,h2];exact qH bx6 bx7
 have e3:gJ (dO n g) (24+k) 3=zD 2 3 (g (24+k)):=nU bx6;have f0:bK n 0=true:=BP (f:=0) hn bx7;have f1:bK n 1=true:=BP (f:=1) hn bx7;have f2:bK n 2=true:=BP (f:=2) hn bx7;have f3:bK n ((3+k/8:Nat):Int)=true:=BP hn bx6;unfold aQ;rw[bT,eG,f0,cond_true,p0,e0];simp only[jW,decide_true,bH3,bI5,show decide (0=3)=false from rfl,cond_false];rw[bT,eG,f1,cond_true,p1,e1];simp only[jW,decide_true,bH3,bI5,show decide (0+1=3)=false from rfl,cond_false];rw[bT,eG,f2,cond_true,p2,e2];simp only[jW,decide_true,bH3,bI5,show decide (0+1+1=3)=false from rfl,cond_false];rw[bT,eG,f3,cond_true,p3,e3];simp
theorem aT3(hn:128≤n)(hk:k<64)(h0:g 0=iJ 1)(h1:g 8=iJ 2)(h2:g (16+k/8)=0):aQ (dO n g) 0 k 3=⟨[0,1,2],dG,true⟩:=by
 have p0:=Oo k hk;have p1:=Oq k hk;have p2:=IY k hk;have e0:gJ (dO n g) 0 0=jW 1:=by rw[nU bx6,h0];exact qH bx7 bx7
 have e1:gJ (dO n g) 8 1=jW 2:=by rw[nU bx6,h1];exact qH bx7 bx7
 have e2:gJ (dO n g) (16+k/8) 2=dG:=by rw[nU bx6,h2];exact wE bx7
 have f0:bK n 0=true:=BP (f:=0) hn bx7;have f1:bK n 1=true:=BP (f:=1) hn bx7;have f2:bK n 2=true:=BP (f:=2) hn bx7;unfold aQ;rw[bT,eG,f0,cond_true,p0,e0];simp only[jW,decide_true,bH3,bI5,show decide (0=3)=false from rfl,cond_false];rw[bT,eG,f1,cond_true,p1,e1];simp only[jW,decide_true,bH3,bI5,show decide (0+1=3)=false from rfl,cond_false];rw[bT,eG,f2,cond_true,p2,e2];rfl
def iO(dd:Nat→DsD)(k p:Nat):Nat:=
 bif decide (k=0) then 0 else bif decide (p=0) then iJ 1 else bif decide (p=8) then iJ 2
 else bif decide (16≤p∧p<24∧8*(p-16)<k) then iJ (3+(p-16))
 else bif decide (24≤p∧p<24+k) then (dd (p-24)).word 2 3 else 0
def leftB(k:Nat):List Int:=bif decide (k=0) then uj else uj.drop (2+(k+7)/8)
theorem Gx:∀ k,k<64→k≠0→nR 128 (bif decide (k%8=0) then [0,1,2] else [0,1,2,((3+k/8:Nat):Int)]) (leftB k)=true:=by decide +kernel
theorem KI:∀ k,k<64→k≠0→(k%8=0→leftB k=((3+k/8:Nat):Int)::leftB (k+1))∧(k%8≠0→leftB k=leftB (k+1)):=by decide +kernel
theorem WZ{d:DsD}(hn:128≤n)(hk:k<64)(h0:g 0=iJ 1)(h1:g 8=iJ 2)(h2:g (16+k/8)=iJ (3+k/8)):fB (dO n g) 0 k 3 d=⟨dO n fun q=>bif Nat.beq q (24+k) then d.word 2 3 else g q,[],0⟩:=by
 have hw:=au' hn hk h0 h1 h2;have p3:=Aj k hk;unfold fB;rw[hw];simp only[qM.lv,qM.place,bI6,bP2,Nat.reduceAdd,Nat.reduceSub,decide_true,bH3,cond_false,List.getD_cons_succ,List.getD_cons_zero,p3,lH,nT]
theorem aI6{d:DsD}{l:List Int}(hn:128≤n)(hk:k<64)(h0:g 0=iJ 1)(h1:g 8=iJ 2)(h2:g (16+k/8)=iJ (3+k/8))(h3:g (24+k)=0)(hl:nR 128 [0,1,2,((3+k/8:Nat):Int)] l=true):ru (dO n g) 0 l k d=⟨dO n fun q=>bif Nat.beq q (24+k) then d.word 2 3 else g q,l,0⟩:=by
 have hw:=au' hn hk h0 h1 h2;have p3:=Aj k hk;have hl':=xA hn hl;rw[h3,wE bx7] at hw;unfold ru;rw[hw];simp only[eG,hl',bF6,bH3,cond_false,dG,bI6,bP2,Nat.reduceAdd,show decide ((0:Int)=2)=false from rfl,show decide (4<4)=false from rfl,bO7,bR0,show decide (l.length+4<4)=false from by simp,Nat.sub_self,bK1,jS,bJ0,qM.lv,qM.place,Nat.reduceSub,List.getD_cons_succ,List.getD_cons_zero,p3,lH,nT];rfl
theorem aI7{d:DsD}{l:List Int}(hn:128≤n)(hk:k<64)(h8:k%8=0)(h0:g 0=iJ 1)(h1:g 8=iJ 2)(h2:g (16+k/8)=0)(h3:∀ q,24+k≤q→q<32+k→g q=0)(hl:nR 128 [0,1,2] (((3+k/8:Nat):Int)::l)=true):ru (dO n g) 0 (((3+k/8:Nat):Int)::l) k d=⟨dO n fun q=>bif Nat.beq q (24+k) then d.word 2 3 else bif Nat.beq q (16+k/8) then iJ (3+k/8) else g q,l,0⟩:=by
 have hw:=aT3 hn hk h0 h1 h2;have p2:=IY k hk;have p3:=Aj k hk;have hl':=xA hn hl;have hz:kR (dO n g) ((3+k/8:Nat):Int)=dO n g:=sW 8 fun q a b=>h3 q bx6 bx6;unfold ru;rw[hw];simp only[eG,hl',bF6,bH3,cond_false,dG,bI6,bP2,Nat.reduceAdd,show decide ((0:Int)=2)=false from rfl,show decide ((0:Int)=0)=true from rfl,bR7,bR0,show decide (l.length+1+3<4)=false from by simp,Nat.reduceSub,bI7,bK1,jS,bI4,bJ0,qM.lv,qM.place,List.getD_cons_succ,List.getD_cons_zero,p2,p3,hz,lH,nT,Qz];rfl
theorem iK(h:a≠b):Nat.beq a b=false:=by
 cases hb:Nat.beq a b with
 | false=>rfl
 | true=>exact absurd (bL8 hb) h
theorem aI8{d:DsD}(hn:128≤n):ru (dO n fun _=>0) 0 uj 0 d=⟨dO n fun q=>bif Nat.beq q 24 then d.word 2 3 else bif Nat.beq q 16 then iJ 3 else bif Nat.beq q 8 then iJ 2 else bif Nat.beq q 0 then iJ 1 else 0,uj.drop 3,0⟩:=by
 have f0:bK n 0=true:=BP (f:=0) hn bx7;have e0:gJ (dO n fun _=>0) 0 0=dG:=by rw[nU bx6];exact wE bx7
 have hw:aQ (dO n fun _=>0) 0 0 3=⟨[0],dG,true⟩:=by
  unfold aQ;rw[bT,eG,f0,cond_true,Oo 0 bx7,e0];rfl
 have hl:nR n [0] uj=true:=xA hn bD6;unfold ru;rw[hw];simp only[eG,hl,bF6,bH3,cond_false];have hz1:kR (dO n fun _=>0) 1=dO n fun _=>0:=sW 8 fun q a b=>rfl
 have hz2:kR (dO n fun q=>bif Nat.beq q 0 then iJ 1 else 0) 2=dO n fun q=>bif Nat.beq q 0 then iJ 1 else 0:=sW 8 fun q a b=>by
  rw[iK (show q≠0 by simp at a;omega)];rfl
 have hz3:kR (dO n fun q=>bif Nat.beq q 8 then iJ 2 else bif Nat.beq q 0 then iJ 1 else 0) 3=dO n fun q=>bif Nat.beq q 8 then iJ 2 else bif Nat.beq q 0 then iJ 1 else 0:=sW 8 fun q a b=>by
  rw[iK (show q≠8 by simp at a;omega),iK (show q≠0 by simp at a;omega)];rfl
 show (bif decide ((0:Int)=2)||(decide (1<4)&&!decide ((0:Int)=0)) then badM 4 else bif decide (uj.length+1<4) then badM 5 else _)=_;rw[show (decide ((0:Int)=2)||(decide (1<4)&&!decide ((0:Int)=0)))=false from rfl,cond_false,show decide (uj.length+1<4)=false from rfl,cond_false]
 have hk:jS 0 [1,2,3] 0 0 (dO n fun _=>0)=(24,dO n fun q=>bif Nat.beq q 16 then iJ 3 else bif Nat.beq q 8 then iJ 2 else bif Nat.beq q 0 then iJ 1 else 0):=by
  rw[jS,hz1,lH,nT,jS];rw[show (jW 1).word 2 0=iJ 1 from rfl,hz2,lH,nT,jS,show (jW 2).word 2 (0+1)=iJ 2 from rfl,show jg 1 (0+1) 0=8 from rfl,hz3,lH,nT,jS];rfl
 show (⟨lH (jS 0 [1,2,3] 0 0 (dO n fun _=>0)).2 (jS 0 [1,2,3] 0 0 (dO n fun _=>0)).1 3 d,uj.drop 3,0⟩:IL)=_;rw[hk];simp only[lH,nT]
theorem IZ{dd:Nat→DsD}(hk:k≠0):iO dd k 0=iJ 1∧iO dd k 8=iJ 2:=by
 simp[iO,hk]
theorem yQ{dd:Nat→DsD}{j:Nat}(hk:k≠0)(hj:j<8):iO dd k (16+j)=bif decide (8*j<k) then iJ (3+j) else 0:=by
 have e1:decide (16+j=0)=false:=by simp
 have e2:decide (16+j=8)=false:=by simp;omega
 have e3:decide (24≤16+j∧16+j<24+k)=false:=by simp;omega
 have e4:decide (16≤16+j∧16+j<24∧8*j<k)=decide (8*j<k):=by
  rw[bF3,decide_eq_true_eq,decide_eq_true_eq];omega
 simp only[iO,hk,decide_false,cond_false,e1,e2,e3,show 16+j-16=j by omega,e4]
theorem W9{dd:Nat→DsD}{q:Nat}(hq:24+k≤q):iO dd k q=0:=by
 unfold iO
 cases h:decide (k=0) with
 | true=>rfl
 | false=>
  have e1:decide (q=0)=false:=by simp;omega
  have e2:decide (q=8)=false:=by simp;omega
  have e3:decide (16≤q∧q<24∧8*(q-16)<k)=false:=by simp;omega
  have e4:decide (24≤q∧q<24+k)=false:=by simp;omega
  simp only[e1,e2,e3,e4,cond_false]
theorem KJ{dd:Nat→DsD}(hk':k<64)(h0:k≠0)(q:Nat):(bif Nat.beq q (24+k) then (dd k).word 2 3 else bif (decide (k%8=0)&&Nat.beq q (16+k/8)) then iJ (3+k/8) else iO dd k q)=iO dd (k+1) q:=by
 have e0:decide (k+1=0)=false:=by simp
 have e0':decide (k=0)=false:=by simp[h0]
 by_cases q24:q=24+k
 ·subst q24;have b:Nat.beq (24+k) (24+k)=true:=bW9 _;rw[b,cond_true];have e1:decide (24+k=0)=false:=by simp
  have e2:decide (24+k=8)=false:=by simp;omega
  have e3:decide (16≤24+k∧24+k<24∧8*(24+k-16)<k+1)=false:=by simp;omega
  have e4:decide (24≤24+k∧24+k<24+(k+1))=true:=by simp
  simp only[iO,e0,e1,e2,e3,e4,cond_false,cond_true,show 24+k-24=k by omega]
 rw[iK q24,cond_false]
 have e4:decide (24≤q∧q<24+(k+1))=decide (24≤q∧q<24+k):=by
  rw[bF3,decide_eq_true_eq,decide_eq_true_eq];omega
 by_cases hm:k%8=0∧q=16+k/8
 ·obtain⟨hm,rfl⟩:=hm;rw[yQ (k:=k+1) bx6 bx6];simp only[hm,decide_true,bF6,bW9,cond_true,show decide (8*(k/8)<k+1)=true by simp;omega]
 ·have b:(decide (k%8=0)&&Nat.beq q (16+k/8))=false:=by
   cases h1:decide (k%8=0) with
   | false=>rfl
   | true=>
    rw[bF6,iK];intro e;exact hm ⟨by simpa using h1,e⟩
  rw[b,cond_false]
  have e3:decide (16≤q∧q<24∧8*(q-16)<k+1)=decide (16≤q∧q<24∧8*(q-16)<k):=by
   rw[bF3,decide_eq_true_eq,decide_eq_true_eq];omega
  simp only[iO,e0,e0',e3,e4,cond_false]
theorem nV(hn:128≤n)(dd:Nat→DsD):∀ k,k≤64→pU n dd k=⟨dO n (iO dd k),leftB k,0⟩:=by
 intro k
 induction k with
 | zero=>intro _;rw[pU,Ai];rfl
 | succ k ih=>
  intro hk;have hk':k<64:=by omega
  rw[pU,ih bx6];dsimp only;by_cases h0:k=0
  ·subst h0;rw[show dO n (iO dd 0)=dO n fun _=>0 from rfl,show leftB 0=uj from rfl,aI8 hn];dsimp only;rw[WZ hn bx7 rfl rfl rfl];dsimp only;rw[IL.mk.injEq];refine⟨gK fun q hq=>?_,rfl,rfl⟩;by_cases q0:q=0
   ·subst q0;rfl
   by_cases q8:q=8
   ·subst q8;rfl
   by_cases q16:q=16
   ·subst q16;rfl
   by_cases q24:q=24
   ·subst q24;rfl
   rw[iK q24,iK q16,iK q8,iK q0];have e3:decide (16≤q∧q<24∧8*(q-16)<0+1)=false:=by simp;omega
   have e4:decide (24≤q∧q<24+(0+1))=false:=by simp;omega
   simp only[iO,q0,q8,e3,e4,decide_false,cond_false];rfl
  ·obtain⟨g0,g8⟩:=IZ (dd:=dd) h0;have gm:=yQ (dd:=dd) h0 (show k/8<8 by omega);have gh:=fun q=>W9 (dd:=dd) (k:=k) (q:=q);have hfr:=Gx k hk' h0;obtain⟨l8,lo⟩:=KI k hk' h0;have hstep:∀ q,q<n→(bif Nat.beq q (24+k) then (dd k).word 2 3 else bif (decide (k%8=0)&&Nat.beq q (16+k/8)) then iJ (3+k/8) else iO dd k q)=iO dd (k+1) q:=fun q _=>KJ hk' h0 q;by_cases h8:k%8=0
   ·rw[l8 h8];have gz:iO dd k (16+k/8)=0:=by rw[gm,show decide (8*(k/8)<k)=false by simp;omega];rfl
    rw[l8 h8] at hfr;simp only[h8,decide_true,cond_true] at hfr;rw[aI7 hn hk' h8 g0 g8 gz (fun q a b=>gh q bx6) hfr];dsimp only;rw[WZ hn hk' (by rw[iK bx6,iK bx6];exact g0) (by rw[iK bx6,iK bx6];exact g8) (by rw[iK bx6,bW9];rfl)];dsimp only;rw[IL.mk.injEq];refine⟨gK fun q hq=>?_,rfl,rfl⟩;rw[←hstep q hq];simp only[h8,decide_true,bF6];cases Nat.beq q (24+k)<;>rfl
   ·rw[lo h8];have gz:iO dd k (16+k/8)=iJ (3+k/8):=by rw[gm,show decide (8*(k/8)<k)=true by simp;omega];rfl
    rw[lo h8] at hfr;simp only[h8,decide_false,cond_false] at hfr;rw[aI6 hn hk' g0 g8 gz (gh _ (bG0 _)) hfr];dsimp only;rw[WZ hn hk' (by rw[iK bx6];exact g0) (by rw[iK bx6];exact g8) (by rw[iK bx6];exact gz)];dsimp only;rw[IL.mk.injEq];refine⟨gK fun q hq=>?_,rfl,rfl⟩;rw[←hstep q hq];simp only[h8,decide_false,bO7,cond_false];cases Nat.beq q (24+k)<;>rfl
theorem Xa(hn:128≤n):∀ k,k≤64→Tf n k=⟨dO n (iO (fun k=>aZ k 0) k),leftB k,0⟩:=by
 intro k
 induction k with
 | zero=>intro _;rw[Tf,Ai];rfl
 | succ k ih=>
  intro hk;have hk':k<64:=by omega
  rw[Tf,ih bx6];dsimp only;by_cases h0:k=0
  ·subst h0;rw[show dO n (iO (fun k=>aZ k 0) 0)=dO n fun _=>0 from rfl,show leftB 0=uj from rfl,aI8 hn];rw[IL.mk.injEq];refine⟨gK fun q hq=>?_,rfl,rfl⟩;by_cases q0:q=0
   ·subst q0;rfl
   by_cases q8:q=8
   ·subst q8;rfl
   by_cases q16:q=16
   ·subst q16;rfl
   by_cases q24:q=24
   ·subst q24;rfl
   rw[iK q24,iK q16,iK q8,iK q0];have e3:decide (16≤q∧q<24∧8*(q-16)<0+1)=false:=by simp;omega
   have e4:decide (24≤q∧q<24+(0+1))=false:=by simp;omega
   simp only[iO,q0,q8,e3,e4,decide_false,cond_false];rfl
  ·obtain⟨g0,g8⟩:=IZ (dd:=fun k=>aZ k 0) h0;have gm:=yQ (dd:=fun k=>aZ k 0) h0 (show k/8<8 by omega);have gh:=fun q=>W9 (dd:=fun k=>aZ k 0) (k:=k) (q:=q);have hfr:=Gx k hk' h0;obtain⟨l8,lo⟩:=KI k hk' h0;have hstep:=fun q=>KJ (dd:=fun k=>aZ k 0) hk' h0 q;by_cases h8:k%8=0
   ·rw[l8 h8];have gz:iO (fun k=>aZ k 0) k (16+k/8)=0:=by rw[gm,show decide (8*(k/8)<k)=false by simp;omega];rfl
    rw[l8 h8] at hfr;simp only[h8,decide_true,cond_true] at hfr;rw[aI7 hn hk' h8 g0 g8 gz (fun q a b=>gh q bx6) hfr];rw[IL.mk.injEq];refine⟨gK fun q hq=>?_,rfl,rfl⟩;rw[←hstep q];simp only[h8,decide_true,bF6]
   ·rw[lo h8];have gz:iO (fun k=>aZ k 0) k (16+k/8)=iJ (3+k/8):=by rw[gm,show decide (8*(k/8)<k)=true by simp;omega];rfl
    rw[lo h8] at hfr;simp only[h8,decide_false,cond_false] at hfr;rw[aI6 hn hk' g0 g8 gz (gh _ (bG0 _)) hfr];rw[IL.mk.injEq];refine⟨gK fun q hq=>?_,rfl,rfl⟩;rw[←hstep q];simp only[h8,decide_false,bO7,cond_false]
theorem Xc{dd:Nat→DsD}{j:Nat}(hj:j<k):iO dd k (24+j)=(dd j).word 2 3:=by
 have e0:decide (k=0)=false:=by simp;omega
 have e1:decide (24+j=0)=false:=by simp
 have e2:decide (24+j=8)=false:=by simp;omega
 have e3:decide (16≤24+j∧24+j<24∧8*(24+j-16)<k)=false:=by simp;omega
 have e4:decide (24≤24+j∧24+j<24+k)=true:=by simp;omega
 simp only[iO,e0,e1,e2,e3,e4,cond_false,cond_true,show 24+j-24=j by omega]
def rD(F k q:Nat):Nat:=bif decide (24≤q∧q<24+k) then (uZ F (q-24)).word 2 3 else iO (fun k=>aZ k 0) 64 q
theorem KL(hn:128≤n)(F:Nat):∀ k,k≤64→Ti n F k=dO n (rD F k):=by
 intro k
 induction k with
 | zero=>
  intro _;rw[Ti,Xa hn 64 (bG0 _)];refine gK fun q hq=>?_;have e4:decide (24≤q∧q<24+0)=false:=by simp
  rw[rD,e4,cond_false]
 | succ k ih=>
  intro hk;have hk':k<64:=by omega
  have hlow:∀ q,q<24→rD F k q=iO (fun k=>aZ k 0) 64 q:=fun q hq=>by
   have e4:decide (24≤q∧q<24+k)=false:=by simp;omega
   rw[rD,e4,cond_false]
  have hnext:∀ q,(bif Nat.beq q (24+k) then (uZ F k).word 2 3 else rD F k q)=rD F (k+1) q:=by
   intro q;by_cases hq:q=24+k
   ·subst hq;have e4:decide (24≤24+k∧24+k<24+(k+1))=true:=by simp
    rw[bW9,cond_true,rD,e4,cond_true,show 24+k-24=k by omega]
   ·have e4:decide (24≤q∧q<24+(k+1))=decide (24≤q∧q<24+k):=by
     rw[bF3,decide_eq_true_eq,decide_eq_true_eq];omega
    rw[iK hq,cond_false,rD,rD,e4]
  have g0:rD F k 0=iJ 1:=by rw[hlow 0 bx7];rfl
  have g8:rD F k 8=iJ 2:=by rw[hlow 8 bx7];rfl
  have gm:rD F k (16+k/8)=iJ (3+k/8):=by rw[hlow _ bx6,yQ bx7 bx6,show decide (8*(k/8)<64)=true by simp;omega];rfl
  rw[Ti,ih bx6]
  cases h1:decide (k<16) with
  | true=>
   have hd:uZ F k=jK 1:=by simp only[uZ,h1,cond_true]
   have hb:bD F k=some (jK 1):=by simp only[bD,h1,cond_true]
   rw[hb];dsimp only;rw[WZ hn hk' g0 g8 gm,←hd]
   exact gK fun q _=>hnext q
  | false=>
   cases h2:decide (F≤k) with
   | true=>
    have hd:uZ F k=dG:=by simp only[uZ,h1,h2,cond_true,cond_false]
    have hb:bD F k=some dG:=by simp only[bD,h1,h2,cond_true,cond_false]
    rw[hb];dsimp only;rw[WZ hn hk' g0 g8 gm,←hd]
    exact gK fun q _=>hnext q
   | false=>
    have hd:uZ F k=aZ k 0:=by simp only[uZ,h1,h2,cond_false]
    have hb:bD F k=none:=by simp only[bD,h1,h2,cond_false]
    rw[hb];dsimp only;refine gK fun q _=>?_;rw[←hnext q];by_cases hq:q=24+k
    ·subst hq;have e4:decide (24≤24+k∧24+k<24+k)=false:=by simp
     rw[bW9,cond_true,hd,rD,e4,cond_false,Xc hk']
    ·rw[iK hq,cond_false]
theorem Ot(hn:128≤n)(F:Nat):Ti n F 64=(pU n (uZ F) 64).ws:=by
 rw[KL hn F 64 (bG0 _),nV hn _ 64 (bG0 _)];refine gK fun q _=>?_;rw[rD];by_cases hq:24≤q∧q<24+64
 ·obtain⟨j,rfl⟩:∃ j,q=24+j:=⟨q-24,by omega⟩
  have e4:decide (24≤24+j∧24+j<24+64)=true:=by simp;omega
  rw[e4,cond_true,Xc bx6,show 24+j-24=j by omega]
 ·have e4:decide (24≤q∧q<24+64)=false:=by simp;omega
  rw[e4,cond_false];simp only[iO,e4,show decide ((64:Nat)=0)=false from rfl,cond_false]
theorem lT.dO(h:∀ q,g q<18446744073709551616):lT (dO n g):=by
 intro x hx;obtain⟨q,_,rfl⟩:=bF9.1 hx;exact h q
theorem QA(dd:Nat→DsD)(k q:Nat):iO dd k q<18446744073709551616:=by
 unfold iO;refine mD (P:=(·<18446744073709551616)) bx7 (mD (P:=(·<18446744073709551616)) (DsD.word_lt _ _ _) (mD (P:=(·<18446744073709551616)) (DsD.word_lt _ _ _) (mD (P:=(·<18446744073709551616)) (DsD.word_lt _ _ _) (mD (P:=(·<18446744073709551616)) (DsD.word_lt _ _ _) bx7))))
theorem QB(F k q:Nat):rD F k q<18446744073709551616:=by
 unfold rD;exact mD (P:=(·<18446744073709551616)) (DsD.word_lt _ _ _) (QA _ _ _)
section
attribute [local irreducible] Hy St Ops DH dI
theorem gB(n a b:Int)(w:World):Fn Tryz.prog 65 [.int .i64 n,.int .i64 a,.int .i64 b].toArray w [] (fun u _=>u=.bool (PtD.dm n a b)):=by
 refine enter Tryz.func65 ?_;refine aC ?_;exact fin1 rfl
theorem Ou(w:World):Fn Tryz.prog 241 [].toArray w [] (fun u _=>u=.agg #[.int .i64 (-1),.int .i64 (-2)]):=by
 refine enter (args:=[]) Tryz.func241 ?_;refine aC ?_;intro B;exact dQ rfl
structure dN(w:World)(pv gv ov:Value)(P:PtD):Prop where
 pages:aA w pv 2 (P.pages.map sQ)
 ay:∃ vv mv:Nat→Value,aA w gv 5 ((List.range P.ay.length).map fun i=>[.bool (P.gs i).live,.bool (P.gs i).dying,.int .i64 (P.gs i).first,vv i,mv i])∧∀ i,i<P.ay.length→aA w (vv i) 1 ((P.gs i).aN.map bY)∧aA w (mv i) 2 ((P.gs i).maps.map dY)
 on:aA w ov 2 (P.on.map Jz)
 wf:P.Wf
theorem dN.good{w':World}{hp:Hp}{pv gv ov:Value}{P:PtD}(h:dN w pv gv ov P)(hG:Good w [] hp w'):dN w' pv gv ov P:=by
 obtain⟨h1,⟨vv,mv,h2,h3⟩,h4,h5⟩:=h;exact⟨h1.good hG,⟨vv,mv,h2.good hG,fun i hi=>⟨(h3 i hi).1.good hG,(h3 i hi).2.good hG⟩⟩,h4.good hG,h5⟩
theorem dN.open{pv gv ov:Value}{P:PtD}(h:dN w pv gv ov P)(hn:P.Len):∃ L:JA,pv=L.pv P.pages.length∧gv=L.gv P.ay.length∧ov=L.ov P.on.length∧ji w L P:=by
 obtain⟨⟨⟨p,pc,e1,hp⟩,_⟩,⟨vv,mv,⟨⟨g,gc,e2,hg⟩,_⟩,h3⟩,⟨⟨o,oc,e4,ho⟩,_⟩,h5⟩:=h;obtain⟨a,b,c,d,e⟩:=hn;obtain⟨pb,po,rfl,hp2⟩:=hp (by intro h;rw[bP0] at h;rw[h] at a;simp at a);obtain⟨gb,go,rfl,hg2⟩:=hg (by intro h;rw[bP0,List.range_eq_nil] at h;omega);obtain⟨ob,oo,rfl,ho2⟩:=ho (by intro h;rw[bP0] at h;rw[h] at d;simp at d);simp only[bE9,bL0] at e1 e2 e4;refine⟨⟨pb,po,pc,gb,go,gc,ob,oo,oc,vv,mv⟩,e1,e2,e4,⟨fun i hi=>?_,fun i hi=>?_,fun i hi=>(h3 i hi).1,fun i hi=>(h3 i hi).2,fun i hi=>?_,h5⟩⟩
 ·refine hp2 i _ ?_;rw[bH4,PtD.pg,bE',bF0 hi];rfl
 ·exact hg2 i _ (iG _ hi)
 ·refine ho2 i _ ?_;rw[bH4,PtD.st,bE',bF0 hi];rfl
def iq(frames aT4:Nat):PtD:=⟨(List.range frames).map fun f=>⟨bif decide (f<16) then -1 else 0,-2⟩,List.replicate 4 ⟨false,false,0,[],[]⟩,List.replicate aT4 ⟨0,0⟩⟩
theorem aI9{F C:Nat}{pv:Value}{ha:Hp}{Bg Bo tg tq:Nat}(hA:Acc 51 2 pv ha ((iq F C).pages.map sQ))(hF:F≤64)(hC:C≤3)(h:Here (⟨Bg,((List.replicate 4 [Value.bool false,.bool false,.int .i64 0,.slice none 0 0,.slice none 0 0]).flatten).toArray,tg⟩::⟨Bo,((List.replicate C [Value.int .i64 0,.int .i64 0]).flatten).toArray,tq⟩::ha) w):
  dN w pv (.slice (some ⟨Bg,0,none⟩) 4 4) (.slice (some ⟨Bo,0,none⟩) C C) (iq F C):=by
 have hnil:∀ sz,aA w (.slice none 0 0) sz []:=fun sz=>⟨⟨none,0,rfl,fun h=>absurd rfl h⟩,by simp⟩
 have hg:∀ i,(iq F C).gs i=⟨false,false,0,[],[]⟩:=fun i=>by
  simp only[iq,PtD.gs,bE',bV6];split<;>rfl
 refine⟨hA.lie (h.sub fun e he=>bF8 _ (bF8 _ he)) (by simp[iq];omega),⟨fun _=>.slice none 0 0,fun _=>.slice none 0 0,?_,fun i _=>by rw[hg i];exact⟨hnil 1,hnil 2⟩⟩,?_,?_⟩
 ·have:=iH (w:=w) (b:=Bg) (t:=tg) (cap:=4) (sz:=5) (xs:=List.replicate 4 [Value.bool false,.bool false,.int .i64 0,.slice none 0 0,.slice none 0 0]) (h _ (bF' ..)) bA2 bx8;have e:((List.range (iq F C).ay.length).map fun i=>[Value.bool ((iq F C).gs i).live,.bool ((iq F C).gs i).dying,.int .i64 ((iq F C).gs i).first,.slice none 0 0,.slice none 0 0])=List.replicate 4 [Value.bool false,.bool false,.int .i64 0,.slice none 0 0,.slice none 0 0]:=by simp only[hg];rfl
  rw[e];simpa using this
 ·have:=iH (w:=w) (b:=Bo) (t:=tq) (cap:=C) (sz:=2) (xs:=List.replicate C [Value.int .i64 0,.int .i64 0]) (h _ (bF8 _ (bF' ..))) bA2 by6;simpa [iq,Jz] using this
 ·refine⟨fun f hf=>?_,fun i _=>by rw[hg i];exact⟨⟨by decide,by decide⟩,by simp,by simp⟩,fun c hc=>?_⟩
  ·simp only[iq,bE9,bL0] at hf;simp only[iq,PtD.pg,bE',bH4,bM0 hf,bJ1,bM1];refine⟨?_,by decide,by decide⟩;cases decide (f<16)<;>exact⟨by decide,by decide⟩
  ·simp only[iq,bW3] at hc;simp only[iq,PtD.st,bE',bV6,hc,if_true,bM1];exact⟨⟨by decide,by decide⟩,by decide,by decide⟩
theorem aa7(F C:Nat)(hF:F≤64)(hF1:1≤F)(hC:C≤3)(w:World):Fn Tryz.prog 94 [.int .i64 (F:Int),.int .i64 (C:Int)].toArray w [] (fun u hn=>∃ pv gv ov,u=.agg #[pv,gv,ov]∧∀ w,Here hn w→dN w pv gv ov (iq F C)):=by
 refine enter Tryz.func94 ?_;refine run ?_;intro Rb;refine drawM 5 [1] [0,2,4] [3] ?_;refine gI ?_;refine JY (m:=4) (sz:=5) (z:=.agg #[.bool false,.bool false,.int .i64 0,.slice none 0 0,.slice none 0 0]) ?_ bx6 (hcs:=by exact o6 [.bool false,.bool false,.int .i64 0,.slice none 0 0,.slice none 0 0] 4 5 rfl bx6);refine JY (m:=C) (sz:=2) (z:=.agg #[.int .i64 0,.int .i64 0]) ?_ bx6 (hcs:=by exact o6 [.int .i64 0,.int .i64 0] C 2 rfl bx6);refine sN ?_;refine kL ?_;rintro _ _ ⟨Bp,rfl,rfl⟩ _ _ ⟨Bo,rfl,rfl⟩ _ _ ⟨Bg,rfl,rfl⟩;refine uF ?_;refine jJ ?_;refine qZ ?_;simp only[bF2,bF5];obtain⟨GC,hGC⟩:∃ G:Array Value,G=((List.replicate 4 [Value.bool false,.bool false,.int .i64 0,.slice none 0 0,.slice none 0 0]).flatten).toArray:=⟨_,rfl⟩
 obtain⟨OC,hOC⟩:∃ G:Array Value,G=((List.replicate C [Value.int .i64 0,.int .i64 0]).flatten).toArray:=⟨_,rfl⟩
 rw[←hGC,←hOC];refine run ?_;refine aK (σ:=Nat×Value×Hp) (fun s=>[(6,.int .i64 (s.1:Int))]) (fun s=>⟨Bp,#[s.2.1,.slice (some ⟨Bg,0,none⟩) 4 4,.slice (some ⟨Bo,0,none⟩) C C],48⟩::⟨Rb,#[.slice none 0 0,.slice none 0 0,.slice none 0 0],48⟩::⟨Bg,GC,100⟩::⟨Bo,OC,104⟩::s.2.2) (fun s=>s.1≤F∧Acc 51 2 s.2.1 s.2.2 ((iq s.1 C).pages.map sQ)) (fun s=>F-s.1) (0,_,[]) ⟨by omega,Acc.nil _ _⟩ ?_;rintro⟨k,pv,ha⟩ m hm ⟨hk,hA⟩;dsimp only at hm hk hA ⊢;have hpl:(iq k C).pages.length=k:=by simp[iq]
 refine run ?_;refine ah _ rfl (fun hc=>?_) (fun hc=>?_)
 ·have hlt:k<F:=by simp at hc;omega
  have hstep:∀ (x:oZ) (v':Value) (ha':Hp),x=⟨bif decide (k<16) then -1 else 0,-2⟩→Acc 51 2 v' ha' ((iq k C).pages.map sQ++[sQ x])→Acc 51 2 v' ha' ((iq (k+1) C).pages.map sQ):=by
   rintro x v' ha' rfl h;simpa [iq,bL4] using h
  refine run ?_;intro X;refine ah _ rfl (fun hc2=>?_) (fun hc2=>?_)
  ·have hc2':decide (k<16)=true:=by simp at hc2 ⊢;omega
   refine run ?_;intro T;refine Ql (c:=sQ ⟨-1,-2⟩) [_,_,_,_,_,_] hA (fun v' ha' hA'=>?_) (by simp[hpl];omega) (aX (m:=2) mh rfl);obtain⟨g,gc,cur,rfl,hha,_⟩:=hA'.open bx8;simp only[bF2,bF5];refine run ?_;refine aF (k+1,_,ha') ⟨by omega,hstep _ _ _ (by rw[hc2'];rfl) hA'⟩
  ·have hc2':decide (k<16)=false:=by simp at hc2 ⊢;omega
   refine run ?_;intro T;refine Ql (c:=sQ ⟨0,-2⟩) [_,_,_,_,_,_] hA (fun v' ha' hA'=>?_) (by simp[hpl];omega) (aX (m:=2) mh rfl);obtain⟨g,gc,cur,rfl,hha,_⟩:=hA'.open bx8;simp only[bF2,bF5];refine run ?_;refine aF (k+1,_,ha') ⟨by omega,hstep _ _ _ (by rw[hc2'];rfl) hA'⟩
 have hge:k=F:=by simp at hc;omega
 subst hge;subst hGC hOC
 obtain⟨q,qc,hq,_⟩:∃ q qc,pv=.slice q (iq k C).pages.length qc∧True:=by
  rcases hA.2 with⟨h,_⟩ | ⟨_,g,cap,cur,rfl,_,_⟩
  ·rw[bP0] at h;rw[h] at hpl;simp at hpl;omega
  ·exact⟨_,cap,by rw[bE9],trivial⟩
 subst hq;refine run ?_;refine dQ ?_;refine⟨_,_,_,rfl,fun w' hw'=>aI9 (tg:=100) (tq:=104) hA bx6 bx6 (hw'.sub ?_)⟩;intro e he;simp only[bG7] at he ⊢;rcases he with rfl | rfl | he
 ·simp
 ·simp
 ·simp[he]
end
theorem oO{w0:World}{mu:List Nat}{hp:Hp}{iv:Fm}{d:Nat}{ds:List (Nat×Nat)}{D:List Nat}{Y:Fm→Prop}{ty:TypeId}{pos:String}{af:Array Edge}(h:gX Tryz.prog n w0 mu all ds l hp Y D ((i,v)::iv))(ho:all[i]?=some ⟨some d,.assign x,ty,pos,af,none⟩:=by rfl)(hx:ev (aT ds iv af.toList++l) x=some v:=by rfl):gX Tryz.prog n w0 mu all ds l hp Y (i::D) iv:=Dv ho (VO hx) h
theorem I4(xs:List (List Value))(hx:∀ c∈xs,c.length=1∧c.all (·.oneCell')=true)(hl:xs.length<65536):∃ v h,Own e 1 v h xs:=by
 by_cases h0:xs=[]
 ·subst h0;exact⟨_,_,Own.nil e 1⟩
 ·have hfl:∀ ys:List (List Value),(∀ c∈ys,c.length=1∧c.all (·.oneCell')=true)→ys.flatten.length=ys.length:=by
   intro ys
   induction ys with
   | nil=>intro _;rfl
   | cons y r ih=>intro h;rw[bQ8,bG9,ih (fun c hc=>h c (bF8 _ hc)),(h y (bF' ..)).1,bI6];omega
  refine⟨.slice (some ⟨0,0,none⟩) xs.length xs.length,[⟨0,xs.flatten.toArray,e⟩],hx,.inr ⟨0,xs.length,_,rfl,rfl,⟨by rw[hfl xs hx];omega,bG0 _,by unfold maxLen;omega,by simp only[bS4];rw[hfl xs hx];omega,?_⟩⟩⟩;rw[bP9 (by simp only;rw[hfl xs hx];omega)]
theorem aa8(r:IL)(h1:r.ws.length<65536)(h2:r.left.length<65536):∃ u hn,SS r u hn:=by
 obtain⟨v,h,hO⟩:=I4 (e:=53) (r.ws.map uV) (fun c hc=>by obtain⟨x,_,rfl⟩:=bF9.1 hc;exact⟨rfl,rfl⟩) (by simpa using h1);obtain⟨v2,h3,hO2⟩:=I4 (e:=3) (r.left.map bY) (fun c hc=>by obtain⟨x,_,rfl⟩:=bF9.1 hc;exact⟨rfl,rfl⟩) (by simpa using h2);exact⟨_,_,v,h,v2,h3,rfl,hO,hO2,aJ.refl _⟩
section
attribute [local irreducible] Hy St Ops DH dI
structure fE where
 kind:Int
 aO:Int
 qO:Int
 all:Bool
 page:Int
 level:Int
 frame:Int
 mid:Int
 r:Bool
 w:Bool
 x:Bool
 af:Bool
 ng:Bool
 soft:Int
deriving DecidableEq
instance : Inhabited fE := ⟨⟨0, 0, 0, false, 0, 0, 0, 0, false, false, false, false, false, 0⟩⟩
abbrev iw(e:fE):List Value:=[.int .i64 e.kind,.int .i64 e.aO,.int .i64 e.qO,.bool e.all,.int .i64 e.page,.int .i64 e.level,.int .i64 e.frame,.int .i64 e.mid,.bool e.r,.bool e.w,.bool e.x,.bool e.af,.bool e.ng,.int .i64 e.soft]
structure jv where
 kind:Int
 aO:Int
 qO:Int
 page:Int
deriving DecidableEq
instance : Inhabited jv := ⟨⟨0, 0, 0, 0⟩⟩
abbrev kZ(i:jv):List Value:=[.int .i64 i.kind,.int .i64 i.aO,.int .i64 i.qO,.int .i64 i.page]
def fE.nums(e:fE):Bool:=PtD.dm e.aO 0 15&&PtD.dm e.qO 0 15&&PtD.dm e.page 0 4095&&PtD.dm e.frame 0 4095&&PtD.dm e.mid 0 4095&&decide (e.soft=0)
def fE.bare(e:fE):Bool:=!e.r&&!e.w&&!e.x&&!e.af&&!e.ng&&decide (e.soft=0)
def xB(level page:Nat):Nat:=page-page%au level
def fE.may(e:fE):Bool:=e.nums &&
 bif decide (e.kind=1) then decide (e.level=0)
 else bif decide (e.kind=2) then decide (e.qO=0)&&e.all&&decide (e.level=0)&&decide (e.mid=0)&&!e.ng
 else bif decide (e.kind=3) then PtD.dm e.level 1 3&&decide (xB (e.level.toNat-1) e.page.toNat=e.page.toNat)&&decide (e.mid=0)&&e.bare
 else false
def jv.may(i:jv):Bool:=PtD.dm i.kind 1 6&&PtD.dm i.aO 0 15&&PtD.dm i.qO 0 15&&PtD.dm i.page 0 4095
theorem QC(p:Int)(w:World):Fn Tryz.prog 112 [.int .i64 p].toArray w [] (fun u _=>u=.bool (PtD.dm p 0 15)):=by
 refine enter Tryz.func112 ?_;refine run ?_;refine az (fun wc hG=>Gq p 15 wc) ?_;refine run ?_;exact fin1 rfl
theorem aI'(level:Nat)(h:level<4)(page:Nat)(hp:page≤4095)(w:World):Fn Tryz.prog 191 [.int .i64 (level:Int),.int .i64 (page:Int)].toArray w [] (fun u _=>u=.int .i64 (xB level page:Int)):=by
 have h9:=fH h;refine enter Tryz.func191 ?_;refine run ?_;refine az (fun wc hG=>o7 level h wc) ?_;refine jI by5 (uI rfl rfl page (au level) by5 by5 bx6) ?_;refine run ?_;refine fin1 ?_;have hmod:=Nat.mod_le page (au level);rw[show ((page:Int)-((page%au level:Nat):Int))=((xB level page:Nat):Int) by unfold xB;omega,wrap_in bx6 (by unfold xB;omega)]
theorem aa9(level:Nat)(h0:1≤level)(h:level<4)(page:Nat)(hp:page≤4095)(w:World):Fn Tryz.prog 114 [.int .i64 (level:Int),.int .i64 (page:Int)].toArray w [] (fun u _=>u=.int .i64 (xB (level-1) page:Int)):=by
 refine enter Tryz.func114 ?_;refine run ?_;rw[show (level:Int)-1=((level-1:Nat):Int) by omega];refine az (fun wc hG=>aI' (level-1) bx6 page hp wc) ?_;refine run ?_;exact fin1 rfl
theorem aa'(e:fE)(w:World):Fn Tryz.prog 54 [.agg (iw e).toArray].toArray w [] (fun u _=>u=.bool e.may):=by
 refine enter Tryz.func54 ?_;refine run ?_;intro B;refine aC ?_;refine az (fun wc hG=>QC e.aO wc) ?_;refine aC ?_;refine bH (fun _ wc hG=>QC e.qO wc) ?_;refine aC ?_;refine bH (fun _ wc hG=>wC e.page wc) ?_;refine aC ?_;refine bH (fun _ wc hG=>wC e.frame wc) ?_;refine aC ?_;refine bH (fun _ wc hG=>wC e.mid wc) ?_;refine aC ?_
 have hnn:(!PtD.dm e.aO 0 15||!PtD.dm e.qO 0 15||!PtD.dm e.page 0 4095||!PtD.dm e.frame 0 4095||!PtD.dm e.mid 0 4095||!decide (e.soft=0))=!e.nums:=by
  unfold fE.nums;simp only[bT5]
 refine ah _ rfl (fun hn=>?_) (fun hn=>?_)
 ·refine run ?_;refine fin1 ?_;rw[hnn] at hn;have hn':e.nums=false:=by simpa using hn
  simp[fE.may,hn']
 ·rw[hnn] at hn;have hn':e.nums=true:=by simpa using hn
  clear hnn;have hb:=hn';simp only[fE.nums,bE8,decide_eq_true_eq] at hb;have hpz:=nG hb.1.1.1.2;refine run ?_;refine ah _ rfl (fun hk=>?_) (fun hk=>?_)
  ·refine run ?_;refine fin1 ?_;simp[fE.may,hn',hk]
  refine run ?_;refine ah _ rfl (fun hk2=>?_) (fun hk2=>?_)
  ·refine aC ?_;refine fin1 ?_;simp[fE.may,hn',hk,hk2]
  refine run ?_;refine ah _ rfl (fun hk3=>?_) (fun hk3=>?_)
  ·refine aC ?_;refine gQ 29 ?_;refine bg ?_
   refine eH (b:=decide (1≤e.level)&&decide (e.level≤3)) (want:=true) (v:=.int .i64 (xB (e.level.toNat-1) e.page.toNat:Int)) (fun hg wc hG=>by
    simp[jb] at hg;have h5:=aa9 e.level.toNat bx6 bx6 e.page.toNat hpz.2 wc;rw[hpz.1,show ((e.level.toNat:Nat):Int)=e.level by omega] at h5
    exact h5) ?_
   refine bg ?_;refine run ?_;refine fin1 ?_
   have hz:decide (((xB (e.level.toNat-1) e.page.toNat:Nat):Int)=e.page)=decide (xB (e.level.toNat-1) e.page.toNat=e.page.toNat):=by
    rw[bF3,decide_eq_true_eq,decide_eq_true_eq];have:=hpz.1;omega
   rw[hz];simp only[fE.may,hn',hk3,show decide (e.kind=1)=false by simpa using hk,show decide (e.kind=2)=false by simpa using hk2,cond_false,cond_true,bF6,PtD.dm,fE.bare,aW,iF];cases e.r<;>cases e.w<;>cases e.x<;>cases e.af<;>cases e.ng<;>simp
  ·refine run ?_;refine fin1 ?_;simp[fE.may,hn',hk,hk2,hk3]
theorem ab1(i:jv)(w:World):Fn Tryz.prog 56 [.agg (kZ i).toArray].toArray w [] (fun u _=>u=.bool i.may):=by
 refine enter Tryz.func56 ?_;refine run ?_;intro B;refine aC ?_;refine bH (fun _ wc hG=>QC i.aO wc) ?_;refine aC ?_;refine bH (fun _ wc hG=>QC i.qO wc) ?_;refine aC ?_;refine bH (fun _ wc hG=>wC i.page wc) ?_;refine aC ?_;refine fin1 ?_;simp[jv.may,PtD.dm,bM3]
end
theorem ab2(a b:fE):aW (iw a) (iw b)=decide (a=b):=by
 obtain⟨a1,a2,a3,a4,a5,a6,a7,a8,a9,a10,a11,a12,a13,a14⟩:=a;obtain⟨b1,b2,b3,b4,b5,b6,b7,b8,b9,b10,b11,b12,b13,b14⟩:=b;rw[bF3,decide_eq_true_eq];simp[aW,iF]
theorem aT5(a b:jv):aW (kZ a) (kZ b)=decide (a=b):=by
 obtain⟨a1,a2,a3,a4⟩:=a;obtain⟨b1,b2,b3,b4⟩:=b;rw[bF3,decide_eq_true_eq];simp[aW,iF]
def Ak(es:List fE)(k:Nat):Bool:=(es.getD k default).may&&!(es.take k).any fun t=>decide (t=es.getD k default)
def dP(es:List fE)(ds:List jv):Bool:=((List.range es.length).all fun k=>Ak es k)&&ds.all jv.may&&decide (es.length≤8)&&decide (ds.length≤8)
theorem KN{α:Type}[Inhabited α][DecidableEq α](l:List α)(k:Nat)(hk:k<l.length):decide (gU (fun t=>decide (t=l.getD k default)) l=(k:Int))=!(l.take k).any (fun t=>decide (t=l.getD k default)):=by
 cases h:(l.take k).any (fun t=>decide (t=l.getD k default)) with
 | false=>
  rw[fF hk bx8 fun j hj=>?_]
  ·simp
  ·rw[bP7] at h
   have h1:=h (l.getD j default) (by
    rw[bN']
    exact⟨j,by omega,by simp[show j<l.length by omega]⟩)
   simpa using h1
 | true=>
  obtain⟨x,hx,hxe⟩:=bJ9.1 h;obtain⟨j,hj,rfl⟩:=bN'.1 hx;have hj1:j<l.length:=by omega
  have hje:decide (l.getD j default=l.getD k default)=true:=by
   rw[bE',bF0 hj1];exact hxe
  obtain⟨j0,h0,h1,h2⟩:=Af (fun t=>decide (t=l.getD k default)) l j hje;rw[fF (k:=j0) bx6 h1 h2];simp;omega
theorem KO{p:Nat→Bool}(h:∀ j,j<n→p j=true):(List.range n).all p=true:=bF1.2 fun j hj=>h j (bG2.1 hj)
theorem ab3{p:Nat→Bool}(hk:k<n)(h:p k=false):(List.range n).all p=false:=by
 cases hc:(List.range n).all p with
 | false=>rfl
 | true=>rw[bF1.1 hc k (bG2.2 hk)] at h;cases h
theorem QD{es:List fE}{ds:List jv}(hk:k<es.length)(h:Ak es k=false):dP es ds=false:=by
 unfold dP;rw[ab3 hk h];rfl
theorem ab4{es:List fE}{ds:List jv}(hk:k<ds.length)(h:(ds.getD k default).may=false):dP es ds=false:=by
 have:ds.all jv.may=false:=by
  cases hc:ds.all jv.may with
  | false=>rfl
  | true=>
   rw[bE',bF0 hk] at h;have:=bF1.1 hc _ (bU8 hk);rw[bM1] at h;rw[this] at h;cases h
 unfold dP;rw[this];simp
theorem Xd{α:Type}[Inhabited α]{l:List α}{p:α→Bool}(h:∀ j,j<l.length→p (l.getD j default)=true):l.all p=true:=by
 refine bF1.2 fun x hx=>?_;obtain⟨j,hj,rfl⟩:=bP8 hx;have:=h j hj;rwa [bE',bF0 hj] at this
section
attribute [local irreducible] Hy St Ops DH dI
theorem av1(a:fE)(xs:List fE)(v:Value)(h:aA w v 14 (xs.map iw)):
  Fn Tryz.prog 55 [v,.agg (iw a).toArray].toArray w [] (fun u _=>u=.int .i64 (gU (fun t=>decide (t=a)) xs)):=by
 obtain⟨q,cap,rfl,hne,hle⟩:=h.opened;refine enter Tryz.func55 ?_;refine run ?_;intro B;refine run ?_;refine aK (σ:=Nat) (fun k=>[(5,.int .i64 (k:Int))]) (fun _=>[⟨B,(iw a).toArray,80⟩]) (fun k=>k≤xs.length∧∀ j,j<k→decide (xs.getD j default=a)=false) (fun k=>xs.length-k) 0 ⟨bF4 _,fun j hj=>absurd hj bx6⟩ ?_;rintro k m rfl ⟨hk,hno⟩;refine run ?_;refine ah _ rfl (fun hc=>?_) (fun hc=>?_)
 ·have hlt:k<xs.length:=by simpa using hc
  obtain⟨b,o,rfl⟩:=hne by0;have hr:=h.row hlt;refine run ?_;refine dF ?_;refine dJ ?_;refine run ?_;rw[ab2];refine ah _ rfl (fun hp=>?_) (fun hp=>?_)
  ·refine run ?_;refine fin1 ?_;rw[fF hlt hp hno]
  ·refine run ?_;refine aF (k+1) ⟨hlt,fun j hj=>?_⟩;rcases bG1.1 hj with hj | rfl
   ·exact hno j hj
   ·exact hp
 ·have hge:k=xs.length:=by simp at hc;omega
  subst hge;refine run ?_;refine fin1 ?_;rw[dS hno]
theorem av2(es:List fE)(ds:List jv)(v u:Value)(h:aA w v 14 (es.map iw))(hd:aA w u 4 (ds.map kZ)):
  Fn Tryz.prog 29 [.agg #[v,u]].toArray w [] (fun r _=>r=.bool (dP es ds)):=by
 obtain⟨q,cap,rfl,hne,hle⟩:=h.opened;obtain⟨q2,cap2,rfl,hne2,hle2⟩:=hd.opened;refine enter Tryz.func29 ?_;refine run ?_;intro B;refine run ?_;refine aK (σ:=Nat) (fun k=>[(3,.int .i64 (k:Int))]) (fun _=>[⟨B,#[.slice q es.length cap,.slice q2 ds.length cap2],72⟩]) (fun k=>k≤es.length∧∀ j,j<k→Ak es j=true) (fun k=>es.length-k) 0 ⟨bF4 _,fun j hj=>absurd hj bx6⟩ ?_;rintro k m rfl ⟨hk,hno⟩;refine run ?_;refine ah _ rfl (fun hc=>?_) (fun hc=>?_)
 ·have hlt:k<es.length:=by simpa using hc
  obtain⟨b,o,rfl⟩:=hne by0;have hr:=h.row hlt;refine run ?_;refine dF ?_;refine dJ ?_;refine eu (fun wc hG=>aa' (es.getD k default) wc) ?_;refine bg ?_;refine eH (fun hg wc hG=>av1 (es.getD k default) es _ (h.good hG)) ?_;refine bg ?_;refine run ?_
  have he:(!(es.getD k default).may||!decide (gU (fun t=>decide (t=es.getD k default)) es=(k:Int)))=!Ak es k:=by
   rw[KN es k hlt];unfold Ak;rw[bT5]
  rw[he];refine ah _ rfl (fun hp=>?_) (fun hp=>?_)
  ·refine run ?_;refine fin1 ?_;rw[QD hlt bB']
  ·refine run ?_;refine aF (k+1) ⟨hlt,fun j hj=>?_⟩;rcases bG1.1 hj with hj | rfl
   ·exact hno j hj
   ·simpa using hp
 ·have hge:k=es.length:=by simp at hc;omega
  subst hge;refine run ?_;refine aK (σ:=Nat) (fun k=>[(4,.int .i64 (k:Int))]) (fun _=>[⟨B,#[.slice q es.length cap,.slice q2 ds.length cap2],72⟩]) (fun k=>k≤ds.length∧∀ j,j<k→(ds.getD j default).may=true) (fun k=>ds.length-k) 0 ⟨bF4 _,fun j hj=>absurd hj bx6⟩ ?_;rintro k m rfl ⟨hk,aJ0⟩;refine run ?_;refine ah _ rfl (fun hc=>?_) (fun hc=>?_)
  ·have hlt:k<ds.length:=by simpa using hc
   obtain⟨b,o,rfl⟩:=hne2 by0;have hr:=hd.row hlt;refine run ?_;refine az (fun wc hG=>ab1 (ds.getD k default) wc) ?_;refine run ?_;refine ah _ rfl (fun hp=>?_) (fun hp=>?_)
   ·refine run ?_;refine fin1 ?_;rw[ab4 hlt bB']
   ·refine run ?_;refine aF (k+1) ⟨hlt,fun j hj=>?_⟩;rcases bG1.1 hj with hj | rfl
    ·exact aJ0 j hj
    ·simpa using hp
  ·have hge:k=ds.length:=by simp at hc;omega
   subst hge;refine aC ?_;refine fin1 ?_;unfold dP;rw[KO hno,Xd aJ0,show decide ((es.length:Int)≤8)=decide (es.length≤8) by (rw[bF3,decide_eq_true_eq,decide_eq_true_eq];omega),show decide ((ds.length:Int)≤8)=decide (ds.length≤8) by (rw[bF3,decide_eq_true_eq,decide_eq_true_eq];omega)];rfl
structure uk where
 es:List fE
 ds:List jv
 ep:Option Addr
 ec:Nat
 dp:Option Addr
 dc:Nat
instance : Inhabited uk := ⟨⟨[], [], none, 0, none, 0⟩⟩
abbrev uk.ev(t:uk):Value:=.slice t.ep t.es.length t.ec
abbrev uk.dv(t:uk):Value:=.slice t.dp t.ds.length t.dc
abbrev Tj(t:uk):List Value:=[t.ev,t.dv]
structure Xe(w:World)(v:Value)(ts:List uk):Prop where
 rows:aA w v 2 (ts.map Tj)
 en:∀ t∈ts,aA w t.ev 14 (t.es.map iw)
 iv:∀ t∈ts,aA w t.dv 4 (t.ds.map kZ)
theorem Xe.good{w':World}{hp:Hp}{ts:List uk}(h:Xe w v ts)(hG:Good w [] hp w'):Xe w' v ts:=⟨h.rows.good hG,fun t ht=>(h.en t ht).good hG,fun t ht=>(h.iv t ht).good hG⟩
theorem getD_mem{α:Type}[Inhabited α]{l:List α}(h:k<l.length):l.getD k default∈l:=by
 rw[bE',bF0 h];exact bU8 h
end
structure Am where
 x0:Nat
 x1:Nat
 x2:Nat
 x3:Nat
 x4:Nat
 x5:Nat
 x6:Nat
 x7:Nat
 pc:Nat
 Xf:Nat
 KP:Nat
 Xg:Nat
 elr:Nat
 esr:Nat
 far:Nat
deriving DecidableEq
def jy:Am:=⟨0,0,0,0,0,0,0,0,0,0,0,0,0,0,0⟩
instance : Inhabited Am := ⟨jy⟩
abbrev nY(r:Am):List Value:=[.int .u64 (r.x0:Int),.int .u64 (r.x1:Int),.int .u64 (r.x2:Int),.int .u64 (r.x3:Int),.int .u64 (r.x4:Int),.int .u64 (r.x5:Int),.int .u64 (r.x6:Int),.int .u64 (r.x7:Int),.int .u64 (r.pc:Int),.int .u64 (r.Xf:Int),.int .u64 (r.KP:Int),.int .u64 (r.Xg:Int),.int .u64 (r.elr:Int),.int .u64 (r.esr:Int),.int .u64 (r.far:Int)]
theorem Ov(a b:Am):aW (nY a) (nY b)=decide (a=b):=by
 obtain⟨a0,a1,a2,a3,a4,a5,a6,a7,a8,a9,a10,a11,a12,a13,a14⟩:=a;obtain⟨b0,b1,b2,b3,b4,b5,b6,b7,b8,b9,b10,b11,b12,b13,b14⟩:=b;rw[bF3,decide_eq_true_eq];simp[aW,iF,bV8]
structure ve where
 r:Am
 on:Int
deriving DecidableEq
instance : Inhabited ve := ⟨⟨jy, 0⟩⟩
abbrev zF(c:ve):List Value:=[.int .u64 (c.r.x0:Int),.int .u64 (c.r.x1:Int),.int .u64 (c.r.x2:Int),.int .u64 (c.r.x3:Int),.int .u64 (c.r.x4:Int),.int .u64 (c.r.x5:Int),.int .u64 (c.r.x6:Int),.int .u64 (c.r.x7:Int),.int .u64 (c.r.pc:Int),.int .u64 (c.r.Xf:Int),.int .u64 (c.r.KP:Int),.int .u64 (c.r.Xg:Int),.int .u64 (c.r.elr:Int),.int .u64 (c.r.esr:Int),.int .u64 (c.r.far:Int),.int .i64 c.on]
theorem aT6(a b:ve):aW (zF a) (zF b)=decide (a=b):=by
 obtain⟨⟨a0,a1,a2,a3,a4,a5,a6,a7,a8,a9,a10,a11,a12,a13,a14⟩,x⟩:=a;obtain⟨⟨b0,b1,b2,b3,b4,b5,b6,b7,b8,b9,b10,b11,b12,b13,b14⟩,y⟩:=b;rw[bF3,decide_eq_true_eq];simp[aW,iF,and_assoc,bV8]
structure jH where
 r:Am
 vm:Int
 vc:Int
 t:uk
instance : Inhabited jH := ⟨⟨jy, 0, 0, default⟩⟩
abbrev qV(c:jH):List Value:=[.int .u64 (c.r.x0:Int),.int .u64 (c.r.x1:Int),.int .u64 (c.r.x2:Int),.int .u64 (c.r.x3:Int),.int .u64 (c.r.x4:Int),.int .u64 (c.r.x5:Int),.int .u64 (c.r.x6:Int),.int .u64 (c.r.x7:Int),.int .u64 (c.r.pc:Int),.int .u64 (c.r.Xf:Int),.int .u64 (c.r.KP:Int),.int .u64 (c.r.Xg:Int),.int .u64 (c.r.elr:Int),.int .u64 (c.r.esr:Int),.int .u64 (c.r.far:Int),.int .i64 c.vm,.int .i64 c.vc,c.t.ev,c.t.dv]
def jH.core(c:jH):Am×Int×Int×List fE×List jv:=(c.r,c.vm,c.vc,c.t.es,c.t.ds)
structure Ap(w:World)(v:Value)(cs:List jH):Prop where
 rows:aA w v 19 (cs.map qV)
 en:∀ c∈cs,aA w c.t.ev 14 (c.t.es.map iw)
 iv:∀ c∈cs,aA w c.t.dv 4 (c.t.ds.map kZ)
theorem Ap.good{w':World}{hp:Hp}{cs:List jH}(h:Ap w v cs)(hG:Good w [] hp w'):Ap w' v cs:=⟨h.rows.good hG,fun t ht=>(h.en t ht).good hG,fun t ht=>(h.iv t ht).good hG⟩
structure fA where
 live:Bool
 dying:Bool
 aO:Int
 fs:List Int
 fp:Option Addr
 fc:Nat
 fr:List Int
 rp:Option Addr
 rc:Nat
 vs:List ve
 vp:Option Addr
 vk:Nat
instance : Inhabited fA := ⟨⟨false, false, 0, [], none, 0, [], none, 0, [], none, 0⟩⟩
abbrev fA.fv(m:fA):Value:=.slice m.fp m.fs.length m.fc
abbrev fA.rv(m:fA):Value:=.slice m.rp m.fr.length m.rc
abbrev fA.vv(m:fA):Value:=.slice m.vp m.vs.length m.vk
abbrev mQ(m:fA):List Value:=[.bool m.live,.bool m.dying,.int .i64 m.aO,m.fv,m.rv,m.vv]
def fA.core(m:fA):Bool×Bool×Int×List Int×List Int×List ve:=(m.live,m.dying,m.aO,m.fs,m.fr,m.vs)
structure yR(w:World)(v:Value)(ms:List fA):Prop where
 rows:aA w v 6 (ms.map mQ)
 fs:∀ m∈ms,aA w m.fv 1 (m.fs.map bY)
 fr:∀ m∈ms,aA w m.rv 1 (m.fr.map bY)
 vs:∀ m∈ms,aA w m.vv 16 (m.vs.map zF)
theorem yR.good{w':World}{hp:Hp}{cs:List fA}(h:yR w v cs)(hG:Good w [] hp w'):yR w' v cs:=⟨h.rows.good hG,fun t ht=>(h.fs t ht).good hG,fun t ht=>(h.fr t ht).good hG,fun t ht=>(h.vs t ht).good hG⟩
structure Ed(w:World)(wv cv vv rv:Value)(ws:List Nat)(cs:List jH)(vs:List fA)(rs:List Am):Prop where
 CS:lT ws
 ws:aA w wv 1 (ws.map uV)
 cs:Ap w cv cs
 vs:yR w vv vs
 rs:aA w rv 15 (rs.map nY)
theorem Ed.good{w':World}{hp:Hp}{wv cv vv rv:Value}{ws:List Nat}{cs:List jH}{vs:List fA}{rs:List Am}(h:Ed w wv cv vv rv ws cs vs rs)(hG:Good w [] hp w'):Ed w' wv cv vv rv ws cs vs rs:=⟨h.CS,h.ws.good hG,h.cs.good hG,h.vs.good hG,h.rs.good hG⟩
def Tm:jH:=⟨jy,0,0,⟨[],[],none,0,none,0⟩⟩
def vm0:fA:=⟨false,false,0,[],none,0,[],none,0,[],none,0⟩
theorem gV(w:World)(sz:Nat):aA w (.slice none 0 0) sz []:=⟨⟨none,0,rfl,fun h=>absurd rfl h⟩,by simp⟩
theorem Ap.zero{C:Nat}(h:w.heap[b]?=some (.cells ((List.replicate C (qV Tm)).flatten).toArray t (0,0)))(hC:C≤1000):Ap w (.slice (some ⟨b,0,none⟩) C C) (List.replicate C Tm):=by
 refine⟨?_,fun c hc=>?_,fun c hc=>?_⟩
 ·have:=iH (w:=w) (b:=b) (t:=t) (cap:=C) (sz:=19) (xs:=List.replicate C (qV Tm)) h bA2 by6;simpa using this
 ·rw[bN0 hc];exact gV _ _
 ·rw[bN0 hc];exact gV _ _
theorem yR.zero{C:Nat}(h:w.heap[b]?=some (.cells ((List.replicate C (mQ vm0)).flatten).toArray t (0,0)))(hC:C≤1000):yR w (.slice (some ⟨b,0,none⟩) C C) (List.replicate C vm0):=by
 refine⟨?_,fun c hc=>?_,fun c hc=>?_,fun c hc=>?_⟩
 ·have:=iH (w:=w) (b:=b) (t:=t) (cap:=C) (sz:=6) (xs:=List.replicate C (mQ vm0)) h bA2 by6;simpa using this
 ·rw[bN0 hc];exact gV _ _
 ·rw[bN0 hc];exact gV _ _
 ·rw[bN0 hc];exact gV _ _
theorem ab5{C:Nat}(h:w.heap[b]?=some (.cells ((List.replicate C (nY jy)).flatten).toArray t (0,0)))(hC:C≤1000):aA w (.slice (some ⟨b,0,none⟩) C C) 15 ((List.replicate C jy).map nY):=by
 have:=iH (w:=w) (b:=b) (t:=t) (cap:=C) (sz:=15) (xs:=List.replicate C (nY jy)) h bA2 by6;simpa using this
theorem Gy{α β:Type}[Inhabited α]{f:α→β}{xs ys:List α}(h:xs.map f=ys.map f)(hk:k<xs.length):f (xs.getD k default)=f (ys.getD k default):=by
 have hl:xs.length=ys.length:=by simpa using congrArg List.length h
 have h5:=congrArg (fun l=>l[k]?) h;simp only[bH4,bF0 hk,bF0 (show k<ys.length by omega),bJ1,bH2] at h5;simp only[bE',bF0 hk,bF0 (show k<ys.length by omega),bM1];exact h5
section
attribute [local irreducible] Hy St Ops DH dI jr iP gX DS iD
theorem Ox(xs:List jv)(u v:Value)(hu:aA w u 4 (xs.map kZ))(hv:aA w v 4 (xs.map kZ)):Fn Tryz.prog 347 [u,v].toArray w [] (fun r _=>r=.bool true):=by
 obtain⟨q,cap,rfl,hne,hle⟩:=hu.opened;obtain⟨q2,cap2,rfl,hne2,_⟩:=hv.opened;refine enter Tryz.func347 ?_;refine run ?_;refine ah _ rfl (fun hc=>absurd hc bx8) (fun hc=>?_);refine run ?_;refine aK (σ:=Nat) (fun k=>[(5,.int .i64 (k:Int))]) (fun _=>[]) (fun k=>k≤xs.length) (fun k=>xs.length-k) 0 (bF4 _) ?_;rintro k m hm hk;refine run ?_;refine ah _ rfl (fun hc=>?_) (fun hc=>?_)
 ·have hlt:k<xs.length:=by simp at hc;omega
  obtain⟨b,o,rfl⟩:=hne by0;obtain⟨b2,o2,rfl⟩:=hne2 by0;have h1:=hu.row hlt;have h2:=hv.row hlt;refine run ?_;refine dF ?_;refine dJ ?_;refine run ?_;rw[aT5];refine ah _ rfl (fun hp=>?_) (fun hp=>?_)
  ·simp at hp
  ·refine run ?_;exact aF (k+1) hlt
 ·refine run ?_;exact fin1 rfl
theorem KQ(xs:List fE)(u v:Value)(hu:aA w u 14 (xs.map iw))(hv:aA w v 14 (xs.map iw)):Fn Tryz.prog 346 [u,v].toArray w [] (fun r _=>r=.bool true):=by
 obtain⟨q,cap,rfl,hne,hle⟩:=hu.opened;obtain⟨q2,cap2,rfl,hne2,_⟩:=hv.opened;refine enter Tryz.func346 ?_;refine run ?_;refine ah _ rfl (fun hc=>absurd hc bx8) (fun hc=>?_);refine run ?_;refine aK (σ:=Nat) (fun k=>[(5,.int .i64 (k:Int))]) (fun _=>[]) (fun k=>k≤xs.length) (fun k=>xs.length-k) 0 (bF4 _) ?_;rintro k m hm hk;refine run ?_;refine ah _ rfl (fun hc=>?_) (fun hc=>?_)
 ·have hlt:k<xs.length:=by simp at hc;omega
  obtain⟨b,o,rfl⟩:=hne by0;obtain⟨b2,o2,rfl⟩:=hne2 by0;have h1:=hu.row hlt;have h2:=hv.row hlt;refine run ?_;refine dF ?_;refine dJ ?_;refine run ?_;rw[ab2];refine ah _ rfl (fun hp=>?_) (fun hp=>?_)
  ·simp at hp
  ·refine run ?_;exact aF (k+1) hlt
 ·refine run ?_;exact fin1 rfl
theorem Xh(xs:List Am)(u v:Value)(hu:aA w u 15 (xs.map nY))(hv:aA w v 15 (xs.map nY)):Fn Tryz.prog 182 [u,v].toArray w [] (fun r _=>r=.bool true):=by
 obtain⟨q,cap,rfl,hne,hle⟩:=hu.opened;obtain⟨q2,cap2,rfl,hne2,_⟩:=hv.opened;refine enter Tryz.func182 ?_;refine run ?_;refine ah _ rfl (fun hc=>absurd hc bx8) (fun hc=>?_);refine run ?_;refine aK (σ:=Nat) (fun k=>[(5,.int .i64 (k:Int))]) (fun _=>[]) (fun k=>k≤xs.length) (fun k=>xs.length-k) 0 (bF4 _) ?_;rintro k m hm hk;refine run ?_;refine ah _ rfl (fun hc=>?_) (fun hc=>?_)
 ·have hlt:k<xs.length:=by simp at hc;omega
  obtain⟨b,o,rfl⟩:=hne by0;obtain⟨b2,o2,rfl⟩:=hne2 by0;have h1:=hu.row hlt;have h2:=hv.row hlt;refine run ?_;refine dF ?_;refine dJ ?_;refine run ?_;rw[Ov];refine ah _ rfl (fun hp=>?_) (fun hp=>?_)
  ·simp at hp
  ·refine run ?_;exact aF (k+1) hlt
 ·refine run ?_;exact fin1 rfl
theorem Tn(xs:List ve)(u v:Value)(hu:aA w u 16 (xs.map zF))(hv:aA w v 16 (xs.map zF)):Fn Tryz.prog 328 [u,v].toArray w [] (fun r _=>r=.bool true):=by
 obtain⟨q,cap,rfl,hne,hle⟩:=hu.opened;obtain⟨q2,cap2,rfl,hne2,_⟩:=hv.opened;refine enter Tryz.func328 ?_;refine run ?_;refine ah _ rfl (fun hc=>absurd hc bx8) (fun hc=>?_);refine run ?_;refine aK (σ:=Nat) (fun k=>[(5,.int .i64 (k:Int))]) (fun _=>[]) (fun k=>k≤xs.length) (fun k=>xs.length-k) 0 (bF4 _) ?_;rintro k m hm hk;refine run ?_;refine ah _ rfl (fun hc=>?_) (fun hc=>?_)
 ·have hlt:k<xs.length:=by simp at hc;omega
  obtain⟨b,o,rfl⟩:=hne by0;obtain⟨b2,o2,rfl⟩:=hne2 by0;have h1:=hu.row hlt;have h2:=hv.row hlt;refine run ?_;refine dF ?_;refine dJ ?_;refine run ?_;rw[aT6];refine ah _ rfl (fun hp=>?_) (fun hp=>?_)
  ·simp at hp
  ·refine run ?_;exact aF (k+1) hlt
 ·refine run ?_;exact fin1 rfl
theorem ab6(a b:uk)(he:a.es=b.es)(hd:a.ds=b.ds)(h1:aA w a.ev 14 (a.es.map iw))(h2:aA w a.dv 4 (a.ds.map kZ))(h3:aA w b.ev 14 (b.es.map iw))(h4:aA w b.dv 4 (b.ds.map kZ)):Fn Tryz.prog 326 [.agg (Tj a).toArray,.agg (Tj b).toArray].toArray w [] (fun r _=>r=.bool true):=by
 obtain⟨es,ds,ep,ec,dp,dc⟩:=a;obtain⟨es2,ds2,ep2,ec2,dp2,dc2⟩:=b;dsimp only at he hd;subst he hd;refine enter Tryz.func326 ?_;refine run ?_;intro B C;refine aC ?_;refine az (fun wc hG=>KQ es _ _ (h1.good hG) (h3.good hG)) ?_;refine aC ?_;refine bH (fun _ wc hG=>Ox ds _ _ (h2.good hG) (h4.good hG)) ?_;refine aC ?_;exact fin1 rfl
theorem ab7(a b:jH)(h:a.core=b.core)(h1:aA w a.t.ev 14 (a.t.es.map iw))(h2:aA w a.t.dv 4 (a.t.ds.map kZ))(h3:aA w b.t.ev 14 (b.t.es.map iw))(h4:aA w b.t.dv 4 (b.t.ds.map kZ)):Fn Tryz.prog 275 [.agg (qV a).toArray,.agg (qV b).toArray].toArray w [] (fun r _=>r=.bool true):=by
 simp only[jH.core,Prod.mk.injEq] at h;obtain⟨e1,e2,e3,he,hd⟩:=h;refine enter Tryz.func275 ?_;refine run ?_;intro B C;refine aC ?_;refine bH (fun _ wc hG=>ab6 a.t b.t he hd (h1.good hG) (h2.good hG) (h3.good hG) (h4.good hG)) ?_;refine aC ?_;refine fin1 ?_;have hr:aW (nY a.r) (nY b.r)=true:=by rw[Ov,e1];simp
 simp only[hr,e2,e3];simp
theorem Xi(xs ys:List jH)(u v:Value)(hcm:xs.map jH.core=ys.map jH.core)(h1:Ap w u xs)(h2:Ap w v ys):Fn Tryz.prog 180 [u,v].toArray w [] (fun r _=>r=.bool true):=by
 have hl:xs.length=ys.length:=by simpa using congrArg List.length hcm
 obtain⟨q,cap,rfl,hne,hle⟩:=h1.rows.opened;obtain⟨q2,cap2,rfl,hne2,_⟩:=h2.rows.opened;refine enter Tryz.func180 ?_;refine run ?_;refine ah _ rfl (fun hc=>absurd hc (by simp[hl])) (fun hc=>?_);refine run ?_;refine aK (σ:=Nat) (fun k=>[(5,.int .i64 (k:Int))]) (fun _=>[]) (fun k=>k≤xs.length) (fun k=>xs.length-k) 0 (bF4 _) ?_;rintro k m hm hk;refine run ?_;refine ah _ rfl (fun hc=>?_) (fun hc=>?_)
 ·have hlt:k<xs.length:=by simp at hc;omega
  obtain⟨b,o,rfl⟩:=hne by0;obtain⟨b2,o2,rfl⟩:=hne2 (by intro e;rw[e] at hl;simp only[bP2] at hl;omega);have hr1:=h1.rows.row hlt;have hr2:=h2.rows.row (show k<ys.length by omega);have hcc:=Gy hcm hlt;have p0x:=h1.en _ (getD_mem hlt);have q0x:=h2.en _ (getD_mem (show k<ys.length by omega));have p1x:=h1.iv _ (getD_mem hlt);have q1x:=h2.iv _ (getD_mem (show k<ys.length by omega));generalize xs.getD k default=a at *;generalize ys.getD k default=c at *;refine run ?_;refine dF ?_;refine dJ ?_;refine eu (fun wc hG=>ab7 a c hcc (p0x.good hG) (p1x.good hG) (q0x.good hG) (q1x.good hG)) ?_;refine dJ ?_;refine run ?_;refine ah _ rfl (fun hp=>?_) (fun hp=>?_)
  ·simp at hp
  ·refine run ?_;exact aF (k+1) hlt
 ·refine run ?_;exact fin1 rfl
theorem av3(a b:fA)(h:a.core=b.core)(h1:aA w a.fv 1 (a.fs.map bY))(h2:aA w a.rv 1 (a.fr.map bY))(h3:aA w a.vv 16 (a.vs.map zF))(g1:aA w b.fv 1 (b.fs.map bY))(g2:aA w b.rv 1 (b.fr.map bY))(g3:aA w b.vv 16 (b.vs.map zF)):Fn Tryz.prog 276 [.agg (mQ a).toArray,.agg (mQ b).toArray].toArray w [] (fun r _=>r=.bool true):=by
 simp only[fA.core,Prod.mk.injEq] at h;obtain⟨e1,e2,e3,e4,e5,e6⟩:=h;rw[←e4] at g1;rw[←e5] at g2;rw[←e6] at g3;refine enter Tryz.func276 ?_;refine run ?_;intro B C;refine aC ?_;refine bH (fun _ wc hG=>Be a.fs _ _ (h1.good hG) (g1.good hG)) ?_;refine aC ?_;refine bH (fun _ wc hG=>Be a.fr _ _ (h2.good hG) (g2.good hG)) ?_;refine aC ?_;refine bH (fun _ wc hG=>Tn a.vs _ _ (h3.good hG) (g3.good hG)) ?_;refine aC ?_;refine fin1 ?_;simp[e1,e2,e3]
theorem ab8(xs ys:List fA)(u v:Value)(hcm:xs.map fA.core=ys.map fA.core)(h1:yR w u xs)(h2:yR w v ys):Fn Tryz.prog 181 [u,v].toArray w [] (fun r _=>r=.bool true):=by
 have hl:xs.length=ys.length:=by simpa using congrArg List.length hcm
 obtain⟨q,cap,rfl,hne,hle⟩:=h1.rows.opened;obtain⟨q2,cap2,rfl,hne2,_⟩:=h2.rows.opened;refine enter Tryz.func181 ?_;refine run ?_;refine ah _ rfl (fun hc=>absurd hc (by simp[hl])) (fun hc=>?_);refine run ?_;refine aK (σ:=Nat) (fun k=>[(5,.int .i64 (k:Int))]) (fun _=>[]) (fun k=>k≤xs.length) (fun k=>xs.length-k) 0 (bF4 _) ?_;rintro k m hm hk;refine run ?_;refine ah _ rfl (fun hc=>?_) (fun hc=>?_)
 ·have hlt:k<xs.length:=by simp at hc;omega
  obtain⟨b,o,rfl⟩:=hne by0;obtain⟨b2,o2,rfl⟩:=hne2 (by intro e;rw[e] at hl;simp only[bP2] at hl;omega);have hr1:=h1.rows.row hlt;have hr2:=h2.rows.row (show k<ys.length by omega);have hcc:=Gy hcm hlt;have p0x:=h1.fs _ (getD_mem hlt);have q0x:=h2.fs _ (getD_mem (show k<ys.length by omega));have p1x:=h1.fr _ (getD_mem hlt);have q1x:=h2.fr _ (getD_mem (show k<ys.length by omega));have p2x:=h1.vs _ (getD_mem hlt);have q2x:=h2.vs _ (getD_mem (show k<ys.length by omega));generalize xs.getD k default=a at *;generalize ys.getD k default=c at *;refine run ?_;refine dF ?_;refine dJ ?_;refine eu (fun wc hG=>av3 a c hcc (p0x.good hG) (p1x.good hG) (p2x.good hG) (q0x.good hG) (q1x.good hG) (q2x.good hG)) ?_;refine dJ ?_;refine run ?_;refine ah _ rfl (fun hp=>?_) (fun hp=>?_)
  ·simp at hp
  ·refine run ?_;exact aF (k+1) hlt
 ·refine run ?_;exact fin1 rfl
theorem QE(ws:List Nat)(c1 c2:List jH)(m1 m2:List fA)(rs:List Am)(wv1 wv2 cv1 Aq mv1 mv2 rv1 rv2:Value)(hc:c1.map jH.core=c2.map jH.core)(hm:m1.map fA.core=m2.map fA.core)(hw1:aA w wv1 1 (ws.map uV))(hw2:aA w wv2 1 (ws.map uV))(hc1:Ap w cv1 c1)(hc2:Ap w Aq c2)(hm1:yR w mv1 m1)(hm2:yR w mv2 m2)(hr1:aA w rv1 15 (rs.map nY))(hr2:aA w rv2 15 (rs.map nY)):
  Fn Tryz.prog 100 [.agg #[wv1,cv1,mv1,rv1],.agg #[wv2,Aq,mv2,rv2]].toArray w [] (fun r _=>r=.bool true):=by
 have aU0:=hw1;have aU1:=hw2;have hc1':=hc1;have hc2':=hc2;have aU2:=hm1;have aU3:=hm2;have hr1':=hr1;have hr2':=hr2;obtain⟨_,_,rfl,_⟩:=hw1.opened;obtain⟨_,_,rfl,_⟩:=hw2.opened;obtain⟨_,_,rfl,_⟩:=hc1.rows.opened;obtain⟨_,_,rfl,_⟩:=hc2.rows.opened;obtain⟨_,_,rfl,_⟩:=hm1.rows.opened;obtain⟨_,_,rfl,_⟩:=hm2.rows.opened;obtain⟨_,_,rfl,_⟩:=hr1.opened;obtain⟨_,_,rfl,_⟩:=hr2.opened;refine enter Tryz.func100 ?_;refine run ?_;intro B C;refine aC ?_;refine az (fun wc hG=>Z9 ws _ _ (aU0.good hG) (aU1.good hG)) ?_;refine aC ?_;refine bH (fun _ wc hG=>Xi c1 c2 _ _ hc (hc1'.good hG) (hc2'.good hG)) ?_;refine aC ?_;refine bH (fun _ wc hG=>ab8 m1 m2 _ _ hm (aU2.good hG) (aU3.good hG)) ?_;refine aC ?_;refine bH (fun _ wc hG=>Xh rs _ _ (hr1'.good hG) (hr2'.good hG)) ?_;refine aC ?_;refine fin1 rfl
theorem yS(f soft:Int)(w:World):Fn Tryz.prog 166 [.int .i64 f,.int .i64 soft].toArray w [] (fun u _=>u=ug (aZ f soft)):=by
 refine enter Tryz.func166 ?_;refine run ?_;intro B C;refine run ?_;exact dQ (cs:=#[.int .i64 2,.int .i64 f,.bool true,.bool true,.bool true,.bool true,.bool false,.int .i64 soft,.int .i64 0]) rfl
theorem yT(f soft:Int)(w:World):Fn Tryz.prog 50 [.int .i64 f,.int .i64 soft].toArray w [] (fun u _=>u=ug (aZ f soft)):=by
 refine enter Tryz.func50 ?_;refine run ?_;intro B;refine run ?_;exact dQ (cs:=#[.int .i64 2,.int .i64 f,.bool true,.bool true,.bool true,.bool true,.bool false,.int .i64 soft,.int .i64 0]) rfl
theorem av4(own o9 f:Int)(ho:own≤1000)(h1:-1≤own)(w:World):Fn Tryz.prog 51 [.agg #[.int .i64 own,.int .i64 o9],.int .i64 f].toArray w [] (fun u _=>u=ug (kV own o9 f)):=by
 refine enter Tryz.func51 ?_;refine run ?_;intro B C;refine aC ?_;refine ah _ rfl (fun hc=>?_) (fun hc=>?_)
 ·refine run ?_;refine az (fun wc hG=>yT f 0 wc) ?_;refine run ?_;rw[show kV own o9 f=aZ f 0 by unfold kV;rw[hc,cond_true]];exact dQ (cs:=#[.int .i64 (aZ f 0).kind,.int .i64 (aZ f 0).frame,.bool (aZ f 0).r,.bool (aZ f 0).w,.bool (aZ f 0).x,.bool (aZ f 0).af,.bool (aZ f 0).ng,.int .i64 (aZ f 0).soft,.int .i64 (aZ f 0).note]) rfl
 refine run ?_;refine ah _ rfl (fun hc2=>?_) (fun hc2=>?_)
 ·refine run ?_;refine az (fun wc hG=>yT f 1 wc) ?_;refine run ?_;rw[show kV own o9 f=aZ f 1 by unfold kV;rw[hc,cond_false,hc2,cond_true]];exact dQ (cs:=#[.int .i64 (aZ f 1).kind,.int .i64 (aZ f 1).frame,.bool (aZ f 1).r,.bool (aZ f 1).w,.bool (aZ f 1).x,.bool (aZ f 1).af,.bool (aZ f 1).ng,.int .i64 (aZ f 1).soft,.int .i64 (aZ f 1).note]) rfl
 refine run ?_;refine ah _ rfl (fun hc3=>?_) (fun hc3=>?_)
 ·refine run ?_;refine az (fun wc hG=>yT f 2 wc) ?_;refine run ?_;rw[show kV own o9 f=aZ f 2 by unfold kV;rw[hc,cond_false,hc2,cond_false,hc3,cond_true]];exact dQ (cs:=#[.int .i64 (aZ f 2).kind,.int .i64 (aZ f 2).frame,.bool (aZ f 2).r,.bool (aZ f 2).w,.bool (aZ f 2).x,.bool (aZ f 2).af,.bool (aZ f 2).ng,.int .i64 (aZ f 2).soft,.int .i64 (aZ f 2).note]) rfl
 refine run ?_;refine ah _ rfl (fun hc4=>?_) (fun hc4=>?_)
 ·refine run ?_;rw[show kV own o9 f=jK 1 by unfold kV;rw[hc,cond_false,hc2,cond_false,hc3,cond_false,hc4,cond_true]];exact dQ (cs:=#[.int .i64 0,.int .i64 0,.bool false,.bool false,.bool false,.bool false,.bool false,.int .i64 0,.int .i64 1]) rfl
 refine run ?_;rw[show kV own o9 f=jK (1+own) by unfold kV;rw[hc,cond_false,hc2,cond_false,hc3,cond_false,hc4,cond_false]];exact dQ (cs:=#[.int .i64 0,.int .i64 0,.bool false,.bool false,.bool false,.bool false,.bool false,.int .i64 0,.int .i64 (1+own)]) rfl
def dw(pages:List oZ)(k:Nat):DsD:=bif decide (k<pages.length) then kV (pages.getD k default).own (pages.getD k default).wit k else dG
theorem yU(hk:k<64){s:Int}(h0:0≤s)(h1:s≤15):(aZ (k:Int) s).may 2 3=true:=by
 simp[DsD.may,aZ,PtD.dm,h0,h1,au,lS,bT1];apply decide_eq_true;show (k:Int)≤4095;omega
theorem KR{own o9:Int}(hk:k<64)(h0:-1≤own)(h1:own≤14):(kV own o9 k).may 2 3=true:=by
 unfold kV;refine mD (P:=fun d=>DsD.may 2 3 d=true) (yU hk bx7 bx7) (mD (P:=fun d=>DsD.may 2 3 d=true) (yU hk bx7 bx7) (mD (P:=fun d=>DsD.may 2 3 d=true) (yU hk bx7 bx7) (mD (P:=fun d=>DsD.may 2 3 d=true) bx7 (Gp bx6 bx6))))
theorem Oy{pages:List oZ}(qA:∀ a∈pages,-1≤a.own∧a.own≤14)(hk:k<64):(dw pages k).may 2 3=true:=by
 unfold dw
 cases h:decide (k<pages.length) with
 | false=>exact uX 2 3
 | true=>
  have:=qA _ (getD_mem (by simpa using h));exact KR hk this.1 this.2
theorem Gz(F:Nat)(hF1:16≤F)(hF:F≤64)(pages:List oZ)(qA:∀ a∈pages,-1≤a.own∧a.own≤14){pv:Value}(h:aA w pv 2 (pages.map sQ)):Fn Tryz.prog 26 [.int .i64 (F:Int),pv].toArray w [] (fun u hn=>WT (pU (F*8) (dw pages) 64).ws u hn):=by
 obtain⟨q,cap,rfl,hne,hle⟩:=h.opened;refine enter Tryz.func26 ?_;refine run ?_;intro R;rw[show (F:Int)*8=((F*8:Nat):Int) by omega];refine make (m:=F*8) (fun Z=>?_) bx6;refine run ?_;intro M A;refine run ?_;have Xj:128≤F*8:=by omega
 have hM0:Own 53 1 (.slice (some ⟨Z,0,none⟩) (F*8) (F*8)) [⟨Z,madeCells (Value.int .u64 0).cells (F*8*1),53⟩] ((dO (F*8) (iO (dw pages) 0)).map uV):=by
  have:=WY Z (F*8) bx6;rw[Ai] at this;exact this
 have hL0:Own 3 1 (.slice (some ⟨A,0,none⟩) 15 15) [⟨A,#[.int .i64 1,.int .i64 2,.int .i64 3,.int .i64 4,.int .i64 5,.int .i64 6,.int .i64 7,.int .i64 8,.int .i64 9,.int .i64 10,.int .i64 11,.int .i64 12,.int .i64 13,.int .i64 14,.int .i64 15],3⟩] ((leftB 0).map bY):=IM A 15 _ rfl rfl bA5;refine aK (σ:=Nat×Option Addr×Nat×Hp×Option Addr×Nat×Hp) (fun s=>[(7,.int .i64 (s.1:Int)),(6,.slice s.2.2.2.2.1 (leftB s.1).length s.2.2.2.2.2.1)]) (fun s=>⟨M,#[.slice s.2.1 (F*8) s.2.2.1],24⟩::⟨R,#[.slice none 0 0],24⟩::(s.2.2.2.2.2.2++s.2.2.2.1)) (fun s=>s.1≤64∧Own 53 1 (.slice s.2.1 (F*8) s.2.2.1) s.2.2.2.1 ((dO (F*8) (iO (dw pages) s.1)).map uV)∧Own 3 1 (.slice s.2.2.2.2.1 (leftB s.1).length s.2.2.2.2.2.1) s.2.2.2.2.2.2 ((leftB s.1).map bY)) (fun s=>64-s.1) (0,some ⟨Z,0,none⟩,F*8,_,some ⟨A,0,none⟩,15,_) ⟨(by decide:0≤64),hM0,hL0⟩ ?_ (hh:=by (exact ak));rintro⟨k,mq,mc,hm,fq,fc,hf⟩ m hmm ⟨hk,hM,hL⟩;dsimp only at hmm hk hM hL ⊢;refine run ?_;refine ah _ rfl (fun hc=>?_) (fun hc=>?_)
 ·have hlt:k<64:=by simp at hc;omega
  have hn:(dO (F*8) (iO (dw pages) k)).length=F*8:=eG _ _;have hw64:lT (dO (F*8) (iO (dw pages) k)):=lT.dO (QA _ _);refine run ?_
  have hll:(leftB k).length<1000:=by
   have:∀ k,k<65→(leftB k).length<1000:=by decide +kernel
   exact this k bx6
  obtain⟨q',c',eq',hcl,hq'⟩:=hL.Qx;injection eq' with e1 e2 e3
  subst e1 e3;have hstep:=nV Xj (dw pages) (k+1) bx6;rw[pU,nV Xj (dw pages) k bx6] at hstep;dsimp only at hstep;have hTk:=Qy hw64 0 (leftB k) k (aZ k 0);refine zY 11 [0,1,2,3,4] [5,10] [6,7,8,9] [12,13] [11] ?_;refine gI ?_;refine D9 (fun wc hx hG=>yT k 0 wc) ?_;refine gI ?_;refine ku (R:=fun u hn=>SS (ru (dO (F*8) (iO (dw pages) k)) 0 (leftB k) k (aZ k 0)) u hn) (fun wc hG=>au4 _ hw64 (hM.lie (fun b hb=>hG.here b bD4) (by simp[hn];omega)) _ (hL.lie (fun b hb=>hG.here b bD4) by6) ⟨_,_,rfl,hcl⟩ 0 k bx6 (aZ k 0) (yU hlt bx7 bx7) (by rw[hn];omega) bx6) (aa8 _ (by have:=hTk.2.1;omega) (by have:=hTk.2.2;omega)) ?_;refine sN ?_;refine kL ?_;generalize ru (dO (F*8) (iO (dw pages) k)) 0 (leftB k) k (aZ k 0)=T at hTk hstep;obtain⟨tw,tl,te⟩:=T;obtain⟨aJ4,hTl,hTf⟩:=hTk;dsimp only at aJ4 hTl hTf hstep;rw[IL.mk.injEq] at hstep;obtain⟨hs1,hs2,_⟩:=hstep;rintro _ _ ⟨X,rfl,rfl⟩ u hn2 ⟨v2,h2,vl2,hl2,rfl,hO2,hL2,hle2⟩;dsimp only at hO2 hL2;obtain⟨q2',c2',e2⟩:=hO2.opened;rw[bE9] at e2;subst e2;refine yC ?_;refine dV ?_;refine dV ?_;refine dV ?_;refine jJ ?_;refine oO ?_;refine oO ?_;refine jJ ?_;simp only[DN,bF2,bF5,bG3];refine WB ?_;refine di ?_;refine kN ?_;refine aS (⟨X,#[.slice q2' tw.length c2'],24⟩::⟨M,#[.slice mq (F*8) mc],24⟩::⟨R,#[.slice none 0 0],24⟩::(h2++hl2)) (cnt1 hle2) ?_;refine run ?_;intro D;refine sD (σ:=DsD) (fun _=>[]) (fun d=>⟨D,#[.int .i64 (d).kind,.int .i64 (d).frame,.bool (d).r,.bool (d).w,.bool (d).x,.bool (d).af,.bool (d).ng,.int .i64 (d).soft,.int .i64 (d).note],95⟩::⟨X,#[.slice q2' tw.length c2'],24⟩::⟨M,#[.slice mq (F*8) mc],24⟩::⟨R,#[.slice none 0 0],24⟩::(h2++hl2)) (fun d=>d=dw pages k) ?_ ?_
  ·refine ah _ rfl (fun hc2=>?_) (fun hc2=>?_)
   ·have hlp:k<pages.length:=by simpa using hc2
    obtain⟨b3,o3,rfl⟩:=hne (by intro e;rw[e] at hlp;simp at hlp);have hr:=h.row hlp;have hpk:=qA _ (getD_mem hlp);have hd:dw pages k=kV (pages.getD k default).own (pages.getD k default).wit k:=by simp only[dw,hlp,decide_true,cond_true]
    generalize pages.getD k default=a at hr hpk hd;refine run ?_;refine az (fun wc hG=>av4 a.own a.wit k bx6 hpk.1 wc) ?_;refine run ?_;exact kY _ hd.symm
   ·have hlp:decide (k<pages.length)=false:=by simpa using hc2
    have hd:dw pages k=dG:=by simp only[dw,hlp,cond_false]
    refine run ?_;exact kY dG hd.symm
  rintro d hd;have hdm:d.may 2 3=true:=by rw[hd];exact Oy qA hlt
  rw[←hd] at hs1;clear hd;refine run ?_;refine bI (fun wc hG=>au3 tw aJ4 (hO2.lie (fun b hb=>hG.here b bD4) bx9) 0 k bx6 3 bx7 d hdm bx6) ?_;rintro u hn3 ⟨v3,h3,rfl,hO3,hle3⟩;rw[hs1] at hO3;obtain⟨q3,c3,e3⟩:=hO3.opened;rw[bE9,eG] at e3;subst e3;rw[hs2] at hL2;obtain⟨q4,c4,e4⟩:=hL2.opened;rw[bE9] at e4;subst e4;refine aS (⟨D,#[.int .i64 (d).kind,.int .i64 (d).frame,.bool (d).r,.bool (d).w,.bool (d).x,.bool (d).af,.bool (d).ng,.int .i64 (d).soft,.int .i64 (d).note],95⟩::⟨X,#[.slice q2' tw.length c2'],24⟩::⟨M,#[.slice mq (F*8) mc],24⟩::⟨R,#[.slice none 0 0],24⟩::(h3++hl2)) (cnt1 hle3) ?_;refine run ?_;refine aF (k+1,q3,c3,h3,q4,c4,hl2) ⟨hlt,hO3,hL2⟩ (hm:=by dsimp only;omega) (h2:=by (exact ak))
 have aU4:k=64:=by simp at hc;omega
 subst aU4;refine run ?_;rw[nV Xj (dw pages) 64 (bG0 _)];exact dQ (cs:=#[.slice mq (F*8) mc]) ⟨_,hm,rfl,hM,by (exact ak)⟩
theorem Oz{F C:Nat}(hF1:16≤F)(k:Nat):dw (iq F C).pages k=uZ F k:=by
 unfold dw uZ;have hl:(iq F C).pages.length=F:=by simp[iq]
 rw[hl];by_cases hF:k<F
 ·have e1:decide (k<F)=true:=by simpa using hF
  have e2:decide (F≤k)=false:=by simp;omega
  have e3:(iq F C).pages.getD k default=⟨bif decide (k<16) then -1 else 0,-2⟩:=by
   simp[iq,bE',bM0 hF]
  rw[e1,e2,e3,cond_true,cond_false];cases decide (k<16)<;>rfl
 ·have e1:decide (k<F)=false:=by simpa using hF
  have e2:decide (F≤k)=true:=by simp;omega
  have e3:decide (k<16)=false:=by simp;omega
  rw[e1,e2,e3,cond_false,cond_true,cond_false]
theorem OA{dd dd':Nat→DsD}(h:∀ k,dd k=dd' k):∀ j,pU n dd j=pU n dd' j:=by
 intro j
 induction j with
 | zero=>rfl
 | succ j ih=>rw[pU,pU,ih,h j]
theorem KT{F C:Nat}(hF1:16≤F):(pU (F*8) (dw (iq F C).pages) 64).ws=dO (F*8) (rD F 64):=by
 rw[OA (Oz hF1),←Ot bx6 F,KL bx6 F 64 (bG0 _)]
theorem Xk{F C:Nat}:∀ a∈(iq F C).pages,-1≤a.own∧a.own≤14:=by
 intro a ha;obtain⟨k,_,rfl⟩:=bF9.1 ha;dsimp only;cases decide (k<16)<;>decide
end
section
section
variable {n : Nat} {w0 : World} {mu : List Nat} {l : Fm} {hp : Hp} {ty : TypeId} {pos : String} {af : Array Edge} {dd : Option Nat} {gg : Option (Nat × Bool)}
theorem Xl{m s:Nat}{ps:List (Nat×Operand)}{vs:List (Nat×Value)}{z:Value}{out out':Array Value}(ht:lk Tb.ar t=some (m,e,s))(hz:lk Tb.zs t=some z)(hv:EY l ps=some vs)(hf:Instr.fill (fun i=>some (i*s,s)) z.cells vs=some out)(hn:out=out'):Hy Tryz.prog n w0 mu l hp ⟨dd,.build t ps.toArray,ty,pos,af,gg⟩ (.agg out'):=by
 subst hn;obtain⟨hu,hs⟩:=aB.gar ht
 exact bQ fun a w hk _=>by
  have e:(ps.toArray.map fun x=>(x.1,a.eval x.2))=vs.toArray:=by rw[←hk.EY hv];simp
  simp only[execOp,Instr.build,Sem.run_bind,pF (aB.Nj hz) w,Result.andThen_ok,run_underlying hu w,run_sizeOf hs w,e];simp[hf]
theorem Ee{m:Nat}{y:Operand}{cs:Array Value}{k:IntKind}{i:Int}(ht:lk Tb.ar t=some (m,e,1))(hsc:mem Tb.sc e=true)(hx:ev l x=some (.agg cs))(hy:ev l y=some (.int k i))(h0:0≤i)(h1:i<m)(hn:cs[i.toNat]?=some v){ty2:TypeId}:Hy Tryz.prog n w0 mu l hp ⟨dd,.index t x y,ty2,pos,af,gg⟩ v:=by
 obtain⟨hu,hs⟩:=aB.gar ht;have hg:=aB.gsc hsc
 exact bQ fun a w hk _=>by
  simp only[execOp,hk.ev hx,hk.ev hy];simp[Instr.index,run_underlying hu w,asIntOf,h0,h1,run_sizeOf hs w,part,oD hg w,hn]
end
end
section
attribute [local irreducible] Hy St Ops DH dI jr iP gX DS iD lV
theorem KU(w:World):Fn Tryz.prog 121 [].toArray w [] (fun u _=>u=.agg #[.int .i64 1,.int .i64 1,.int .i64 1,.int .i64 8]):=by
 refine enter Tryz.func121 ?_;refine run ?_;intro B;refine run ?_;refine jI by5 (Xl (out:=#[.int .i64 1,.int .i64 1,.int .i64 1,.int .i64 8]) rfl rfl rfl by5 rfl) ?_;refine run ?_;exact dQ (cs:=#[.int .i64 1,.int .i64 1,.int .i64 1,.int .i64 8]) rfl
theorem Xm:∀ k:Nat,k<4→(#[.int .i64 1,.int .i64 1,.int .i64 1,.int .i64 8]:Array Value)[k]?=some (.int .i64 (if k=3 then 8 else 1)):=by
 intro k hk;have:k=0∨k=1∨k=2∨k=3:=by omega
 rcases this with rfl | rfl | rfl | rfl<;>rfl
theorem av5(f own o9:Int)(h1:-1≤own)(h2:own≤1000)(w:World):Fn Tryz.prog 206 [.int .i64 f,.agg #[.int .i64 own,.int .i64 o9]].toArray w [] (fun u _=>u=ug (kV own o9 f)):=by
 refine enter Tryz.func206 ?_;refine run ?_;intro B C;refine aC ?_;refine ah _ rfl (fun hc=>?_) (fun hc=>?_)
 ·refine run ?_;refine az (fun wc hG=>yS f 0 wc) ?_;refine run ?_;rw[show kV own o9 f=aZ f 0 by unfold kV;rw[hc,cond_true]];exact dQ (cs:=#[.int .i64 (aZ f 0).kind,.int .i64 (aZ f 0).frame,.bool (aZ f 0).r,.bool (aZ f 0).w,.bool (aZ f 0).x,.bool (aZ f 0).af,.bool (aZ f 0).ng,.int .i64 (aZ f 0).soft,.int .i64 (aZ f 0).note]) rfl
 refine run ?_;refine ah _ rfl (fun hc2=>?_) (fun hc2=>?_)
 ·refine run ?_;refine az (fun wc hG=>yS f 1 wc) ?_;refine run ?_;rw[show kV own o9 f=aZ f 1 by unfold kV;rw[hc,cond_false,hc2,cond_true]];exact dQ (cs:=#[.int .i64 (aZ f 1).kind,.int .i64 (aZ f 1).frame,.bool (aZ f 1).r,.bool (aZ f 1).w,.bool (aZ f 1).x,.bool (aZ f 1).af,.bool (aZ f 1).ng,.int .i64 (aZ f 1).soft,.int .i64 (aZ f 1).note]) rfl
 refine run ?_;refine ah _ rfl (fun hc3=>?_) (fun hc3=>?_)
 ·refine run ?_;refine az (fun wc hG=>yS f 2 wc) ?_;refine run ?_;rw[show kV own o9 f=aZ f 2 by unfold kV;rw[hc,cond_false,hc2,cond_false,hc3,cond_true]];exact dQ (cs:=#[.int .i64 (aZ f 2).kind,.int .i64 (aZ f 2).frame,.bool (aZ f 2).r,.bool (aZ f 2).w,.bool (aZ f 2).x,.bool (aZ f 2).af,.bool (aZ f 2).ng,.int .i64 (aZ f 2).soft,.int .i64 (aZ f 2).note]) rfl
 have hne:=of_decide_eq_false hc2;refine run ?_;refine ah _ rfl (fun hc4=>?_) (fun hc4=>?_)
 ·have hp:0<own:=of_decide_eq_true hc4;refine run ?_;rw[show kV own o9 f=jK (1+own) by unfold kV;rw[hc,cond_false,hc2,cond_false,hc3,cond_false,decide_eq_false bx6,cond_false]];exact dQ (cs:=#[.int .i64 0,.int .i64 0,.bool false,.bool false,.bool false,.bool false,.bool false,.int .i64 0,.int .i64 (1+own)]) rfl
 have hp:¬ 0<own:=of_decide_eq_false hc4;refine run ?_;rw[show kV own o9 f=jK 1 by unfold kV;rw[hc,cond_false,hc2,cond_false,hc3,cond_false,decide_eq_true bx6,cond_true]];exact dQ (cs:=#[.int .i64 0,.int .i64 0,.bool false,.bool false,.bool false,.bool false,.bool false,.int .i64 0,.int .i64 1]) rfl
def kG(pages:List oZ)(lv tb at_:Nat):DsD:=
 bif decide (lv=3) then dw pages (tb*8+at_) else bif decide (lv=2) then jW (3+(at_:Int)) else bif decide (at_=0) then jW ((lv:Int)+1) else dG
theorem Tq(X:Nat){pv gv ov:Value}(pages:List oZ)(h:aA w pv 2 (pages.map sQ))(qA:∀ a∈pages,-1≤a.own∧a.own≤14)(lv tb at_:Nat)(hl:lv<4)(ht:tb<8)(ha:at_<8):Fn Tryz.prog 123 [.pointer (some ⟨X,0,none⟩),.agg #[pv,gv,ov],.int .i64 (lv:Int),.int .i64 (tb:Int),.int .i64 (at_:Int)].toArray w [] (fun u _=>u=ug (kG pages lv tb at_)):=by
 have h':=h;obtain⟨q,cap,rfl,hne,hle⟩:=h.opened;refine enter Tryz.func123 ?_;refine run ?_;intro P D;refine ah _ rfl (fun hc=>?_) (fun hc=>?_)
 ·have hl3:lv<3:=by simp at hc;omega
  refine run ?_;refine az (fun wc hG=>KU wc) ?_;refine run ?_;refine aK (σ:=Nat) (fun k=>[(18,.int .i64 (k:Int)),(11,.int .i64 ((min k (lv+1):Nat):Int))]) (fun _=>⟨D,#[.int .i64 0,.int .i64 0,.bool false,.bool false,.bool false,.bool false,.bool false,.int .i64 0,.int .i64 0],95⟩::[⟨P,#[.slice q pages.length cap,gv,ov],48⟩]) (fun k=>k≤4) (fun k=>4-k) 0 (bF4 _) ?_;rintro k m hm hk;refine run ?_;refine ah _ rfl (fun hc2=>?_) (fun hc2=>?_)
  ·have hk3:k<4:=by simp at hc2;omega
   refine run ?_;refine jI by5 (Ee rfl rfl rfl rfl bx6 bx6 (Xm k hk3)) ?_;refine run ?_;refine ah _ rfl (fun hc3=>?_) (fun hc3=>?_)
   ·have hkl:k≤lv:=by simp at hc3;omega
    rw[if_neg (by omega:¬ k=3),show min k (lv+1)=k by omega];refine run ?_;exact aF (k+1) hk3 (h1:=by rw[show min (k+1) (lv+1)=k+1 by omega];(repeat (first | exact True.intro | (refine And.intro bz0 ?_))))
   ·have hkl:lv<k:=by simp at hc3;omega
    refine run ?_;exact aF (k+1) hk3 (h1:=by rw[show min (k+1) (lv+1)=min k (lv+1) by omega];(repeat (first | exact True.intro | (refine And.intro bz0 ?_))))
  ·have hk4:k=4:=by simp at hc2;omega
   subst hk4;rw[show min 4 (lv+1)=lv+1 by omega];refine run ?_;refine ah _ rfl (fun hc3=>?_) (fun hc3=>?_)
   ·have h2:lv=2:=by simp at hc3;omega
    subst h2;rw[show ((2+1:Nat):Int)=3 from rfl];refine run ?_;exact dQ (cs:=#[.int .i64 1,.int .i64 (3+(at_:Int)),.bool false,.bool false,.bool false,.bool false,.bool false,.int .i64 0,.int .i64 0]) rfl
   ·have h2:lv≠2:=by simp at hc3;omega
    refine run ?_;refine ah _ rfl (fun hc4=>?_) (fun hc4=>?_)
    ·have h0:at_=0:=by simp at hc4;omega
     have hfd:kG pages lv tb at_=jW ((lv+1:Nat):Int):=by unfold kG;rw[decide_eq_false bx6,decide_eq_false h2,decide_eq_true h0];simp[jW]
     rw[hfd];refine run ?_;exact dQ (cs:=#[.int .i64 1,.int .i64 ((lv+1:Nat):Int),.bool false,.bool false,.bool false,.bool false,.bool false,.int .i64 0,.int .i64 0]) rfl
    ·have h0:at_≠0:=by simp at hc4;omega
     have hfd:kG pages lv tb at_=dG:=by unfold kG;rw[decide_eq_false bx6,decide_eq_false h2,decide_eq_false h0];rfl
     rw[hfd];refine run ?_;exact dQ (cs:=#[.int .i64 0,.int .i64 0,.bool false,.bool false,.bool false,.bool false,.bool false,.int .i64 0,.int .i64 0]) rfl
 have hl3:lv=3:=by simp at hc;omega
 subst hl3;refine run ?_;refine ah _ rfl (fun hc2=>?_) (fun hc2=>?_)
 ·have hfd:kG pages 3 tb at_=dG:=by
   have:¬ tb*8+at_<pages.length:=by simp at hc2;omega
   unfold kG dw;rw[decide_eq_false this];rfl
  rw[hfd];refine run ?_;exact dQ (cs:=#[.int .i64 0,.int .i64 0,.bool false,.bool false,.bool false,.bool false,.bool false,.int .i64 0,.int .i64 0]) rfl
 have hlt:tb*8+at_<pages.length:=by simp at hc2;omega
 obtain⟨b,o,rfl⟩:=hne bz9;have hr:=h.row hlt;have hpp:=qA _ (getD_mem hlt)
 have hfd:kG pages 3 tb at_=kV (pages.getD (tb*8+at_) default).own (pages.getD (tb*8+at_) default).wit ((tb*8+at_:Nat):Int):=by
  unfold kG dw;rw[decide_eq_true hlt];rfl
 rw[hfd];generalize pages.getD (tb*8+at_) default=pg at hr hpp ⊢;rw[show (tb:Int)*8+(at_:Int)=((tb*8+at_:Nat):Int) by omega];refine run ?_;refine az (fun wc hG=>av5 _ pg.own pg.wit hpp.1 bx6 wc) ?_;refine run ?_;generalize kV pg.own pg.wit ((tb*8+at_:Nat):Int)=d;exact dQ (cs:=#[.int .i64 d.kind,.int .i64 d.frame,.bool d.r,.bool d.w,.bool d.x,.bool d.af,.bool d.ng,.int .i64 d.soft,.int .i64 d.note]) rfl
end
section
def EoC(P:Program)(n:Nat)(w0:World)(mu:List Nat)(all:Array Oper)(lf:Fm)(hp:Hp)(o:Oper)(R:RT):Prop:=
 (∀ a,Knows n lf a→Region.wanted o (yielded all a.tmps)=true)∧∀ a w,Knows n lf a→Good w0 mu hp w→∀ (K:Act→World→Prop) (Q:Exit→Act→World→Prop),(∀ v h' w',R v h'→Good w0 mu h' w'→K (a.put o.dst v) w')→o.wp P a w K Q
def Fe(P:Program)(n:Nat)(w0:World)(mu:List Nat)(all:Array Oper)(ds:List (Nat×Nat))(l:Fm)(h0 hb:Hp)(t0:Nat)(X:Fm→Fm→Hp→Prop):List (Nat×Bool)→Fm→Fm→Hp→Prop
 | [],aY,bz,h=>X aY bz h
 | (i,false)::r,aY,bz,h=>∃ o,all[i]?=some o∧((o.dst.isSome=true∧∃ R:RT,BK P n w0 mu all (aT ds (bz++aY) o.after.toList++l) h o R∧∀ v hn,R v hn→Fe P n w0 mu all ds l h0 hb t0 X r aY ((i,v)::bz) (hn++h)) ∨
   (o.dst=none∧∃ h',HyS P n w0 mu (aT ds (bz++aY) o.after.toList++l) h o h'∧aJ h0 h'∧Fe P n w0 mu all ds l h0 hb t0 X r aY bz h') ∨
   (o.dst.isSome=true∧∃ R:RT,EoC P n w0 mu all (aT ds (bz++aY) o.after.toList++l) h o R∧∀ v h',R v h'→aJ h0 h'∧((i=t0∨Region.waitsFor .any all i t0=true)∨aJ hb h')∧Fe P n w0 mu all ds l h0 hb t0 X r aY ((i,v)::bz) h'))
 | (i,true)::r,aY,bz,h=>∃ o v,all[i]?=some o∧EZ P n w0 mu (aT ds (bz++aY) o.after.toList++l) [] o v∧Fe P n w0 mu all ds l h0 hb t0 X r ((i,v)::aY) bz h
def Xn(all:Array Oper):List Nat→List Nat→Bool
 | _,[]=>true
 | seen,x::r=>seen.any (fun y=>Region.waitsFor .any all x y)&&Xn all (x::seen) r
def Ef(all:Array Oper):List (Nat×Bool)→Bool
 | []=>true
 | (c,d)::r=>(d||Xn all [c] (r.map (·.1)))&&Ef all r
theorem Tt:∀ {r seen:List Nat},Xn all seen r=true→∀ x∈r,∃ y,(y∈seen∨y∈r)∧Region.waitsFor .any all x y=true:=by
 intro r
 induction r with
 | nil=>intro seen _ x hx;cases hx
 | cons z r ih=>
  intro seen h x hx;simp only[Xn,bE8] at h;rcases bG7.1 hx with rfl | hx
  ·obtain⟨y,hy,h2⟩:=bJ9.1 h.1;exact⟨y,.inl hy,h2⟩
  ·obtain⟨y,hy,h2⟩:=ih h.2 x hx;rcases hy with hy | hy
   ·rcases bG7.1 hy with rfl | hy
    ·exact⟨_,.inr (bF' ..),h2⟩
    ·exact⟨y,.inl hy,h2⟩
   ·exact⟨y,.inr (bF8 _ hy),h2⟩
theorem Xo{c:Nat}{r:List (Nat×Bool)}(h:Xn all [c] (r.map (·.1))=true):∀ x∈r.map (·.1),∃ y,(y∈[c]∨y∈r.map (·.1))∧Region.waitsFor .any all x y=true:=Tt h
theorem GG{listed:Array Bool}(h:leftOf k listed=0)(hi:i<k)(inv:HeadInv .any all k listed)(hk:k≤all.size):listed.getD i true=true:=by
 cases hc:listed.getD i true with
 | true=>rfl
 | false=>
  exfalso;have:i∈(List.range k).filter fun i=>!listed.getD i true:=bK9.2 ⟨bG2.2 hi,by simp only[hc,bI3]⟩;have h2:=bN9 this;unfold leftOf at h;omega
section
variable {P : Program} {n : Nat} {w0 : World} {mu : List Nat} {l : Fm} {h0 hp : Hp} {Q : Exit → Fm → Hp → Prop} {all : Array Oper} {k t0 : Nat} {ds : List (Nat × Nat)}
structure SOk(P:Program)(n:Nat)(w0:World)(mu:List Nat)(all:Array Oper)(ds:List (Nat×Nat))(l:Fm)(h0 hp:Hp)(t0 k:Nat)(aY bz:Fm):Prop where
 so:∀ i v,lk aY i=some v→i<k∧∃ o dA,all[i]?=some o∧(∀ j u,look dA j=some u→lk bz j=some u∨lk aY j=some u)∧∀ hx,wP P n w0 mu all (aT ds dA o.after.toList++l) (bif Region.waitsFor .any all t0 i then hx++hp else hx++h0) o v
 uq:Uq aY
theorem al7{aY bz:Fm}(hne:∀ u,(i,u)∉bz)(h:SOk P n w0 mu all ds l h0 hp t0 k aY bz):SOk P n w0 mu all ds l h0 hp t0 k aY ((i,v)::bz):=⟨fun j u hu=>by
 obtain⟨h1,o,dA,h2,h3,h4⟩:=h.1 j u hu
 exact⟨h1,o,dA,h2,fun a b hab=>(h3 a b hab).imp (fun h=>by rw[cO,if_neg (fun e=>by subst e;exact hne _ (jB h))];exact h) id,h4⟩,h.2⟩
theorem Xp{aY bz:Fm}{o:Oper}(h:SOk P n w0 mu all ds l h0 hp t0 k aY bz)(hi:i<k)(hn:lk aY i=none)(ho:all[i]?=some o)(hy:EZ P n w0 mu (aT ds (bz++aY) o.after.toList++l) [] o v):SOk P n w0 mu all ds l h0 hp t0 k ((i,v)::aY) bz:=by
 have hmo:∀ j u,lk aY j=some u→lk ((i,v)::aY) j=some u:=fun j u hu=>by
  rw[cO,if_neg (fun e=>by subst e;rw[hn] at hu;cases hu)];exact hu
 refine⟨fun j u hu=>?_,fun j u hu=>?_⟩
 ·rw[cO] at hu;by_cases hij:i=j
  ·subst hij;rw[if_pos rfl] at hu;cases hu;refine⟨hi,o,bz++aY,ho,fun a b hab=>?_,fun hx=>WE hy⟩;rw[jC,NU] at hab
   cases hE:lk bz a with
   | some x=>rw[hE] at hab;cases hab;exact .inl rfl
   | none=>rw[hE] at hab;exact .inr (hmo _ _ hab)
  ·rw[if_neg hij] at hu;obtain⟨h1,o',dA,h2,h3,h4⟩:=h.1 j u hu;exact⟨h1,o',dA,h2,fun a b hab=>(h3 a b hab).imp id (hmo a b),h4⟩
 ·rcases bG7.1 hu with hu | hu
  ·cases hu;rw[cO,if_pos rfl]
  ·exact hmo _ _ (h.2 j u hu)
theorem Tu{aY bz:Fm}{h:Hp}{listed:Array Bool}{a:Act}(hm:uN n w0 mu all l aY bz h listed a w)(hun:listed.getD i true=false)(hn:lk aY i=none):uN n w0 mu all l ((i,v)::aY) bz h listed a w:=
 ⟨hm.size,hm.defers,hm.has,hm.good,fun j u hj hl d hd=>by
  by_cases hij:i=j
  ·subst hij;rw[getD_both hun] at hl;cases hl
  ·rw[cO,if_neg hij] at hj;exact hm.wU j u hj hl d hd,hm.qE⟩
def I5(ops:Array Oper)(n k t0:Nat)(S:List Nat)(C:List (Nat×Bool)):Bool:=
 uK ops k n&&pG ops&&uM k S (C.map (·.1))&&Ef ops C&&uf ops k&&(List.range k).all fun i=>(bF ops i).isSome||Nat.beq i t0||Region.waitsFor .any ops i t0
theorem OB (hds : ∀ k d, lk ds k = some d → bF all k = some d) {g : Nat} {Q' : Exit → Act → World → Prop} {X : Fm → Fm → Hp → Prop} (hk : k ≤ all.size) (hd : uK all k n = true) (hf : bW l (dstsOf all k) = true) (hback : pG all = true) (hle0 : aJ h0 hp)
    (zU : ∀ i, i < k → bF all i = none → i = t0 ∨ Region.waitsFor .any all i t0 = true)
    (htail : ∀ aY bz h listed, HeadInv .any all k listed → (∀ i, i < k → listed.getD i true = true) → X aY bz h → ∀ a w, uN n w0 mu all l aY bz h listed a w → (∀ i v, (i, v) ∈ bz → i < k) → (∀ i v, lk aY i = some v → i < k) → Uq aY → wpAny P .any all Q' g listed a w)
    (ou : ∀ listed, HeadInv .any all k listed → ∀ i, i < k → listed.getD i true = false → ∀ t, k ≤ t → t ∉ Region.ready .any all listed) :
    ∀ f r aY bz h listed a w, leftOf k listed = f → HeadInv .any all k listed → uN n w0 mu all l aY bz h listed a w → SOk P n w0 mu all ds l h0 hp t0 k aY bz → (∀ i v, (i, v) ∈ bz → i < k) → (∀ i ∈ r.map (·.1), i < k ∧ listed.getD i true = false ∧ lk aY i = none) → (r.map (·.1)).Nodup → Ef all r = true → (∀ i, i < k → listed.getD i true = false → (∃ v, lk aY i = some v) ∨ i ∈ r.map (·.1)) →
      aJ h0 h → (listed.getD t0 false = false → aJ hp h) → Fe P n w0 mu all ds l h0 hp t0 X r aY bz h → wpAny P .any all Q' (f + g) listed a w := by
  intro f
  induction f with
  | zero =>
    intro r
    induction r with
    | nil =>
      intro aY bz h listed a w hlf inv hm hS hEk hr hnd fC hcov hle wK hD;rw [bH5]
      exact htail aY bz h listed inv (fun i hi => GG hlf hi inv hk) hD a w hm hEk (fun i v hv => (hS.1 i v hv).1) hS.2
    | cons p r ihr =>
      intro aY bz h listed a w hlf inv hm hS hEk hr hnd fC hcov hle wK hD;have h1 := hr p.1 (bF' ..);rw [GG hlf h1.1 inv hk] at h1
      exact absurd h1.2.1 bx7
  | succ f ih =>
    have STEP : ∀ r aY bz h listed a w, leftOf k listed = f + 1 → HeadInv .any all k listed → uN n w0 mu all l aY bz h listed a w → SOk P n w0 mu all ds l h0 hp t0 k aY bz → (∀ i v, (i, v) ∈ bz → i < k) → (∀ i ∈ r.map (·.1), i < k ∧ listed.getD i true = false ∧ lk aY i = none) → (r.map (·.1)).Nodup → Ef all r = true → (∀ i, i < k → listed.getD i true = false → (∃ v, lk aY i = some v) ∨ i ∈ r.map (·.1)) →
      aJ h0 h → (listed.getD t0 false = false → aJ hp h) → Fe P n w0 mu all ds l h0 hp t0 X r aY bz h → (∀ p r', r = p :: r' → p.2 = false) → wpAny P .any all Q' (f + 1 + g) listed a w := by
     intro r aY bz h listed a w hlf inv hm hS hEk hr hnd fC hcov hle wK hD aU5;rw [show f + 1 + g = (f + g) + 1 by omega]
     have hex : ∃ i, i < k ∧ listed.getD i true = false := by
       have h2 : 0 < leftOf k listed := by omega
       obtain ⟨i, hi⟩ := bP4 h2;rw [bK9] at hi;exact ⟨i, bG2.1 hi.1, by simpa using hi.2⟩
     obtain ⟨i0, rZ, hi0⟩ := hex;refine ⟨fun hnil => ?_, fun i hi => ?_⟩
     · exfalso
       obtain ⟨i, ⟨hik, hil⟩, hmin⟩ := exists_least (p := fun i => i < k ∧ listed.getD i true = false) ⟨i0, rZ, hi0⟩
       have hr : i ∈ Region.ready .any all listed := by
         rw [mem_ready];have hs : i < all.size := by omega
         refine ⟨hil, all[i], by simp [hs], fun e he hb => ?_⟩;have hb2 := bF1.1 hback i (bG2.2 hs);simp only [bL2 hs] at hb2;have hb3 := (bK3.1 hb2) e he;simp only [hb, bH3, bI5, bU5] at hb3
         cases hc : listed.getD e.on false with
         | true => rfl
         | false =>
           have h5 := hmin e.on ⟨by omega, getD_in (by rw [inv.size]; omega) hc⟩;omega
       rw [hnil] at hr; cases hr
     · have hik : i < k := by
         rcases bN5 i k with h | h
         · exact h
         · exact absurd hi (ou listed inv i0 rZ hi0 i h)
       obtain ⟨hun, o, ho, hall⟩ := mem_ready.1 hi;have hsz : i < listed.size := by rw [inv.size]; omega
       have uD : listed.getD i false = false := getD_both hun;have hleft : leftOf k (listed.setIfInBounds i true) = f := by have := pI hik (by rw [inv.size]; omega) hun; omega
       have hwl : ∀ t, Region.waitsFor .any all i t = true → listed.getD t false = true := fun t ht => by
         obtain ⟨oj, h6, e, he, hb, heq⟩ := Region.waitsFor_spec ht;rw [ho] at h6; cases h6;rw [← heq]; exact hall e he hb
       unfold wpOp;simp only [ho]
       cases CE : lk aY i with
       | some v =>
         obtain ⟨_, o', dA, ho', hmo, hy⟩ := hS.1 i v CE;rw [ho] at ho'; cases ho';have hkn := nD (o := o) hds hm (dA := dA) hmo hall;have hir : i ∉ r.map (·.1) := fun hm' => by rw [(hr i hm').2.2] at CE; cases CE
         have hnext : ∀ w', Good w0 mu h w' → wpAny P .any all Q' (f + g) (listed.setIfInBounds i true) (a.put o.dst v) w' := fun w' hG' => by
           refine ih r aY bz h _ _ _ hleft (inv.set hi hik) (pR hm ho hik hun hsz hd hf hG' (fun j u hu => (hS.1 j u hu).1) hEk (.inl ⟨CE, rfl⟩)) hS hEk (fun j hj => ?_) hnd fC (fun j hj hl => ?_) hle (fun ht => ?_) hD
           · have hji : i ≠ j := fun e => hir (e ▸ hj)
             exact ⟨(hr j hj).1, by rw [getD_set_ne true hji]; exact (hr j hj).2.1, (hr j hj).2.2⟩
           · refine hcov j hj ?_
             by_cases hji : i = j
             · subst hji; simp [hsz] at hl
             · rwa [getD_set_ne true hji] at hl
           · refine wK ?_
             by_cases hji : i = t0
             · subst hji; exact uD
             · rwa [getD_set_ne false hji] at ht
         obtain ⟨hx, h3, kK⟩ : ∃ hx, wP P n w0 mu all (aT ds dA o.after.toList ++ l) hx o v ∧ hx.Perm h := by
           cases hwt : Region.waitsFor .any all t0 i with
           | true =>
             have ht0 : listed.getD t0 false = false := by
               cases hc : listed.getD t0 false with
               | false => rfl
               | true =>
                 obtain ⟨oj, h6, e, he, hb, heq⟩ := Region.waitsFor_spec hwt;have := inv.closed t0 oj h6 hc e he hb;rw [heq, uD] at this; cases this
             obtain ⟨x, hxp⟩ := (wK ht0).perm;have h4 := hy x;rw [hwt] at h4
             exact ⟨x ++ hp, h4, bG6.trans hxp⟩
           | false =>
             obtain ⟨x, hxp⟩ := hle.perm;have h4 := hy x;rw [hwt] at h4;exact ⟨x ++ h0, h4, bG6.trans hxp⟩
         have hgd : Good w0 mu hx w := hm.good.perm kK;replace hnext : ∀ w', Good w0 mu hx w' → wpAny P .any all Q' (f + g) (listed.setIfInBounds i true) (a.put o.dst v) w' := fun w' hG' => hnext w' (hG'.perm kK.symm);unfold wP at h3
         cases hg : o.guard with
         | none =>
           rw [hg] at h3;rw [if_pos (by simp [Region.wanted, hg])]
           exact .inl (h3 a w hkn hgd _ _ hnext)
         | some jw =>
           obtain ⟨j, want⟩ := jw;rw [hg] at h3;obtain ⟨dj, c0, b, u, hj, hb, hdj, hy, hvv⟩ := h3;have hw := jM hkn hg hj hb hdj
           cases hc : (c0 && jb b want) with
           | true =>
             rw [hc] at hw hvv;rw [if_pos hw];rw [bE8] at hc;rw [show v = u from hvv] at hnext
             exact .inl (hy hc.1 hc.2 a w hkn hgd _ _ hnext)
           | false =>
             rw [hc] at hw hvv;rw [if_neg (by rw [hw]; decide)];rw [show v = undef from hvv] at hnext
             exact hnext w hgd
       | none =>
         have hir : i ∈ r.map (·.1) := by
           rcases hcov i hik hun with ⟨v, hv⟩ | h
           · rw [CE] at hv; cases hv
           · exact h
         cases r with
         | nil => cases hir
         | cons c r =>
           obtain ⟨c, cb⟩ := c;obtain rfl : cb = false := aU5 _ _ rfl;simp only [Ef, bI5, bE8] at fC
           have hic : i = c := by
             rcases bG7.1 hir with h | h
             · exact h
             · exfalso
               obtain ⟨p, h1, h3⟩ := Xo fC.1 i h
               have h1' : p ∈ (((c, false) :: r).map (·.1)) := by
                 rcases h1 with h1 | h1
                 · rw [bJ4.1 h1]; exact bF' ..
                 · exact bF8 _ h1
               have := (hr p h1').2.1; have h5 := hwl p h3;rw [getD_both this] at h5; cases h5
           subst hic;rw [bI', bL3] at hnd;have zV : Ef all r = true := fC.2
           have hr' : ∀ j ∈ r.map (·.1), j < k ∧ (listed.setIfInBounds i true).getD j true = false ∧ lk aY j = none := fun j hj => by
             have h1 := hr j (bF8 _ hj);have hji : i ≠ j := fun e => hnd.1 (e ▸ hj);exact ⟨h1.1, by rw [getD_set_ne true hji]; exact h1.2.1, h1.2.2⟩
           have wQ : ∀ j, j < k → (listed.setIfInBounds i true).getD j true = false → (∃ v, lk aY j = some v) ∨ j ∈ r.map (·.1) := fun j hj hl => by
             by_cases hji : i = j
             · subst hji; simp [hsz] at hl
             · rw [getD_set_ne true hji] at hl
               rcases hcov j hj hl with h | h
               · exact .inl h
               · exact .inr ((bG7.1 h).resolve_left (bM2 hji))
           have hkn := nD (o := o) hds hm (dA := bz ++ aY) (fun j u hu => by
             rw [jC, NU] at hu
             cases hE : lk bz j with
             | some v => rw [hE] at hu; exact .inl hu
             | none => rw [hE] at hu; exact .inr hu) hall
           unfold Fe at hD;obtain ⟨o', ho', hD⟩ := hD;rw [ho] at ho'; cases ho';rcases hD with ⟨hds', R, ⟨hg, hE⟩, hD⟩ | ⟨hdn, h', ⟨hg, _, hSt⟩, hle', hD⟩ | ⟨hds', R, ⟨hg, hE⟩, hD⟩
           · rw [if_pos (hg _ hkn)]
             refine .inl (hE a w [] hkn (by simpa using hm.good) _ _ fun v hn w' hR hG' => ?_);rw [bF5] at hG';have hlen : ∀ x : Hp, aJ x h → aJ x (hn ++ h) := fun x hx => cZ fun b => by have := hx.cnt b; rw [fG]; omega
             refine ih r aY ((i, v) :: bz) (hn ++ h) _ _ _ hleft (inv.set hi hik) (pR hm ho hik hun hsz hd hf hG' (fun j u hu => (hS.1 j u hu).1) hEk (.inr ⟨CE, rfl⟩)) (al7 (fun u hu => by have := (hm.qE i u hu).1; rw [uD] at this; cases this) hS) (fun j u hu => ?_) hr' hnd.2 zV wQ (hlen _ hle) (fun ht => hlen _ (wK ?_)) (hD v hn hR)
             · rcases bG7.1 hu with hu | hu
               · cases hu; exact hik
               · exact hEk j u hu
             · by_cases hji : i = t0
               · subst hji; exact uD
               · rwa [getD_set_ne false hji] at ht
           · rw [if_pos (by simp [Region.wanted, hg])]
             refine .inl (hSt a w hkn hm.good _ _ fun w' hG' => ?_)
             have hmc : uN n w0 mu all l aY bz h' (listed.setIfInBounds i true) a w' := by
               refine ⟨hm.size, hm.defers, hm.has, hG', fun j u hj hl d hdj => ?_, fun j u hj => ⟨getD_set_true (hm.qE j u hj).1, (hm.qE j u hj).2⟩⟩;have hji : i ≠ j := fun e => by subst e; rw [CE] at hj; cases hj
               exact hm.wU j u hj (by rwa [getD_set_ne false hji] at hl) d hdj
             refine ih r aY bz h' _ _ _ hleft (inv.set hi hik) hmc hS hEk hr' hnd.2 zV wQ hle' (fun ht => ?_) hD;exfalso;rcases zU i hik (by simp [bF, ho, hdn]) with e | e
             · subst e
               rw [show (listed.setIfInBounds i true).getD i false = true by simp [hsz]] at ht; cases ht
             · have := getD_set_true (i := i) (hwl t0 e)
               rw [this] at ht; cases ht
           · rw [if_pos (hg _ hkn)]
             refine .inl (hE a w hkn hm.good _ _ fun v h' w' hR hG' => ?_);obtain ⟨hle', hit, hD'⟩ := hD v h' hR;refine ih r aY ((i, v) :: bz) h' _ _ _ hleft (inv.set hi hik) (pR hm ho hik hun hsz hd hf hG' (fun j u hu => (hS.1 j u hu).1) hEk (.inr ⟨CE, rfl⟩)) (al7 (fun u hu => by have := (hm.qE i u hu).1; rw [uD] at this; cases this) hS) (fun j u hu => ?_) hr' hnd.2 zV wQ hle' (fun ht => ?_) hD'
             · rcases bG7.1 hu with hu | hu
               · cases hu; exact hik
               · exact hEk j u hu
             · rcases hit with (e | e) | e
               · exfalso
                 subst e;rw [show (listed.setIfInBounds i true).getD i false = true by simp [hsz]] at ht; cases ht
               · exfalso
                 have := getD_set_true (i := i) (hwl t0 e);rw [this] at ht; cases ht
               · exact e
    intro r0
    induction r0 with
    | cons p r0 ihr =>
      obtain ⟨i, db⟩ := p
      cases db with
      | true =>
        intro aY bz h listed a w hlf inv hm hS hEk hr hnd fC hcov hle wK hD;obtain ⟨o, v, ho, hy, hD⟩ := hD;have hri := hr i (bF' ..);have hnd' := bL3.1 hnd
        exact ihr ((i, v) :: aY) bz h listed a w hlf inv (Tu hm hri.2.1 hri.2.2) (Xp hS hri.1 hri.2.2 ho hy) hEk (fun j hj => by
          have h1 := hr j (bF8 _ hj);have hji : i ≠ j := fun e => hnd'.1 (e ▸ hj);exact ⟨h1.1, h1.2.1, by rw [cO, if_neg hji]; exact h1.2.2⟩) hnd'.2 (by simpa [Ef] using fC) (fun j hj hl => by
          by_cases hji : i = j
          · subst hji; exact .inl ⟨v, by rw [cO, if_pos rfl]⟩
          · rcases hcov j hj hl with ⟨u, hu⟩ | h
            · exact .inl ⟨u, by rw [cO, if_neg hji]; exact hu⟩
            · exact .inr ((bG7.1 h).resolve_left (bM2 hji))) hle wK hD
      | false =>
        intro aY bz h listed a w hlf inv hm hS hEk hr hnd fC hcov hle wK hD
        exact STEP ((i, false) :: r0) aY bz h listed a w hlf inv hm hS hEk hr hnd fC hcov hle wK hD (fun p r e => by cases e; rfl)
    | nil =>
      intro aY bz h listed a w hlf inv hm hS hEk hr hnd fC hcov hle wK hD;exact STEP [] aY bz h listed a w hlf inv hm hS hEk hr hnd fC hcov hle wK hD (fun p r e => by cases e)
theorem Tv{ops:List Oper}(k t0:Nat)(S:List Nat)(C:List (Nat×Bool))(h0:Hp)(hB:I5 ops.toArray n k t0 S C=true)(hf:bW l (dstsOf ops.toArray k)=true)(hle0:aJ h0 hp)(hds:dB ops 0=ds)
  (h:DS P n w0 mu ops.toArray ds l h0 hp t0 (fun av6=>Fe P n w0 mu ops.toArray ds l h0 hp t0 (fun aY bz hc=>Ops P n w0 mu ops.toArray (ops.drop k) (bV ds (bz++aY)++l) hc Q) C av6 [] hp) S []):lN P n w0 mu ops.toArray l hp Q:=by
 intro a w hk hG;simp only[I5,bE8] at hB;obtain⟨⟨⟨⟨⟨hd,hback⟩,uO⟩,fC⟩,jk⟩,zU⟩:=hB;simp only[uM,bE8,decide_eq_true_eq] at uO;obtain⟨⟨hnd,hlt⟩,hcov⟩:=uO;have hlt':∀ i∈S++C.map (·.1),i<k:=fun i hi=>by have:=bF1.1 hlt i hi;simpa using this
 rw[bJ5] at hnd;obtain⟨Ig,NW,hSC⟩:=hnd;obtain⟨aY,hX,VH,yu,hsS⟩:=NV S [] Ig (fun _ _=>rfl) (fun _ _ h=>by cases h) h (fun i v hv=>by cases hv);simp only[lk,reduceCtorEq,exists_false,or_false] at yu
 have hks:k≤ops.toArray.size:=by
  simp only[uf,bG',bE8,decide_eq_true_eq] at jk;rcases jk with h | h<;>omega
 have qY:∀ i d,lk ds i=some d→bF ops.toArray i=some d:=fun i d h=>by rw[←hds] at h;have:=(lJ ops 0 i d h).2;simpa [bF] using this
 have inv0:HeadInv .any ops.toArray k (Array.replicate ops.toArray.size false):=
  ⟨by simp,fun j oj _ hl=>by9,fun t _ ht=>getD_in bD5 (getD_replicate_false _ _)⟩
 have IC:∀ i,i<k→(Array.replicate ops.toArray.size false).getD i true=false:=fun i hi=>getD_in bE6 (getD_replicate_false _ _)
 have hleft:leftOf k (Array.replicate ops.toArray.size false)=k:=by
  unfold leftOf;rw[bN1.2]
  ·simp
  ·intro i hi;simp only[IC i bB8,bI3]
 have key:=OB qY (P:=P) (n:=n) (w0:=w0) (mu:=mu) (l:=l) (hp:=hp) (h0:=h0) (all:=ops.toArray) (k:=k) (t0:=t0) (g:=ops.toArray.size-k) (Q':=QQ n w0 mu Q) (X:=fun aY bz hc=>Ops P n w0 mu ops.toArray (ops.drop k) (bV ds (bz++aY)++l) hc Q) hks hd hf hback hle0
  (fun i hi hdn=>by
   have:=bF1.1 zU i (bG2.2 hi);rw[hdn] at this;simp only[bT9,bI5,bG'] at this;rcases this with h | h
   ·exact .inl (bL8 h)
   ·exact .inr h)
  (fun aY bz h listed inv hall hX a w hmid hEk hSk VH=>by
   have xx:Knows n (bV ds (bz++aY)++l) a:=by
    refine⟨hmid.size,hmid.defers,fun t v ht=>?_⟩;rcases fV ht with ht | ⟨_,ht⟩
    ·obtain⟨j,h1,h2⟩:=jX (iU ht);rcases bH1.1 h1 with h1 | h1
     ·exact (hmid.qE j v h1).2 t (qY _ _ h2)
     ·have hj:=VH j v h1;have hjk:=hSk j v hj;refine hmid.wU j v hj ?_ t (qY _ _ h2);have h5:=hall j hjk
      cases hcc:listed.getD j false with
      | true=>rfl
      | false=>rw[getD_in bz3 hcc] at h5;cases h5
    ·exact hmid.has t v ht
   have hfin:=hX a w xx hmid.good;simp only[uf,bG',bE8,decide_eq_true_eq] at jk;rcases jk with J9 | ⟨⟨⟨xq,hs⟩,hc⟩,hseq⟩
   ·have e0:ops.drop k=[]:=bJ3 (by simp at J9;omega);rw[e0] at hfin;rw[show ops.toArray.size-k=0 by omega];refine⟨?_,hfin⟩;rw[bJ'];intro i hi;obtain⟨hun,o,ho,_⟩:=mem_ready.1 hi;have hi':i<k:=by rw[J9];exact (bH8.1 ho).1
    rw[hall i hi'] at hun;cases hun
   ·have hl:listed=(Array.replicate k true)++(Array.replicate (ops.toArray.size-k) false):=by
     apply Array.ext
     ·simp[inv.size];simp at xq;omega
     ·intro i h1 h2;by_cases hi:i<k
      ·have:=hall i hi;simp[h1] at this;rw[bQ5 bB8];simpa using this
      ·have h3:=inv.tail i bx6 bB5;simp[h1] at h3;rw[bQ2 by6];simpa using h3
    have hdl:(ops.drop k).length=ops.toArray.size-k:=by simp
    rw[←hdl]
    exact wpAny_of_seq (ops.drop k) k listed a w (fun j=>by simp) bC9 hfin)
  (fun listed inv i hi hun t ht=>by
   simp only[uf,bG',bE8,decide_eq_true_eq] at jk;rcases jk with h | ⟨⟨⟨xq,hs⟩,hc⟩,hseq⟩
   ·intro hr;obtain⟨_,o,ho,_⟩:=mem_ready.1 hr;have:=(bH8.1 ho).1;omega
   ·exact tail_waits hs hc xq inv _ i rfl hi hun t ht)
  k C aY [] hp _ a { w with drawn:=w.drawn+1 } hleft inv0 ⟨hk.size,hk.defers,hk.has,hG.drawn _,fun i v _ hl=>by9,fun i v hv=>by cases hv⟩ ⟨fun i v hv=>⟨hlt' i (bG4 _ ((yu i).1 ⟨v,hv⟩)),by
   obtain⟨o,dA,h1,h2,h3⟩:=hsS i v hv
   exact⟨o,dA,h1,fun j u hu=>.inr (h2 j u bA3),h3⟩⟩,VH⟩ (fun i v hv=>by cases hv)
  (fun i hi=>⟨hlt' i (bF7 _ hi),IC i (hlt' i (bF7 _ hi)),by
   cases hv:lk aY i with
   | none=>rfl
   | some v=>exact absurd rfl (hSC i ((yu i).1 ⟨v,hv⟩) i hi)⟩) NW fC
  (fun i hi _=>by
   have:=gW (bF1.1 hcov i (bG2.2 hi));rcases bH1.1 this with h | h
   ·exact .inl ((yu i).2 h)
   ·exact .inr h) hle0 (fun _=>aJ.refl _) hX
 have e:k+(ops.toArray.size-k)=ops.toArray.size:=by omega
 rw[e] at key;exact key
end
section
variable {n : Nat} {w0 : World} {mu : List Nat} {l : Fm} {h0 hp hc : Hp} {Q : Exit → Fm → Hp → Prop} {all : Array Oper} {aY iv bz : Fm} {k t0 i d : Nat} {ds : List (Nat × Nat)} {r : List (Nat × Bool)} {Y : Fm → Fm → Hp → Prop} {op : Op} {ty : TypeId} {pos : String} {af : Array Edge} {v : Value}
theorem qP{id:Nat}{ops tl:List Oper}(k t0:Nat)(S:List Nat)(C:List (Nat×Bool))(h0:Hp)(h:DS Tryz.prog n w0 mu ops.toArray ds l h0 hp t0 (fun av6=>Fe Tryz.prog n w0 mu ops.toArray ds l h0 hp t0 (fun aY bz hc=>Ops Tryz.prog n w0 mu ops.toArray tl (bV ds (bz++aY)++l) hc Q) C av6 [] hp) S [])
  (hle0:aJ h0 hp:=by (exact ak)) (hds:dB ops 0=ds:=by (simp only[dB,Nat.reduceAdd,bH5];rfl)) (htl:ops.drop k=tl:=by (simp only[bI4,bJ0,List.drop_nil];rfl)) (hm:Tryz.prog.follows .mixedOrders=true:=by kernel_rfl) (hB:I5 ops.toArray n k t0 S C=true:=by decide +kernel) (hf:bW l (dstsOf ops.toArray k)=true:=by rfl):St Tryz.prog n w0 mu (.region id ops.toArray true) l hp Q:=
 xm hm (Tv k t0 S C h0 hB hf hle0 hds bE4)
theorem Eg(h:Y aY bz hc):Fe Tryz.prog n w0 mu all ds l h0 hp t0 Y [] aY bz hc:=h
theorem xC(h:iD Tryz.prog n w0 mu all ds l h0 aY (fun Sv hc'=>Fe Tryz.prog n w0 mu all ds l h0 hp t0 Y r aY Sv hc') [i] bz hc):Fe Tryz.prog n w0 mu all ds l h0 hp t0 Y ((i,false)::r) aY bz hc:=by
 obtain⟨o,ho,h⟩:=h;refine⟨o,ho,?_⟩;rcases h with⟨h1,R,h2,h3⟩ | ⟨h1,h',h2,h3,h4⟩
 ·exact .inl ⟨h1,R,h2,h3⟩
 ·exact .inr (.inl ⟨h1,h',h2,h3,h4⟩)
theorem xD(h:gX Tryz.prog n w0 mu all ds l [] (fun qX=>∃ v,qX=(i,v)::(bz++aY)∧Fe Tryz.prog n w0 mu all ds l h0 hp t0 Y r ((i,v)::aY) bz hc) [i] (bz++aY)):Fe Tryz.prog n w0 mu all ds l h0 hp t0 Y ((i,true)::r) aY bz hc:=by
 obtain⟨o,v,ho,hy,v',e,h⟩:=h;cases e;exact⟨o,v,ho,hy,h⟩
end
section
variable {P : Program} {T : Tab} {n : Nat} {w0 : World} {mu : List Nat} {l : Fm} {hp : Hp} {ty : TypeId} {pos : String} {af : Array Edge} {Q : Exit → Fm → Hp → Prop} {all : Array Oper} {rest : List Oper}
theorem Eh(ok:bC P T){d sz jc m c o:Nat}{y:Operand}{z:Value}{news:List Value}(hx:ev l x=some (.slice none 0 0))(hy:ev l y=some (.slice (some ⟨a,o,none⟩) m c))(ht:lk T.sl t=some (e,sz))
  (hz:lk T.zs e=some z) (hzs:z.cells.size=sz) (hb:lk T.eb e=some jc) (hm:0<m) (hl:news.length=m*sz) (hnews:kU w0 mu hp a o news) (h63:m≤1048576) (h48:m*jc≤281474976710656):EoC P n w0 mu all l hp ⟨some d,.call { callee:=.builtin .append,args:=#[x,y],argTypes:=#[t,t] },ty,pos,af,none⟩ (fun v h'=>∃ g cap cur,Row g cap cur sz m news∧v=.slice (some ⟨g,0,none⟩) m cap∧h'=⟨g,cur,e⟩::hp):=by
 refine⟨fun a _=>by simp[Region.wanted],fun ac w hk hG K Q' hK=>?_⟩;obtain⟨hu,hsz⟩:=ok.zC ht;have hbb:=bF1.1 ok.eb _ (jB hb);simp only[beq_iff_eq] at hbb;obtain⟨i,hi,hiz,his,hib⟩:=su hsz hbb (ok.Nj hz);subst his hib;have hr:=run_append_nil (P:=P) w t ty e i z hu hi hiz ⟨a,o,none⟩ m c news hl (fun j u hj=>by rw[Addr.add_mid];exact hnews w hG j u hj) hm bx6 h48;unfold Oper.wp execOp;simp only[resolve,invoke,builtin,Sem.run_bind,Sem.run_pure,Result.andThen_ok,bM6,bI',bL',hk.ev hx,hk.ev hy,hr];have hrow:=Ci (w:=w) (z:=z) (sz:=i.size) (k:=0) (m:=m) (old:=0) (e:=e) (xs:=[]) (news:=news) hzs bx8 hl bC1;simp only[bH5,bF5,Array.empty_append] at hrow;have hG':=(hG.drawn (w.drawn+1)).alloc (news.toArray++Builtin.zeroCells z.cells (grownCap w m 0 e-m)) e;exact hK _ _ _ ⟨_,_,_,hrow,rfl,rfl⟩ hG'
theorem Ei(ok:bC P T){d sz jc m c o g cap:Nat}{cur:Array Value}{y:Operand}{z:Value}{xs news:List Value}{hp':Hp}(hx:ev l x=some (.slice (some ⟨g,0,none⟩) k cap))(hy:ev l y=some (.slice (some ⟨a,o,none⟩) m c))(ht:lk T.sl t=some (e,sz))
  (hz:lk T.zs e=some z) (hzs:z.cells.size=sz) (hb:lk T.eb e=some jc) (hperm:(⟨g,cur,e⟩::hp').Perm hp) (hown:Row g cap cur sz k xs) (hl:news.length=m*sz) (hnews:kU w0 mu hp a o news) (h1:news.all (·.oneCell')=true) (h63:k+m≤1048576) (h48:(k+m+(k+m)/4+192)*jc≤281474976710656):EoC P n w0 mu all l hp ⟨some d,.call { callee:=.builtin .append,args:=#[x,y],argTypes:=#[t,t] },ty,pos,af,none⟩ (fun v h'=>∃ g cap cur,Row g cap cur sz (k+m) (xs++news)∧v=.slice (some ⟨g,0,none⟩) (k+m) cap∧h'=⟨g,cur,e⟩::hp'):=by
 refine⟨fun a _=>by simp[Region.wanted],fun ac w hk hG K Q' hK=>?_⟩;obtain⟨hu,hsz⟩:=ok.zC ht;have hbb:=bF1.1 ok.eb _ (jB hb);simp only[beq_iff_eq] at hbb;obtain⟨i,hi,hiz,his,hib⟩:=su hsz hbb (ok.Nj hz);subst his hib;have hG':=hG.perm hperm;have hg:=hG'.here _ (bF' ..);have hn:∀ j u,news[j]?=some u→w.cell? ((⟨a,o,none⟩:Addr).add j)=some u:=fun j u hj=>by rw[Addr.add_mid];exact hnews w hG j u hj
 by_cases hroom:k+m≤cap
 ·have hfit:k*i.size+news.length≤cur.size:=by rw[hl,hown.size,←bO2];exact bH' _ hroom
  have hr:=run_append_room (P:=P) w t ty e i hu hi g k cap cur hg ⟨a,o,none⟩ m c news hl hn (fun u hu=>bF1.1 h1 u hu) hroom hfit;unfold Oper.wp execOp;simp only[resolve,invoke,builtin,Sem.run_bind,Sem.run_pure,Result.andThen_ok,bM6,bI',bL',hk.ev hx,hk.ev hy,hr];refine hK _ _ _ ⟨_,_,_,⟨?_,hroom,hown.max,?_,?_⟩,rfl,rfl⟩ (hG'.row _)
  ·rw[bG9,hown.len,hl,bO2]
  ·have:=hown.size;simp only[bS4,bG9,bI1,bK8,bR5];omega
  ·rw[hown.take,show (k+m)*i.size=(xs++news).length by rw[bG9,hown.len,hl,bO2]];exact bV4
 ·have holds:∀ j u,xs[j]?=some u→w.cell? ((⟨g,0,none⟩:Addr).add j)=some u:=by
   intro j u hj;rw[Addr.add_mid,cell_of_block hg];rw[←hown.take,bK2] at hj;split at hj
   ·simpa using hj
   ·cases hj
  have hr:=run_append_grow (P:=P) w t ty e i z hu hi hiz ⟨g,0,none⟩ k cap xs hown.len holds ⟨a,o,none⟩ m c news hl hn bx6 bx6 (growslice_fits_wide bx6 h48);unfold Oper.wp execOp;simp only[resolve,invoke,builtin,Sem.run_bind,Sem.run_pure,Result.andThen_ok,bM6,bI',bL',hk.ev hx,hk.ev hy,hr];have hG2:=((hG'.sub (hp':=hp') (List.sublist_cons_self _ _)).drawn (w.drawn+1)).alloc (xs.toArray++news.toArray++Builtin.zeroCells z.cells (grownCap w (k+m) cap e-(k+m))) e;have hrow:=Ci (w:=w) (k:=k) (m:=m) (old:=cap) (e:=e) hzs hown.len hl bC1;exact hK _ _ _ ⟨_,_,_,hrow,rfl,rfl⟩ hG2
end
theorem QF{P:Program}{w0:World}{mu:List Nat}{hp:Hp}{o:Oper}{R R':RT}(h:EoC P n w0 mu all l hp o R)(hr:∀ v h',R v h'→∃ h2,R' v h2∧h2.Perm h'):EoC P n w0 mu all l hp o R':=
 ⟨h.1,fun a w hk hG K Q hK=>h.2 a w hk hG K Q fun v h' w' hR hG'=>by
  obtain⟨h2,h3,h4⟩:=hr v h' hR
  exact hK v h2 w' h3 (hG'.perm h4)⟩
section
variable {n : Nat} {w0 : World} {mu : List Nat} {l : Fm} {h0 hp hc : Hp} {all : Array Oper} {ds : List (Nat × Nat)} {t0 : Nat} {aY bz : Fm} {Y : Fm → Fm → Hp → Prop} {i d : Nat} {r : List (Nat × Bool)} {ty : TypeId} {pos : String} {af : Array Edge}
theorem Xq{sz jc cc:Nat}{y:Operand}{z:Value}{c:List Value}{ha hp':Hp}{xs:List (List Value)}(hA:Acc e sz v ha xs)(hnews:kU w0 mu hc a 0 c)(h63:xs.length<1000000)(hperm:(ha++hp').Perm hc)(hle:aJ h0 hp')
  (h:∀ v' ha',Acc e sz v' ha' (xs++[c])→Fe Tryz.prog n w0 mu all ds l h0 hp t0 Y r aY ((i,v')::bz) (ha'++hp')) (ho:all[i]?=some ⟨some d,.call { callee:=.builtin .append,args:=#[x,y],argTypes:=#[t,t] },ty,pos,af,none⟩:=by rfl) (hit:(i=t0∨Region.waitsFor .any all i t0=true)∨aJ hp hp':=by exact .inl (.inl rfl))
  (hx:ev (aT ds (bz++aY) af.toList++l) x=some v:=by rfl) (hy:ev (aT ds (bz++aY) af.toList++l) y=some (.slice (some ⟨a,0,none⟩) 1 cc):=by rfl) (ht:lk Tb.sl t=some (e,sz):=by rfl)
  (hz:lk Tb.zs e=some z:=by rfl) (hzs:z.cells.size=sz:=by rfl) (hb:lk Tb.eb e=some jc:=by rfl) (hby:Nat.ble jc 4096=true:=by rfl) (hl:c.length=sz:=by rfl) (h1:c.all (·.oneCell')=true:=by rfl):Fe Tryz.prog n w0 mu all ds l h0 hp t0 Y ((i,false)::r) aY bz hc:=by
 have uw:jc≤4096:=bJ2 hby
 have hall:∀ c'∈xs++[c],c'.length=sz∧c'.all (·.oneCell')=true:=by
  intro c' hc';rcases bH1.1 hc' with hc' | hc'
  ·exact hA.1 c' hc'
  ·obtain rfl:=bJ4.1 hc';exact⟨hl,h1⟩
 rcases hA.2 with⟨rfl,rfl,rfl⟩ | ⟨hne,g,cap,cur,rfl,rfl,hrow⟩
 ·refine⟨_,ho,.inr (.inr ⟨rfl,fun v h'=>∃ g cap cur,Row g cap cur sz 1 c∧v=.slice (some ⟨g,0,none⟩) 1 cap∧h'=⟨g,cur,e⟩::hp',QF (Eh aB hx hy ht hz hzs hb bx6 bA9 hnews bx6 bx6) ?_,?_⟩)⟩
  ·rintro _ _ ⟨g,cap,cur,hr,rfl,rfl⟩;exact⟨_,⟨g,cap,cur,hr,rfl,rfl⟩,(hperm.cons _:(⟨g,cur,e⟩::([]++hp')).Perm (⟨g,cur,e⟩::hc))⟩
  rintro _ _ ⟨g,cap,cur,hr,rfl,rfl⟩;refine⟨?_,hit.imp id fun h2=>cZ fun b=>?_,?_⟩
  ·refine cZ fun b=>?_;have:=hle.cnt b;rw[bG];omega
  ·have:=h2.cnt b;show _≤nP b (⟨g,cur,e⟩::hp');rw[bG];omega
  ·exact h (.slice (some ⟨g,0,none⟩) 1 cap) [⟨g,cur,e⟩] ⟨hall,.inr ⟨by simp,g,cap,cur,rfl,rfl,by simpa using hr⟩⟩
 ·refine⟨_,ho,.inr (.inr ⟨rfl,_,Ei aB hx hy ht hz hzs hb hperm hrow bA9 hnews h1 bx6 ?_,?_⟩)⟩
  ·have h2:(xs.length+1+(xs.length+1)/4+192)≤2000000:=by omega
   calc _≤2000000*jc:=bH' _ h2
    _≤2000000*4096:=bO' _ uw
    _≤_:=by decide
  rintro _ _ ⟨g,cap,cur,hr,rfl,rfl⟩;refine⟨?_,hit.imp id fun h2=>cZ fun b=>?_,?_⟩
  ·refine cZ fun b=>?_;have:=hle.cnt b;show _≤nP b (⟨g,cur,e⟩::hp');rw[bG];omega
  ·have:=h2.cnt b;show _≤nP b (⟨g,cur,e⟩::hp');rw[bG];omega
  ·exact h (.slice (some ⟨g,0,none⟩) (xs.length+1) cap) [⟨g,cur,e⟩] ⟨hall,.inr ⟨by simp,g,cap,cur,by simp,rfl,by simpa using hr⟩⟩
end
end
section
attribute [local irreducible] Hy St Ops DH dI jr iP gX DS iD lV
def rE(ws:List Nat)(pages:List oZ)(lv tb at_:Nat):Bool:=decide (ws.getD ((lv+tb)*8+at_) 0=(kG pages lv tb at_).word 2 lv)
def kS(lv:Nat):Nat:=if lv=3 then 8 else 1
def Ej(ws:List Nat)(pages:List oZ):Bool:=(List.range 4).all fun lv=>(List.range (kS lv)).all fun tb=>(List.range 8).all fun at_=>rE ws pages lv tb at_
theorem Em{ws:List Nat}{pages:List oZ}(h:∀ lv,lv<4→∀ tb,tb<kS lv→∀ a,a<8→rE ws pages lv tb a=true):Ej ws pages=true:=
 bF1.2 fun lv hl=>bF1.2 fun tb ht=>bF1.2 fun a ha=>h lv (bG2.1 hl) tb (bG2.1 ht) a (bG2.1 ha)
theorem KW{ws:List Nat}{pages:List oZ}(h:Ej ws pages=true){lv tb:Nat}(hl:lv<4)(ht:tb<kS lv)(ha:a<8):rE ws pages lv tb a=true:=
 bF1.1 (bF1.1 (bF1.1 h lv (bG2.2 hl)) tb (bG2.2 ht)) a (bG2.2 ha)
theorem KX{ws:List Nat}{pages:List oZ}{lv tb:Nat}(hl:lv<4)(ht:tb<kS lv)(ha:a<8)(h:rE ws pages lv tb a=false):Ej ws pages=false:=by
 cases hh:Ej ws pages with
 | false=>rfl
 | true=>have:=KW hh hl ht ha;rw[h] at this;cases this
theorem OD{pages:List oZ}(qA:∀ a∈pages,-1≤a.own∧a.own≤14){lv tb at_:Nat}(hl:lv<4)(ht:tb<8)(ha:at_<8):(kG pages lv tb at_).may 2 lv=true:=by
 unfold kG;by_cases e3:lv=3
 ·subst e3;simp only[decide_true,cond_true];unfold dw
  cases hd:decide (tb*8+at_<pages.length) with
  | false=>exact uX _ _
  | true=>
   have:=qA _ (getD_mem (of_decide_eq_true hd));exact KR bx6 this.1 this.2
 ·rw[decide_eq_false e3,cond_false];by_cases e2:lv=2
  ·rw[decide_eq_true e2,cond_true];exact yJ bx6 bx6 bx6
  ·rw[decide_eq_false e2,cond_false]
   cases decide (at_=0) with
   | true=>exact yJ bx6 bx6 bx6
   | false=>exact uX _ _
theorem Xr{X:Nat}{wv:Value}{ws:List Nat}(h0:w.rangeAt X 0 [wv])(hs:aA w wv 1 (ws.map uV))(hF:16≤ws.length/8){pv gv ov:Value}(pages:List oZ)(hp:aA w pv 2 (pages.map sQ))(qA:∀ a∈pages,-1≤a.own∧a.own≤14):Fn Tryz.prog 61 [.pointer (some ⟨X,0,none⟩),.agg #[pv,gv,ov]].toArray w [] (fun u _=>u=.bool (Ej ws pages)):=by
 have h0':=aj h0;obtain⟨q,cap,rfl,hne,_⟩:=hs.opened;obtain⟨b,o,rfl⟩:=hne (by intro e;rw[e] at hF;simp at hF);refine enter Tryz.func61 ?_;refine run ?_;intro Q;refine az (fun wc hG=>KU wc) ?_;refine run ?_;refine aK (σ:=Nat) (fun k=>[(13,.int .i64 (k:Int)),(5,.int .i64 ((if k=4 then 11 else k:Nat):Int))]) (fun _=>[⟨Q,#[pv,gv,ov],48⟩]) (fun k=>k≤4∧∀ lv,lv<k→∀ tb,tb<kS lv→∀ a,a<8→rE ws pages lv tb a=true) (fun k=>4-k) 0 ⟨bF4 _,fun lv hl=>absurd hl (bI2 _)⟩ ?_;rintro k m hm ⟨hk,hK⟩;refine run ?_;refine ah _ rfl (fun hc=>?_) (fun hc=>?_)
 rotate_left
 ·have hk4:k=4:=by simp at hc;omega
  subst hk4;refine run ?_;refine fin1 ?_;rw[Em hK]
 have hk3:k<4:=by simp at hc;omega
 rw[if_neg (by omega:¬ k=4)];refine run ?_;refine jI by5 (Ee rfl rfl rfl rfl bx6 bx6 (Xm k hk3)) ?_;rw[show (if k=3 then (8:Int) else 1)=((kS k:Nat):Int) by unfold kS;split<;>rfl];have hN8:kS k≤8:=by unfold kS;split<;>decide
 refine run ?_;refine aK (σ:=Nat) (fun t=>[(18,.int .i64 (t:Int)),(5,.int .i64 ((k+t:Nat):Int))]) (fun _=>[⟨Q,#[pv,gv,ov],48⟩]) (fun t=>t≤kS k∧∀ tb,tb<t→∀ a,a<8→rE ws pages k tb a=true) (fun t=>kS k-t) 0 ⟨bF4 _,fun tb ht=>absurd ht (bI2 _)⟩ ?_;rintro t m2 hm2 ⟨ht,hT⟩;refine run ?_;refine ah _ rfl (fun hc2=>?_) (fun hc2=>?_)
 rotate_left
 ·have hte:t=kS k:=by simp at hc2;omega
  subst hte;refine run ?_;refine aF (k+1) ⟨hk3,fun lv hl=>?_⟩ (h1:=?_)
  ·by_cases e:lv=k
   ·subst e;exact hT
   ·exact hK lv bx6
  ·rw[show (if k+1=4 then 11 else k+1)=k+kS k by unfold kS;split<;>split<;>omega]
   (repeat (first | exact True.intro | (refine And.intro bz0 ?_)))
 have ht8:t<kS k:=by simp at hc2;omega
 refine run ?_;refine aK (σ:=Nat) (fun a=>[(21,.int .i64 (a:Int))]) (fun _=>[⟨Q,#[pv,gv,ov],48⟩]) (fun a=>a≤8∧∀ a',a'<a→rE ws pages k t a'=true) (fun a=>8-a) 0 ⟨bF4 _,fun a ha=>absurd ha (bI2 _)⟩ ?_;rintro a m3 QG ⟨ha,hA⟩;refine run ?_;refine ah _ rfl (fun hc3=>?_) (fun hc3=>?_)
 rotate_left
 ·have hae:a=8:=by simp at hc3;omega
  subst hae;refine run ?_;refine aF (t+1) ⟨ht8,fun tb hl=>?_⟩;by_cases e:tb=t
  ·subst e;exact hA
  ·exact hT tb bx6
 have ha8:a<8:=by simp at hc3;omega
 have hkt:k+t≤10:=by unfold kS at ht8;split at ht8<;>omega
 have hlt:(k+t)*8+a<ws.length:=by omega
 have hr:=aj (hs.row hlt);simp only[bH6] at hr;have hmay:=OD (lv:=k) (tb:=t) (at_:=a) qA hk3 bx6 ha8;refine run ?_;refine az (fun wc hG=>Tq X pages (hp.good hG) qA k t a hk3 bx6 ha8) ?_;refine run ?_;refine az (fun wc hG=>IP 2 (.inr rfl) k hk3 (kG pages k t a) wc) ?_;rw[hmay,cond_true,cond_true];refine run ?_
 have hWe:rE ws pages k t a=decide (((ws.getD ((k+t)*8+a) default:Nat):Int)=(((kG pages k t a).word 2 k:Nat):Int)):=by
  unfold rE;rw[bF3];simp only[decide_eq_true_eq];exact bV8.symm
 refine ah _ rfl (fun hc4=>?_) (fun hc4=>?_)
 ·rw[←hWe] at hc4;have hf:rE ws pages k t a=false:=by simpa using hc4
  rw[KX hk3 ht8 ha8 hf];refine run ?_;exact fin1 rfl
 ·rw[←hWe] at hc4;have hf:rE ws pages k t a=true:=by simpa using hc4
  refine run ?_;refine aF (a+1) ⟨ha8,fun a' hl=>?_⟩;by_cases e:a'=a
  ·subst e;exact hf
  ·exact hA a' bx6
end
section
open Go.ChangeShapes Go.WideShapes Go.ChangeAt Go.RowKit
theorem iL(h:okW (.i .u64) v=true):∃ a:Nat,v=.int .u64 (a:Int)∧a<18446744073709551616:=by
 cases v<;>simp only[okW,bE8,decide_eq_true_eq,bL6] at h;obtain⟨rfl,h⟩:=h;rename_i n;simp only[Lit.wf,bE8,decide_eq_true_eq] at h;have h0:0≤n:=Int.le_trans bx7 h.1;have h1:n≤18446744073709551615:=Int.le_trans h.2 bx7;exact⟨n.toNat,by rw[Int.toNat_of_nonneg h0],by omega⟩
theorem Xt{cs:List Value}(h:jA [.i .i64,.i .i64,.i .i64,.b,.i .i64,.i .i64,.i .i64,.i .i64,.b,.b,.b,.b,.b,.i .i64] cs=true):∃ e:fE,cs=iw e∧True:=by
 obtain⟨_,_,rfl,h0,r0⟩:=aH h;obtain⟨_,_,rfl,h1,r1⟩:=aH r0;obtain⟨_,_,rfl,h2,r2⟩:=aH r1;obtain⟨_,_,rfl,h3,r3⟩:=aH r2;obtain⟨_,_,rfl,h4,r4⟩:=aH r3;obtain⟨_,_,rfl,h5,r5⟩:=aH r4;obtain⟨_,_,rfl,h6,r6⟩:=aH r5;obtain⟨_,_,rfl,h7,r7⟩:=aH r6;obtain⟨_,_,rfl,h8,r8⟩:=aH r7;obtain⟨_,_,rfl,h9,r9⟩:=aH r8;obtain⟨_,_,rfl,h10,r10⟩:=aH r9;obtain⟨_,_,rfl,h11,r11⟩:=aH r10;obtain⟨_,_,rfl,h12,r12⟩:=aH r11;obtain⟨_,_,rfl,h13,r13⟩:=aH r12;obtain⟨a0,rfl,_⟩:=kQ h0;obtain⟨a1,rfl,_⟩:=kQ h1;obtain⟨a2,rfl,_⟩:=kQ h2;obtain⟨a3,rfl⟩:=Ba h3;obtain⟨a4,rfl,_⟩:=kQ h4;obtain⟨a5,rfl,_⟩:=kQ h5;obtain⟨a6,rfl,_⟩:=kQ h6;obtain⟨a7,rfl,_⟩:=kQ h7;obtain⟨a8,rfl⟩:=Ba h8;obtain⟨a9,rfl⟩:=Ba h9;obtain⟨a10,rfl⟩:=Ba h10;obtain⟨a11,rfl⟩:=Ba h11;obtain⟨a12,rfl⟩:=Ba h12;obtain⟨a13,rfl,_⟩:=kQ h13;obtain rfl:=kM r13;exact⟨⟨a0,a1,a2,a3,a4,a5,a6,a7,a8,a9,a10,a11,a12,a13⟩,rfl,trivial⟩
theorem Xu{cs:List Value}(h:jA [.i .i64,.i .i64,.i .i64,.i .i64] cs=true):∃ e:jv,cs=kZ e∧True:=by
 obtain⟨_,_,rfl,h0,r0⟩:=aH h;obtain⟨_,_,rfl,h1,r1⟩:=aH r0;obtain⟨_,_,rfl,h2,r2⟩:=aH r1;obtain⟨_,_,rfl,h3,r3⟩:=aH r2;obtain⟨a0,rfl,_⟩:=kQ h0;obtain⟨a1,rfl,_⟩:=kQ h1;obtain⟨a2,rfl,_⟩:=kQ h2;obtain⟨a3,rfl,_⟩:=kQ h3;obtain rfl:=kM r3;exact⟨⟨a0,a1,a2,a3⟩,rfl,trivial⟩
def Am.Fits(r:Am):Prop:=r.x0<18446744073709551616∧r.x1<18446744073709551616∧r.x2<18446744073709551616∧r.x3<18446744073709551616∧r.x4<18446744073709551616∧r.x5<18446744073709551616∧r.x6<18446744073709551616∧r.x7<18446744073709551616∧r.pc<18446744073709551616∧r.Xf<18446744073709551616∧r.KP<18446744073709551616∧r.Xg<18446744073709551616∧r.elr<18446744073709551616∧r.esr<18446744073709551616∧r.far<18446744073709551616
theorem QH{cs:List Value}(h:jA [.i .u64,.i .u64,.i .u64,.i .u64,.i .u64,.i .u64,.i .u64,.i .u64,.i .u64,.i .u64,.i .u64,.i .u64,.i .u64,.i .u64,.i .u64] cs=true):∃ r:Am,cs=nY r∧r.Fits:=by
 obtain⟨_,_,rfl,h0,r0⟩:=aH h;obtain⟨_,_,rfl,h1,r1⟩:=aH r0;obtain⟨_,_,rfl,h2,r2⟩:=aH r1;obtain⟨_,_,rfl,h3,r3⟩:=aH r2;obtain⟨_,_,rfl,h4,r4⟩:=aH r3;obtain⟨_,_,rfl,h5,r5⟩:=aH r4;obtain⟨_,_,rfl,h6,r6⟩:=aH r5;obtain⟨_,_,rfl,h7,r7⟩:=aH r6;obtain⟨_,_,rfl,h8,r8⟩:=aH r7;obtain⟨_,_,rfl,h9,r9⟩:=aH r8;obtain⟨_,_,rfl,h10,r10⟩:=aH r9;obtain⟨_,_,rfl,h11,r11⟩:=aH r10;obtain⟨_,_,rfl,h12,r12⟩:=aH r11;obtain⟨_,_,rfl,h13,r13⟩:=aH r12;obtain⟨_,_,rfl,h14,r14⟩:=aH r13;obtain⟨a0,rfl,b0⟩:=iL h0;obtain⟨a1,rfl,b1⟩:=iL h1;obtain⟨a2,rfl,b2⟩:=iL h2;obtain⟨a3,rfl,b3⟩:=iL h3;obtain⟨a4,rfl,b4⟩:=iL h4;obtain⟨a5,rfl,b5⟩:=iL h5;obtain⟨a6,rfl,b6⟩:=iL h6;obtain⟨a7,rfl,b7⟩:=iL h7;obtain⟨a8,rfl,b8⟩:=iL h8;obtain⟨a9,rfl,b9⟩:=iL h9;obtain⟨a10,rfl,b10⟩:=iL h10;obtain⟨a11,rfl,b11⟩:=iL h11;obtain⟨a12,rfl,b12⟩:=iL h12;obtain⟨a13,rfl,b13⟩:=iL h13;obtain⟨a14,rfl,b14⟩:=iL h14;obtain rfl:=kM r14;exact⟨⟨a0,a1,a2,a3,a4,a5,a6,a7,a8,a9,a10,a11,a12,a13,a14⟩,rfl,b0,b1,b2,b3,b4,b5,b6,b7,b8,b9,b10,b11,b12,b13,b14⟩
theorem QI{cs:List Value}(h:jA [.b] cs=true):∃ b,cs=[.bool b]:=by
 obtain⟨_,_,rfl,h1,r⟩:=aH h;obtain⟨a,rfl⟩:=Ba h1;obtain rfl:=kM r;exact⟨a,rfl⟩
section
variable {H : Type} {enc : TypeId × Value → H} {w : World} {base : Nat} {spare : Nat → Bool} {held : Bool}
theorem OE{cs:List Value}{x:DataW H×List MemPlace}(h:DataW.trod enc Tryz.prog w base spare held fuel 22 cs=some x)(hz:Fq Tryz.prog 22 x.1):∃ v,∃ xs:List Nat,cs=[v]∧aA w v 1 (xs.map uV)∧(∀ a∈xs,a<18446744073709551616)∧xs.length≤reachBytes:=
 ni (ks:=[.i .u64]) Tryz.underlying22 bz2 bz2 bx7 bz2 (fun cs h=>by
  obtain⟨_,_,rfl,h1,h⟩:=aH h;obtain rfl:=kM h;obtain⟨a,rfl,ha⟩:=iL h1
  exact⟨a,rfl,ha⟩) h hz
theorem En{cs:List Value}{x:DataW H×List MemPlace}(h:DataW.trod enc Tryz.prog w base spare held fuel 59 cs=some x)(hz:Fq Tryz.prog 59 x.1):∃ v,∃ xs:List Int,cs=[v]∧aA w v 1 (xs.map bY)∧(∀ a∈xs,I64 a)∧xs.length≤reachBytes:=
 ni (ks:=[.i .i64]) Tryz.underlying59 bz2 bz2 bx7 bz2 (fun cs h=>by
  obtain⟨_,_,rfl,h1,h⟩:=aH h;obtain rfl:=kM h;obtain⟨a,rfl,ha⟩:=kQ h1
  exact⟨a,rfl,ha⟩) h hz
theorem Eo{t e:TypeId}{p:Option Addr}{c:Nat}{x:DataW H×List MemPlace}(ht:Tryz.prog.underlying t=some (.slice e))(h:DataW.trod enc Tryz.prog w base spare held fuel t [.slice p n c]=some x):n≤c:=by
 rcases Go.Deep.open_slice ht h with⟨hc,_⟩ | ⟨a,len,cap,m,k,D,Pl,hc,hb,hl,hm,hmm,hxx,hx⟩
 ·injection hc with hc
  injection hc with _ h1 h2
  omega
 ·injection hc with hc
  injection hc with _ h1 h2
  omega
theorem open_entries{cs:List Value}{x:DataW H×List MemPlace}(h:DataW.trod enc Tryz.prog w base spare held fuel 69 cs=some x)(hz:Fq Tryz.prog 69 x.1):∃ v,∃ xs:List fE,cs=[v]∧aA w v 14 (xs.map iw)∧(∀ a∈xs,True)∧xs.length≤reachBytes:=
 ni (f:=iw) (q:=fun _=>True) (ks:=[.i .i64,.i .i64,.i .i64,.b,.i .i64,.i .i64,.i .i64,.i .i64,.b,.b,.b,.b,.b,.i .i64]) Tryz.underlying69 bz2 (aB.zH (t:=80) (s:=14) rfl) bx7 bz2 (fun cs hc=>Xt hc) h hz
theorem KY{cs:List Value}{x:DataW H×List MemPlace}(h:DataW.trod enc Tryz.prog w base spare held fuel 70 cs=some x)(hz:Fq Tryz.prog 70 x.1):∃ v,∃ xs:List jv,cs=[v]∧aA w v 4 (xs.map kZ)∧(∀ a∈xs,True)∧xs.length≤reachBytes:=
 ni (f:=kZ) (q:=fun _=>True) (ks:=[.i .i64,.i .i64,.i .i64,.i .i64]) Tryz.underlying70 bz2 (aB.zH (t:=127) (s:=4) rfl) bx7 bz2 (fun cs hc=>Xu hc) h hz
theorem Xv{cs:List Value}{x:DataW H×List MemPlace}(h:DataW.trod enc Tryz.prog w base spare held fuel 72 cs=some x)(hz:Fq Tryz.prog 72 x.1):∃ t:uk,cs=Tj t∧(aA w t.ev 14 (t.es.map iw)∧aA w t.dv 4 (t.ds.map kZ)∧t.es.length≤t.ec∧t.es.length≤reachBytes∧t.ds.length≤reachBytes):=by
 obtain⟨hl,n,hf⟩:=lQ Tryz.underlying72 h hz;rw[jD (show fK Tryz.prog 72=some 2 from aB.zH rfl)] at hl
 match cs,hl with
 | [c0,c1],_=>
  have c1s:Tryz.prog.cellsOf 69=1:=by kernel_rfl
  have c2s:Tryz.prog.cellsOf 70=1:=by kernel_rfl
  obtain⟨_,h0,z0⟩:=hf 0 _ rfl;obtain⟨_,h1,z1⟩:=hf 1 _ rfl;simp only[bQ7,bP',bQ0,c1s,c2s,bJ0,bI4,bI7,bK1] at h0 h1 z0 z1;obtain⟨v0,es,e0,s0,_,l0⟩:=open_entries h0 z0;obtain⟨v1,ds,e1,s1,_,l1⟩:=KY h1 z1;cases e0;cases e1;obtain⟨p0,k0,rfl,_,_⟩:=s0.opened;obtain⟨p1,k1,rfl,_,_⟩:=s1.opened;exact⟨⟨es,ds,p0,k0,p1,k1⟩,rfl,s0,s1,Eo Tryz.underlying69 h0,l0,l1⟩
theorem OG{cs:List Value}{x:DataW H×List MemPlace}(h:DataW.trod enc Tryz.prog w base spare held fuel 27 cs=some x)(hz:Fq Tryz.prog 27 x.1):∃ v,∃ xs:List Am,cs=[v]∧aA w v 15 (xs.map nY)∧(∀ a∈xs,a.Fits)∧xs.length≤reachBytes:=
 ni (f:=nY) (q:=Am.Fits) (ks:=[.i .u64,.i .u64,.i .u64,.i .u64,.i .u64,.i .u64,.i .u64,.i .u64,.i .u64,.i .u64,.i .u64,.i .u64,.i .u64,.i .u64,.i .u64]) Tryz.underlying27 bz2 (aB.zH (t:=68) (s:=15) rfl) bx7 bz2 (fun cs hc=>QH hc) h hz
end
end
def lU(ws:List Nat)(root:Int)(q:Nat):Option (List jR):=
 let W:=aQ ws root q 3
 bif !W.ok then none else bif decide (W.d.kind=2) then some [⟨(q:Int),W.d.frame+((q%au W.lv:Nat):Int)⟩] else some []
def dL(ws:List Nat)(root:Int)(q:Nat):Nat→Option (List jR)
 | 0=>some []
 | n+1=>match dL ws root q n with
  | none=>none
  | some xs=>match lU ws root (q+n) with
   | none=>none
   | some ys=>some (xs++ys)
theorem wF(ws:List Nat)(root:Int)(q m:Nat):∀ n,dL ws root q (m+n)=match dL ws root q m with
  | none=>none
  | some xs=>match dL ws root (q+m) n with
   | none=>none
   | some ys=>some (xs++ys):=by
 intro n
 induction n with
 | zero=>
  rw[bI8]
  cases dL ws root q m with
  | none=>rfl
  | some xs=>simp[dL]
 | succ n ih=>
  rw[←bS3,dL,ih,dL]
  cases dL ws root q m with
  | none=>rfl
  | some xs=>
   dsimp only
   cases dL ws root (q+m) n with
   | none=>rfl
   | some ys=>
    dsimp only;rw[←bS3]
    cases lU ws root (q+m+n) with
    | none=>rfl
    | some zs=>simp
theorem KZ{ws:List Nat}{root:Int}{q:Nat}(h:lU ws root (q+k)=none)(hk:k<n):dL ws root q n=none:=by
 have e:n=k+(1+(n-k-1)):=by omega
 rw[e,wF]
 cases dL ws root q k with
 | none=>rfl
 | some xs=>
  dsimp only;rw[wF];have:dL ws root (q+k) 1=none:=by rw[dL,dL,bI8,h]
  rw[this]
def rF(q:Nat)(f:Int):Nat→List jR
 | 0=>[]
 | n+1=>rF q f n++[⟨((q+n:Nat):Int),f+(n:Int)⟩]
theorem yV(q:Nat)(f:Int)(n:Nat):(rF q f n).length=n:=by
 induction n with
 | zero=>rfl
 | succ n ih=>rw[rF,bG9,ih];rfl
theorem La{ws:List Nat}{root:Int}{q:Nat}{W:qM}(hok:W.ok=true)(hk:W.d.kind=2)(hq:q%au W.lv=0):∀ n,n≤au W.lv→(∀ j,j<n→aQ ws root (q+j) 3=W)→dL ws root q n=some (rF q W.d.frame n):=by
 intro n
 induction n with
 | zero=>intro _ _;rfl
 | succ n ih=>
  intro hn h;rw[dL,ih bx6 (fun j hj=>h j bx6)]
  have hp:lU ws root (q+n)=some [⟨((q+n:Nat):Int),W.d.frame+(n:Int)⟩]:=by
   unfold lU;rw[h n bx6]
   have hm:(q+n)%au W.lv=n:=by
    rw[Nat.add_mod,hq,bH5,Nat.mod_mod,Nat.mod_eq_of_lt bx6]
   simp only[hok,hk,decide_true,bH3,cond_false,cond_true,hm]
  rw[hp];rfl
theorem Xw{ws:List Nat}{root:Int}{q:Nat}{W:qM}(hok:W.ok=true)(hk:W.d.kind≠2):∀ n,(∀ j,j<n→aQ ws root (q+j) 3=W)→dL ws root q n=some []:=by
 intro n
 induction n with
 | zero=>intro _;rfl
 | succ n ih=>
  intro h;rw[dL,ih (fun j hj=>h j bx6)]
  have hp:lU ws root (q+n)=some []:=by
   unfold lU;rw[h n bx6];simp[hok,hk]
  rw[hp];rfl
def Bf(ws:List Nat)(root f:Int)(level page:Nat):Prop:=
 ∃ fs d,fs.length=level∧∀ j,j<8*au level→aQ ws root (page+j) 3=bT ws (page+j) 3 (4-level) level f fs d
theorem OH{j:Nat}(hl:level<4)(hp:page%(8*au level)=0)(hi:i<8)(hj:j<au level):l7 level (page+(i*au level+j))=i:=by
 have hc:=fH hl;unfold l7;rw[bM7];have e:2 ^ lS level=au level:=by unfold au;rw[Nat.one_shiftLeft]
 rw[e];generalize au level=c at hc hp hj;obtain⟨m,hm⟩:=bO8 hp;have h0:8*c*m=c*(8*m):=by rw[bN7 8 c,Nat.mul_assoc]
 have h2:page+(i*c+j)=j+c*(8*m+i):=by
  rw[hm,h0,Nat.mul_add,bN7 i c];generalize c*(8*m)=u;generalize c*i=v;omega
 have h1:(page+(i*c+j))/c=8*m+i:=by
  rw[h2,Nat.add_mul_div_left _ _ bx6,Nat.div_eq_of_lt hj,bH5]
 rw[h1];omega
theorem yX{ws:List Nat}{root f:Int}{fs:List Int}{d0:DsD}(hl:level<4)(hp:page%(8*au level)=0)(hi:i<8)(hf:bK ws.length f=true)
  (h:∀ j,j<8*au level→aQ ws root (page+j) 3=bT ws (page+j) 3 (4-level) level f fs d0) {j:Nat} (hj:j<au level):
  aQ ws root (page+i*au level+j) 3=bif !decide ((gJ ws (f.toNat*8+i) level).kind=1)||decide (level=3) then ⟨fs++[f],gJ ws (f.toNat*8+i) level,true⟩
   else bT ws (page+i*au level+j) 3 (3-level) (level+1) (gJ ws (f.toNat*8+i) level).frame (fs++[f]) (gJ ws (f.toNat*8+i) level):=by
 have hij:i*au level+j<8*au level:=by
  have:i*au level≤7*au level:=bH' _ bx6;omega
 have h1:=h (i*au level+j) hij;have hx:=OH hl hp hi hj;rw[show 4-level=(3-level)+1 by omega,bT,hf,cond_true] at h1;unfold jg at h1;rw[hx] at h1;rw[bS3];exact h1
theorem kH(h:level<3):au level=8*au (level+1):=by
 obtain rfl | rfl | rfl:level=0∨level=1∨level=2:=by omega
 all_goals decide
theorem xE{ws:List Nat}{root f:Int}(hl:level<3)(hp:page%(8*au level)=0)(hi:i<8)(hf:bK ws.length f=true)(h:Bf ws root f level page)(hk:(gJ ws (f.toNat*8+i) level).kind=1):Bf ws root (gJ ws (f.toNat*8+i) level).frame (level+1) (page+i*au level):=by
 obtain⟨fs,d0,hfs,h⟩:=h;refine⟨fs++[f],gJ ws (f.toNat*8+i) level,by simp[hfs],fun j hj=>?_⟩;rw[←kH hl] at hj;rw[yX bx6 hp hi hf h hj];have h3:decide (level=3)=false:=decide_eq_false bx6;simp only[hk,h3,decide_true,bH3,bR0,cond_false];rw[show 4-(level+1)=3-level by omega]
theorem Tz{ws:List Nat}{root f:Int}(hl:level<4)(hp:page%(8*au level)=0)(hi:i<8)(hf:bK ws.length f=true)(h:Bf ws root f level page):
  ((gJ ws (f.toNat*8+i) level).kind=2→dL ws root (page+i*au level) (au level)=some (rF (page+i*au level) (gJ ws (f.toNat*8+i) level).frame (au level))) ∧
  ((gJ ws (f.toNat*8+i) level).kind=0→dL ws root (page+i*au level) (au level)=some []):=by
 obtain⟨fs,d0,hfs,h⟩:=h;have hlv:(⟨fs++[f],gJ ws (f.toNat*8+i) level,true⟩:qM).lv=level:=by simp[qM.lv,hfs]
 have hw:(gJ ws (f.toNat*8+i) level).kind≠1→∀ j,j<au level→aQ ws root (page+i*au level+j) 3=⟨fs++[f],gJ ws (f.toNat*8+i) level,true⟩:=fun hk j hj=>by
  rw[yX hl hp hi hf h hj];simp[hk]
 refine⟨fun hk=>?_,fun hk=>?_⟩
 ·refine La (W:=⟨fs++[f],gJ ws (f.toNat*8+i) level,true⟩) rfl hk ?_ (au level) (by rw[hlv];exact bG0 _) (hw (by rw[hk];decide));rw[hlv];have h8:page%au level=0:=bQ1 (bU9 ⟨8,bN7 _ _⟩ (bO8 hp));rw[Nat.add_mod,h8,Nat.mul_mod_left];rfl
 ·exact Xw (W:=⟨fs++[f],gJ ws (f.toNat*8+i) level,true⟩) rfl (by show (gJ ws (f.toNat*8+i) level).kind≠2;rw[hk];decide) (au level) (hw (by rw[hk];decide))
theorem pV(ws:List Nat)(root:Int):Bf ws root root 0 0:=⟨[],dG,rfl,fun j _=>rfl⟩
theorem OI{ws:List Nat}{root f:Int}(hl:level<4)(h:Bf ws root f level page)(hf:bK ws.length f=false):dL ws root page (8*au level)=none:=by
 obtain⟨fs,d0,hfs,h⟩:=h;have hc:=fH hl;refine KZ (k:=0) ?_ bx6;unfold lU;rw[h 0 bx6,show 4-level=(3-level)+1 by omega,bT,hf];rfl
section
structure Nr where
 r:Am
 vm:Int
 vc:Int
 es:List fE
 ds:List jv
deriving Inhabited
structure kP where
 live:Bool
 dying:Bool
 aO:Int
 fs:List Int
 fr:List Int
 vs:List ve
deriving Inhabited
structure HyD where
 ws:List Nat
 cs:List Nr
 vs:List kP
 rs:List Am
deriving Inhabited
def jH.u(c:jH):Nr:=⟨c.r,c.vm,c.vc,c.t.es,c.t.ds⟩
def fA.u(m:fA):kP:=⟨m.live,m.dying,m.aO,m.fs,m.fr,m.vs⟩
def qI(ws:List Nat)(root mid:Int):Int:=(iE ws root mid.toNat).d.soft
structure Y5 where
 mid:Int
 dX:Int
 soft:Int
deriving Inhabited
abbrev QJ(m:Y5):List Value:=[.int .i64 m.mid,.int .i64 m.dX,.int .i64 m.soft]
def kP.root(v:kP):Int:=v.fs.getD 0 0
def kP.has(v:kP):Bool:=v.live&&decide (0<v.fs.length)
namespace HyD
variable (H : HyD)
def cu(c:Nat):Nr:=H.cs.getD c default
def vu(i:Nat):kP:=H.vs.getD i default
def wV(i:Nat):List jR:=bif (H.vu i).has then ((dL H.ws (H.vu i).root 0 4096).getD []).filter (fun m=>decide (m.mid≤15)) else []
def msA(i:Nat):List Y5:=(H.wV i).map fun m=>⟨m.mid,m.dX,qI H.ws (H.vu i).root m.mid⟩
def o9(f s:Int):Int:=match PtD.idx (fun i=>(H.msA i).any fun m=>decide (m.dX=f)&&decide (m.soft=s)) [0,1,2,3] 0 with
 | some i=>(i:Int)+1
 | none=>0
def mF(f:Nat):oZ:=
 let g:=iE H.ws 0 f
 bif !decide (g.e=0) then ⟨-1,-2⟩ else bif decide (g.d.kind=2)&&decide (g.d.soft=0) then ⟨0,-2⟩
 else bif decide (g.d.kind=2)&&decide (g.d.soft=1) then (bif decide (0<H.o9 f 2) then ⟨0,H.o9 f 2⟩ else ⟨0,-1⟩)
 else bif decide (g.d.kind=2)&&decide (g.d.soft=2) then (bif decide (0<H.o9 f 1) then ⟨H.o9 f 1,0⟩ else ⟨-1,-2⟩)
 else bif decide (g.d.kind=0)&&decide (1<g.d.note)&&decide (g.d.note≤5) then ⟨g.d.note-1,-2⟩ else ⟨-1,-2⟩
def bU(i:Nat):V9:=bif (H.vu i).live then ⟨true,(H.vu i).dying,bif decide (0<(H.vu i).fs.length) then (H.vu i).root else 0,(H.vu i).vs.map ve.on,H.wV i⟩ else ⟨false,(H.vu i).dying,0,[],[]⟩
def aG:PtD:=⟨(List.range (H.ws.length/8)).map H.mF,(List.range 4).map H.bU,H.cs.map fun c=>⟨c.vm,c.vc⟩⟩
def ig:Bool:=fJ H.ws.length&&decide (24≤H.ws.length/8)&&(decide (1≤H.cs.length)&&decide (H.cs.length≤3))&&decide (H.rs.length=H.cs.length)&&decide (H.vs.length=4)
def UZ(c:ve):Bool:=decide (c.on= -1)||decide (c.r=jy)
def U0(i:Nat):Bool:=
 bif (H.vu i).live then (H.vu i).vs.all UZ&&PtD.dm (H.vu i).aO 1 15&&!(H.vs.take i).any fun o=>o.live&&decide (o.aO=(H.vu i).aO)
 else decide ((H.vu i).vs=[])&&decide ((H.vu i).fs=[])&&decide ((H.vu i).fr=[])&&decide ((H.vu i).aO=0)
def cpQ(c:Nat):Bool:=!decide ((H.cu c).vm=0)||decide (H.rs.getD c default=jy)
def quiet:Bool:=allB H.cs.length H.cpQ&&allB 4 H.U0
end HyD
def Bi(P:PtD)(n:Int)(f:Nat):Int:=bif !decide ((P.pg f).own=n) then 2 else bif decide ((P.pg f).wit=0) then 1 else 0
def vg(P:PtD)(n:Int)(mid:Nat)(d:DsD):Bool:=
 decide (d.frame<(P.pages.length:Int))&&(decide (d=aZ d.frame (Bi P n d.frame.toNat))&&(P.gs (n-1).toNat).maps.any fun m=>decide (m.mid=(mid:Int))&&decide (m.dX=d.frame))
def mV(ws:List Nat)(may:Nat→DsD→Bool)(go:List Int→Int→Nat→Option (List Int))(f:Int)(level page:Nat)(k:Nat)(seen:List Int):Option (List Int):=
 let d:=gJ ws (f.toNat*8+k) level
 bif decide (d.kind=1) then (bif decide (15<page+k*au level) then none else go seen d.frame (page+k*au level))
 else bif !decide (ws.getD (f.toNat*8+k) 0=0)&&(!decide (d.kind=2)||!decide (level=3)||!may (page+k) d) then none else some seen
def dH(ws:List Nat)(may:Nat→DsD→Bool)(go:List Int→Int→Nat→Option (List Int))(f:Int)(level page:Nat):Nat→List Int→Option (List Int)
 | 0,seen=>some seen
 | k+1,seen=>match dH ws may go f level page k seen with
  | none=>none
  | some s=>mV ws may go f level page k s
def dM(ws:List Nat)(may:Nat→DsD→Bool):Nat→List Int→Int→Nat→Nat→Option (List Int)
 | 0,_,_,_,_=>none
 | k+1,seen,f,level,page=>bif !bK ws.length f||seen.any (fun t=>decide (t=f)) then none
  else dH ws may (fun s f' p=>dM ws may k s f' (level+1) p) f level page 8 (seen++[f])
def GH(ws:List Nat)(f:Int):Bool:=allB 8 fun k=>decide (ws.getD (f.toNat*8+k) 0=0)
def xG(ws:List Nat)(fs seen fr:List Int)(k:Nat):Bool:=
 fs.any (fun t=>decide (t=fr.getD k 0))&&!seen.any (fun t=>decide (t=fr.getD k 0))&&(decide (k=0)||decide (fr.getD (k-1) 0<fr.getD k 0))&&GH ws (fr.getD k 0)
namespace HyD
variable (H : HyD)
def Ep(i:Nat)(page:Nat)(d:DsD):Bool:=decide (page≤15)&&vg H.aG ((i:Int)+1) page d
def nX(i:Nat):Bool:=
 bif !(H.vu i).live then true else
 decide ((H.vu i).fs.length=5)&&allB 5 (fun k=>decide ((H.vu i).fs.getD k 0=(H.vu i).root+(k:Int))) &&
 match dM H.ws (H.Ep i) 4 [] (H.vu i).root 0 0 with
 | none=>false
 | some seen=>decide (seen.length+(H.vu i).fr.length=5)&&allB (H.vu i).fr.length (xG H.ws (H.vu i).fs seen (H.vu i).fr)&&seen.all fun f=>(H.vu i).fs.any fun t=>decide (t=f)
def Es(aO:Int):Option Int:=bif decide (aO=0) then some 0 else match PtD.idx (fun v:kP=>v.live&&decide (v.aO=aO)) H.vs 0 with
 | some i=>some (H.vu i).root
 | none=>none
def iM(root:Int)(page:Int):DsD×Bool:=((iE H.ws root page.toNat).d,decide ((iE H.ws root page.toNat).e=0)&&decide ((iE H.ws root page.toNat).d.kind=2)&&decide ((iE H.ws root page.toNat).level=3))
def qQ(e:fE):Bool:=match H.Es e.aO with
 | none=>false
 | some root=>
  bif decide (e.kind=2) then (H.iM root e.page).2&&decide ((H.iM root e.page).1.frame=e.frame)&&(decide ((H.iM root e.page).1.r=e.r)&&decide ((H.iM root e.page).1.w=e.w)&&decide ((H.iM root e.page).1.x=e.x)&&decide ((H.iM root e.page).1.af=e.af)&&decide ((H.iM root e.page).1.ng=e.ng)&&decide (0=e.soft))
  else bif decide (e.kind=1) then (H.iM root e.mid).2&&decide ((H.iM root e.mid).1.frame=e.frame)&&((!e.r||(H.iM root e.mid).1.r)&&(!e.w||(H.iM root e.mid).1.w)&&(!e.x||(H.iM root e.mid).1.x))
  else ((dL H.ws root 0 4096).getD []).any fun m=>(H.iM root m.mid).2&&decide (m.dX=e.frame)&&(H.iM root m.mid).1.r
def sound(c:Nat):Bool:=dP (H.cu c).es (H.cu c).ds&&(H.cu c).es.all H.qQ
def ok:Bool:=H.ig&&(H.aG.may&&Ej H.ws H.aG.pages&&H.quiet)&&allB 4 H.nX&&allB H.cs.length H.sound
end HyD
structure HyD.Fit(H:HyD):Prop where
 l:H.ws.length<100000∧H.cs.length<100000∧H.vs.length<100000∧H.rs.length<100000
 c:∀ c∈H.cs,c.es.length<100000∧c.ds.length<100000∧I64 c.vm∧I64 c.vc
 v:∀ v∈H.vs,v.fs.length<100000∧v.fr.length<100000∧v.vs.length<100000∧(∀ x∈v.fs,I64 x)∧(∀ x∈v.fr,I64 x)∧(∀ c∈v.vs,I64 c.on)
structure vw(w:World)(wv cv vv rv:Value)(H:HyD):Prop where
 fit:H.Fit
 cap:∃ q c,vv=.slice q H.vs.length c∧H.vs.length≤c
 Et:∃ q c,wv=.slice q H.ws.length c∧H.ws.length≤c
 ex:∃ cs vs,cs.map jH.u=H.cs∧vs.map fA.u=H.vs∧(∀ c∈cs,c.t.es.length≤c.t.ec)∧Ed w wv cv vv rv H.ws cs vs H.rs
theorem vw.good{w':World}{hp:Hp}{wv cv vv rv:Value}{H:HyD}(h:vw w wv cv vv rv H)(hG:Good w [] hp w'):vw w' wv cv vv rv H:=by
 obtain⟨cs,vs,e1,e2,e3,h5⟩:=h.ex;exact⟨h.fit,h.cap,h.Et,cs,vs,e1,e2,e3,h5.good hG⟩
theorem Lc{cs:List jH}{us:List Nr}(h:cs.map jH.u=us)(k:Nat):(cs.getD k default).u=us.getD k default:=by
 rw[←h,bE',bE',bH4];cases cs[k]?<;>rfl
theorem rG{cs:List fA}{us:List kP}(h:cs.map fA.u=us)(k:Nat):(cs.getD k default).u=us.getD k default:=by
 rw[←h,bE',bE',bH4];cases cs[k]?<;>rfl
theorem vz(ws:List Nat)(root:Int)(q:Nat):∀ n xs,dL ws root q n=some xs→xs.length≤n:=by
 intro n
 induction n with
 | zero=>intro xs h;cases h;exact bG0 _
 | succ n ih=>
  intro xs h;rw[dL] at h
  cases h1:dL ws root q n with
  | none=>rw[h1] at h;cases h
  | some a=>
   rw[h1] at h;dsimp only at h;unfold lU at h;dsimp only at h;have:=ih a h1
   cases h2:(!(aQ ws root (q+n) 3).ok) with
   | true=>rw[h2] at h;cases h
   | false=>
    rw[h2,cond_false] at h
    cases h3:decide ((aQ ws root (q+n) 3).d.kind=2) with
    | true=>rw[h3] at h;cases h;simp;omega
    | false=>rw[h3] at h;cases h;simp;omega
theorem yY(H:HyD)(i:Nat):(H.wV i).length≤4096:=by
 unfold HyD.wV
 cases (H.vu i).has with
 | false=>exact bF4 _
 | true=>
  rw[cond_true];refine bM' (bP3 _ _) ?_
  cases h:dL H.ws (H.vu i).root 0 4096 with
  | none=>exact bF4 _
  | some a=>exact vz _ _ _ _ _ h
end
abbrev rH(w w':World):Prop:=∃ hp,Good w [] hp w'
section
attribute [local irreducible] Hy St Ops DH dI
theorem Ld{w:World}{F:Nat}{us:List Value}(p:Int→Bool)(xs:List (Int))(v:Value)(h:aA w v 1 (xs.map bY))(hF:∀ x,x∈xs→∀ w',rH w w'→Fn Tryz.prog F ([]++[Value.int .i64 x]++us).toArray w' [] (fun u _=>u=.bool (p x)))(bM:mem iR F=true:=by rfl):
  Fn Tryz.prog 214 [v,.func (.func F) [].toArray us.toArray].toArray w [] (fun u _=>u=.int .i64 (gU p xs)):=by
 obtain⟨q,cap,rfl,hne,hle⟩:=h.opened;refine enter Tryz.func214 ?_;refine run ?_;refine aK (σ:=Nat) (fun k=>[(8,.int .i64 (k:Int))]) (fun _=>[]) (fun k=>k≤xs.length∧∀ j,j<k→p (xs.getD j default)=false) (fun k=>xs.length-k) 0 ⟨bF4 _,fun j hj=>absurd hj bx6⟩ ?_;rintro k m rfl ⟨hk,hno⟩;refine run ?_;refine ah _ rfl (fun hc=>?_) (fun hc=>?_)
 ·have hlt:k<xs.length:=by simpa using hc
  obtain⟨b,o,rfl⟩:=hne by0;have hr:=aj (h.row hlt);simp only[bH6] at hr;refine run ?_;refine lY (fun wc hG=>hF (xs.getD k default) (getD_mem hlt) wc ⟨_,hG⟩) (bM:=bM) ?_;refine run ?_;refine ah _ rfl (fun hp=>?_) (fun hp=>?_)
  ·refine run ?_;refine fin1 ?_;rw[fF hlt hp hno]
  ·refine run ?_;refine aF (k+1) ⟨hlt,fun j hj=>?_⟩;rcases bG1.1 hj with hj | rfl
   ·exact hno j hj
   ·exact hp
 ·have hge:k=xs.length:=by simp at hc;omega
  subst hge;refine run ?_;refine fin1 ?_;rw[dS hno]
theorem OJ{w:World}{F:Nat}{us:List Value}(p:jv→Bool)(xs:List (jv))(v:Value)(h:aA w v 4 (xs.map kZ))(hF:∀ x,x∈xs→∀ w',rH w w'→Fn Tryz.prog F ([]++[Value.agg (kZ x).toArray]++us).toArray w' [] (fun u _=>u=.bool (p x)))(bM:mem iR F=true:=by rfl):
  Fn Tryz.prog 298 [v,.func (.func F) [].toArray us.toArray].toArray w [] (fun u _=>u=.int .i64 (gU p xs)):=by
 obtain⟨q,cap,rfl,hne,hle⟩:=h.opened;refine enter Tryz.func298 ?_;refine run ?_;refine aK (σ:=Nat) (fun k=>[(8,.int .i64 (k:Int))]) (fun _=>[]) (fun k=>k≤xs.length∧∀ j,j<k→p (xs.getD j default)=false) (fun k=>xs.length-k) 0 ⟨bF4 _,fun j hj=>absurd hj bx6⟩ ?_;rintro k m rfl ⟨hk,hno⟩;refine run ?_;refine ah _ rfl (fun hc=>?_) (fun hc=>?_)
 ·have hlt:k<xs.length:=by simpa using hc
  obtain⟨b,o,rfl⟩:=hne by0;have hr:=h.row hlt;refine run ?_;refine lY (fun wc hG=>hF (xs.getD k default) (getD_mem hlt) wc ⟨_,hG⟩) (bM:=bM) ?_;refine run ?_;refine ah _ rfl (fun hp=>?_) (fun hp=>?_)
  ·refine run ?_;refine fin1 ?_;rw[fF hlt hp hno]
  ·refine run ?_;refine aF (k+1) ⟨hlt,fun j hj=>?_⟩;rcases bG1.1 hj with hj | rfl
   ·exact hno j hj
   ·exact hp
 ·have hge:k=xs.length:=by simp at hc;omega
  subst hge;refine run ?_;refine fin1 ?_;rw[dS hno]
theorem Eu{w:World}{F:Nat}{us:List Value}(p:fE→Bool)(xs:List (fE))(v:Value)(h:aA w v 14 (xs.map iw))(hF:∀ x,x∈xs→∀ w',rH w w'→Fn Tryz.prog F ([]++[Value.agg (iw x).toArray]++us).toArray w' [] (fun u _=>u=.bool (p x)))(bM:mem iR F=true:=by rfl):
  Fn Tryz.prog 220 [v,.func (.func F) [].toArray us.toArray].toArray w [] (fun u _=>u=.int .i64 (gU p xs)):=by
 obtain⟨q,cap,rfl,hne,hle⟩:=h.opened;refine enter Tryz.func220 ?_;refine run ?_;refine aK (σ:=Nat) (fun k=>[(8,.int .i64 (k:Int))]) (fun _=>[]) (fun k=>k≤xs.length∧∀ j,j<k→p (xs.getD j default)=false) (fun k=>xs.length-k) 0 ⟨bF4 _,fun j hj=>absurd hj bx6⟩ ?_;rintro k m rfl ⟨hk,hno⟩;refine run ?_;refine ah _ rfl (fun hc=>?_) (fun hc=>?_)
 ·have hlt:k<xs.length:=by simpa using hc
  obtain⟨b,o,rfl⟩:=hne by0;have hr:=h.row hlt;refine run ?_;refine lY (fun wc hG=>hF (xs.getD k default) (getD_mem hlt) wc ⟨_,hG⟩) (bM:=bM) ?_;refine run ?_;refine ah _ rfl (fun hp=>?_) (fun hp=>?_)
  ·refine run ?_;refine fin1 ?_;rw[fF hlt hp hno]
  ·refine run ?_;refine aF (k+1) ⟨hlt,fun j hj=>?_⟩;rcases bG1.1 hj with hj | rfl
   ·exact hno j hj
   ·exact hp
 ·have hge:k=xs.length:=by simp at hc;omega
  subst hge;refine run ?_;refine fin1 ?_;rw[dS hno]
theorem pW{w:World}{F:Nat}{us:List Value}(p:Int→Bool)(xs:List (Int))(v:Value)(h:aA w v 1 (xs.map bY))(hF:∀ x,x∈xs→∀ w',rH w w'→Fn Tryz.prog F ([]++[Value.int .i64 x]++us).toArray w' [] (fun u _=>u=.bool (p x)))(bM:mem iR F=true:=by rfl):
  Fn Tryz.prog 134 [v,.func (.func F) [].toArray us.toArray].toArray w [] (fun u _=>u=.bool (xs.any p)):=by
 refine enter Tryz.func134 ?_;refine run ?_;refine az (fun wc hG=>Ld p xs v (h.good hG) (fun x hx w' ha=>hF x hx w' ?_) bM) ?_
 ·obtain⟨hp,hg⟩:=ha;exact⟨_,hG.trans hg⟩
 refine run ?_;refine fin1 ?_;rw[←gq]
theorem qR{w:World}{F:Nat}{us:List Value}(p:jv→Bool)(xs:List (jv))(v:Value)(h:aA w v 4 (xs.map kZ))(hF:∀ x,x∈xs→∀ w',rH w w'→Fn Tryz.prog F ([]++[Value.agg (kZ x).toArray]++us).toArray w' [] (fun u _=>u=.bool (p x)))(bM:mem iR F=true:=by rfl):
  Fn Tryz.prog 217 [v,.func (.func F) [].toArray us.toArray].toArray w [] (fun u _=>u=.bool (xs.any p)):=by
 refine enter Tryz.func217 ?_;refine run ?_;refine az (fun wc hG=>OJ p xs v (h.good hG) (fun x hx w' ha=>hF x hx w' ?_) bM) ?_
 ·obtain⟨hp,hg⟩:=ha;exact⟨_,hG.trans hg⟩
 refine run ?_;refine fin1 ?_;rw[←gq]
theorem vC(v:Value)(xs:List (List Value))(h:aA w v 14 xs)(hall:∀ c∈xs,c.length=14∧c.all (·.oneCell')=true)(hl:xs.length<1000000):Fn Tryz.prog 154 [v].toArray w [] (fun u hn=>Own 80 14 u hn xs):=by
 obtain⟨⟨q,cap,rfl,hne⟩,_⟩:=h;refine enter Tryz.func154 ?_;refine run ?_;refine jI by5 (nC aB rfl rfl) ?_;refine run ?_;refine ah _ rfl (fun hp=>?_) (fun hp=>?_)
 ·obtain rfl:xs=[]:=by
   rcases bJ8 (xs=[]) with h | h
   ·exact h
   ·obtain⟨b,o,rfl,_⟩:=hne h;cases hp
  refine run ?_;refine fin1 ?_;exact⟨by simp,.inl ⟨rfl,rfl,rfl⟩⟩
 refine run ?_;refine iC aB by5 by5 (fun g=>?_);refine run ?_;rcases bJ8 (xs=[]) with rfl | hx
 ·cases q with
  | none=>cases hp
  | some q=>
  refine jI by5 (iy aB (jc:=0) rfl rfl rfl (bG0 _)) ?_;refine run ?_;refine fin1 ?_;exact⟨by simp,.inr ⟨g,0,#[],rfl,rfl,⟨rfl,bG0 _,by decide,rfl,rfl⟩⟩⟩
 ·obtain⟨b,o,rfl,hr⟩:=hne hx;refine eF aB by5 rfl ⟨rfl,bG0 _,by decide,rfl,rfl⟩ rfl rfl rfl rfl rfl rfl (.refl _) rfl hall hr bx8 hl (fun v' ha' hA=>?_);refine run ?_;refine fin1 ?_;rw[bG3];exact hA
theorem wW(v:Value)(xs:List (List Value))(h:aA w v 4 xs)(hall:∀ c∈xs,c.length=4∧c.all (·.oneCell')=true)(hl:xs.length<1000000):Fn Tryz.prog 155 [v].toArray w [] (fun u hn=>Own 127 4 u hn xs):=by
 obtain⟨⟨q,cap,rfl,hne⟩,_⟩:=h;refine enter Tryz.func155 ?_;refine run ?_;refine jI by5 (nC aB rfl rfl) ?_;refine run ?_;refine ah _ rfl (fun hp=>?_) (fun hp=>?_)
 ·obtain rfl:xs=[]:=by
   rcases bJ8 (xs=[]) with h | h
   ·exact h
   ·obtain⟨b,o,rfl,_⟩:=hne h;cases hp
  refine run ?_;refine fin1 ?_;exact⟨by simp,.inl ⟨rfl,rfl,rfl⟩⟩
 refine run ?_;refine iC aB by5 by5 (fun g=>?_);refine run ?_;rcases bJ8 (xs=[]) with rfl | hx
 ·cases q with
  | none=>cases hp
  | some q=>
  refine jI by5 (iy aB (jc:=0) rfl rfl rfl (bG0 _)) ?_;refine run ?_;refine fin1 ?_;exact⟨by simp,.inr ⟨g,0,#[],rfl,rfl,⟨rfl,bG0 _,by decide,rfl,rfl⟩⟩⟩
 ·obtain⟨b,o,rfl,hr⟩:=hne hx;refine eF aB by5 rfl ⟨rfl,bG0 _,by decide,rfl,rfl⟩ rfl rfl rfl rfl rfl rfl (.refl _) rfl hall hr bx8 hl (fun v' ha' hA=>?_);refine run ?_;refine fin1 ?_;rw[bG3];exact hA
theorem TA(a:fE)(xs:List fE)(v:Value)(h:aA w v 14 (xs.map iw)):
  Fn Tryz.prog 297 [v,.agg (iw a).toArray].toArray w [] (fun u _=>u=.int .i64 (gU (fun t=>decide (t=a)) xs)):=by
 obtain⟨q,cap,rfl,hne,hle⟩:=h.opened;refine enter Tryz.func297 ?_;refine run ?_;intro B;refine run ?_;refine aK (σ:=Nat) (fun k=>[(8,.int .i64 (k:Int))]) (fun _=>[⟨B,(iw a).toArray,80⟩]) (fun k=>k≤xs.length∧∀ j,j<k→decide (xs.getD j default=a)=false) (fun k=>xs.length-k) 0 ⟨bF4 _,fun j hj=>absurd hj bx6⟩ ?_;rintro k m rfl ⟨hk,hno⟩;refine run ?_;refine ah _ rfl (fun hc=>?_) (fun hc=>?_)
 ·have hlt:k<xs.length:=by simpa using hc
  obtain⟨b,o,rfl⟩:=hne by0;have hr:=h.row hlt;refine run ?_;refine dF ?_;refine dJ ?_;refine run ?_;have hq:∀ x:fE,aW (iw a) (iw x)=decide (x=a):=fun x=>by rw[ab2,bF3,decide_eq_true_eq,decide_eq_true_eq];exact eq_comm
  try rw[hq]
  try rw[ab2]
  refine ah _ rfl (fun hp=>?_) (fun hp=>?_)
  ·refine run ?_;refine fin1 ?_;rw[fF hlt hp hno]
  ·refine run ?_;refine aF (k+1) ⟨hlt,fun j hj=>?_⟩;rcases bG1.1 hj with hj | rfl
   ·exact hno j hj
   ·exact hp
 ·have hge:k=xs.length:=by simp at hc;omega
  subst hge;refine run ?_;refine fin1 ?_;rw[dS hno]
theorem I7(a:fE)(xs:List fE)(v:Value)(h:aA w v 14 (xs.map iw)):
  Fn Tryz.prog 216 [v,.agg (iw a).toArray].toArray w [] (fun u _=>u=.bool (xs.any fun t=>decide (t=a))):=by
 refine enter Tryz.func216 ?_;refine run ?_;intro B;refine run ?_;refine az (fun wc hG=>TA a xs v (h.good hG)) ?_;refine run ?_;refine fin1 ?_;rw[←gq]
end
end Go.Proofs.YtellmabgmnbhcaaGreat
