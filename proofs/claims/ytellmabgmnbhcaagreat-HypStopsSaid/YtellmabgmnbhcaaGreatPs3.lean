/- Texts of one's own, merged: the engine, what the functions do, plain laws. -/
import Derived.Test.YtellmabgmnbhcaaGreatPs2
namespace Go.Proofs.YtellmabgmnbhcaaGreat
open Go.RowKit
set_option linter.unusedVariables false
set_option linter.unusedSimpArgs false
set_option maxRecDepth 20000
variable {w:World}{n level page a t b e k i fuel:Nat}{v:Value}{x:Operand}{l:Fm}{g:Nat→Nat}{all:Array Oper}
abbrev uV(x:Nat):List Value:=[.int .u64 (x:Int)]
abbrev dsR(d:DsD):List Value:=[.int .i64 d.kind,.int .i64 d.frame,.bool d.r,.bool d.w,.bool d.x,.bool d.af,.bool d.ng,.int .i64 d.soft,.int .i64 d.note]
section
attribute [local irreducible] Hy St Ops DH dH
theorem Tt(xs:List Nat)(u v:Value)(hu:aA w u 1 (xs.map uV))(hv:aA w v 1 (xs.map uV)):Fn Tryz.prog 274 [u,v].toArray w [] (fun r _=>r=.bool true):=by
 obtain⟨q,cap,rfl,hne,hle⟩:=hu.opened;obtain⟨q2,cap2,rfl,hne2,_⟩:=hv.opened;refine enter Tryz.func274 ?_;refine run ?_;refine ah _ rfl (fun hc=>absurd hc bB5) (fun hc=>?_);refine run ?_;refine aK (σ:=Nat) (fun k=>[(5,.int .i64 (k:Int))]) (fun _=>[]) (fun k=>k≤xs.length) (fun k=>xs.length-k) 0 (bI1 _) ?_;rintro k m hm hk;refine run ?_;refine ah _ rfl (fun hc=>?_) (fun hc=>?_)
 ·have hlt:k<xs.length:=by simp at hc;omega
  obtain⟨b,o,rfl⟩:=hne bB7;obtain⟨b2,o2,rfl⟩:=hne2 bB7;have h1:=aj (hu.row hlt);have h2:=aj (hv.row hlt);simp only[uV,bK3] at h1 h2;refine run ?_;refine dA ?_;refine dI ?_;refine run ?_;refine ah _ rfl (fun hp=>?_) (fun hp=>?_)
  ·simp[aW,iF] at hp
  ·refine run ?_;exact aF (k+1) hlt
 ·refine run ?_;exact fin1 rfl
theorem KT(xs:List Nat)(v:Value)(h:aA w v 1 (xs.map uV))(hl:xs.length<1000000):Fn Tryz.prog 258 [v].toArray w [] (fun u hp=>Acc 53 1 u hp (xs.map uV)):=by
 obtain⟨q,cap,rfl,hne,hle⟩:=h.opened;refine enter Tryz.func258 ?_;refine run ?_;refine aK (σ:=Nat×Value×Hp) (fun s=>[(3,s.2.1),(4,.int .i64 (s.1:Int))]) (fun s=>s.2.2) (fun s=>s.1≤xs.length∧Acc 53 1 s.2.1 s.2.2 ((xs.take s.1).map uV)) (fun s=>xs.length-s.1) (0,_,[]) ⟨by omega,Acc.nil _ _⟩ ?_;rintro⟨k,v,ha⟩ m hm ⟨hk,hA⟩;dsimp only at hm hk hA ⊢;refine run ?_;refine ah _ rfl (fun hc=>?_) (fun hc=>?_)
 ·have hlt:k<xs.length:=by simp at hc;omega
  obtain⟨b,o,rfl⟩:=hne bB7;have h1:=aj (h.row hlt);simp only[uV,bK3] at h1;refine run ?_;intro T;refine dK (c:=uV (xs.getD k default)) hA (fun v' ha' hA'=>?_) bB9 (aY (m:=1) mh rfl);refine run ?_;refine aF (k+1,v',ha') ⟨hlt,?_⟩;dsimp only;rw[dW hlt,bJ4];exact hA'
 ·have:k=xs.length:=by simp at hc;omega
  subst this;refine run ?_;refine fin1 ?_;simpa using hA
theorem BC(xs:List Int)(u v:Value)(hu:aA w u 1 (xs.map bY))(hv:aA w v 1 (xs.map bY)):Fn Tryz.prog 327 [u,v].toArray w [] (fun r _=>r=.bool true):=by
 obtain⟨q,cap,rfl,hne,hle⟩:=hu.opened;obtain⟨q2,cap2,rfl,hne2,_⟩:=hv.opened;refine enter Tryz.func327 ?_;refine run ?_;refine ah _ rfl (fun hc=>absurd hc bB5) (fun hc=>?_);refine run ?_;refine aK (σ:=Nat) (fun k=>[(5,.int .i64 (k:Int))]) (fun _=>[]) (fun k=>k≤xs.length) (fun k=>xs.length-k) 0 (bI1 _) ?_;rintro k m hm hk;refine run ?_;refine ah _ rfl (fun hc=>?_) (fun hc=>?_)
 ·have hlt:k<xs.length:=by simp at hc;omega
  obtain⟨b,o,rfl⟩:=hne bB7;obtain⟨b2,o2,rfl⟩:=hne2 bB7;have h1:=aj (hu.row hlt);have h2:=aj (hv.row hlt);simp only[bY,bK3] at h1 h2;refine run ?_;refine dA ?_;refine dI ?_;refine run ?_;refine ah _ rfl (fun hp=>?_) (fun hp=>?_)
  ·simp[aW,iF] at hp
  ·refine run ?_;exact aF (k+1) hlt
 ·refine run ?_;exact fin1 rfl
theorem qR(xs:List Int)(v:Value)(h:aA w v 1 (xs.map bY))(hl:xs.length<1000000):Fn Tryz.prog 107 [v].toArray w [] (fun u hp=>Acc 3 1 u hp (xs.map bY)):=by
 obtain⟨q,cap,rfl,hne,hle⟩:=h.opened;refine enter Tryz.func107 ?_;refine run ?_;refine aK (σ:=Nat×Value×Hp) (fun s=>[(3,s.2.1),(4,.int .i64 (s.1:Int))]) (fun s=>s.2.2) (fun s=>s.1≤xs.length∧Acc 3 1 s.2.1 s.2.2 ((xs.take s.1).map bY)) (fun s=>xs.length-s.1) (0,_,[]) ⟨by omega,Acc.nil _ _⟩ ?_;rintro⟨k,v,ha⟩ m hm ⟨hk,hA⟩;dsimp only at hm hk hA ⊢;refine run ?_;refine ah _ rfl (fun hc=>?_) (fun hc=>?_)
 ·have hlt:k<xs.length:=by simp at hc;omega
  obtain⟨b,o,rfl⟩:=hne bB7;have h1:=aj (h.row hlt);simp only[bY,bK3] at h1;refine run ?_;intro T;refine dK (c:=bY (xs.getD k default)) hA (fun v' ha' hA'=>?_) bB9 (aY (m:=1) mh rfl);refine run ?_;refine aF (k+1,v',ha') ⟨hlt,?_⟩;dsimp only;rw[dW hlt,bJ4];exact hA'
 ·have:k=xs.length:=by simp at hc;omega
  subst this;refine run ?_;refine fin1 ?_;simpa using hA
theorem qK(v:Value)(xs:List (List Value))(h:aA w v 1 xs)(hall:∀ c∈xs,c.length=1∧c.all (·.oneCell')=true)(hl:xs.length<1000000):Fn Tryz.prog 74 [v].toArray w [] (fun u hn=>Own 3 1 u hn xs):=by
 obtain⟨⟨q,cap,rfl,hne⟩,_⟩:=h;refine enter Tryz.func74 ?_;refine run ?_;refine jI bB8 (nH aB rfl rfl) ?_;refine run ?_;refine ah _ rfl (fun hp=>?_) (fun hp=>?_)
 ·obtain rfl:xs=[]:=by
   rcases bM6 (xs=[]) with h | h
   ·exact h
   ·obtain⟨b,o,rfl,_⟩:=hne h;cases hp
  refine run ?_;refine fin1 ?_;exact⟨by simp,.inl ⟨rfl,rfl,rfl⟩⟩
 refine run ?_;refine iD aB bB8 bB8 (fun g=>?_);refine run ?_;rcases bM6 (xs=[]) with rfl | hx
 ·cases q with
  | none=>cases hp
  | some q=>
  refine jI bB8 (iC aB (jr:=0) rfl rfl rfl (bI9 _)) ?_;refine run ?_;refine fin1 ?_;exact⟨by simp,.inr ⟨g,0,#[],rfl,rfl,⟨rfl,bI9 _,by decide,rfl,rfl⟩⟩⟩
 ·obtain⟨b,o,rfl,hr⟩:=hne hx;refine eP aB bB8 rfl ⟨rfl,bI9 _,by decide,rfl,rfl⟩ rfl rfl rfl rfl rfl rfl (.refl _) rfl hall hr bB5 hl (fun v' ha' hA=>?_);refine run ?_;refine fin1 ?_;rw[bI'];exact hA
theorem oP(v:Value)(xs:List (List Value))(h:aA w v 1 xs)(hall:∀ c∈xs,c.length=1∧c.all (·.oneCell')=true)(hl:xs.length<1000000):Fn Tryz.prog 69 [v].toArray w [] (fun u hn=>Own 53 1 u hn xs):=by
 obtain⟨⟨q,cap,rfl,hne⟩,_⟩:=h;refine enter Tryz.func69 ?_;refine run ?_;refine jI bB8 (nH aB rfl rfl) ?_;refine run ?_;refine ah _ rfl (fun hp=>?_) (fun hp=>?_)
 ·obtain rfl:xs=[]:=by
   rcases bM6 (xs=[]) with h | h
   ·exact h
   ·obtain⟨b,o,rfl,_⟩:=hne h;cases hp
  refine run ?_;refine fin1 ?_;exact⟨by simp,.inl ⟨rfl,rfl,rfl⟩⟩
 refine run ?_;refine iD aB bB8 bB8 (fun g=>?_);refine run ?_;rcases bM6 (xs=[]) with rfl | hx
 ·cases q with
  | none=>cases hp
  | some q=>
  refine jI bB8 (iC aB (jr:=0) rfl rfl rfl (bI9 _)) ?_;refine run ?_;refine fin1 ?_;exact⟨by simp,.inr ⟨g,0,#[],rfl,rfl,⟨rfl,bI9 _,by decide,rfl,rfl⟩⟩⟩
 ·obtain⟨b,o,rfl,hr⟩:=hne hx;refine eP aB bB8 rfl ⟨rfl,bI9 _,by decide,rfl,rfl⟩ rfl rfl rfl rfl rfl rfl (.refl _) rfl hall hr bB5 hl (fun v' ha' hA=>?_);refine run ?_;refine fin1 ?_;rw[bI'];exact hA
theorem OB(a:Int)(xs:List Int)(v:Value)(h:aA w v 1 (xs.map bY)):
  Fn Tryz.prog 212 [v,.int .i64 a].toArray w [] (fun u _=>u=.int .i64 (gV (fun t=>decide (t=a)) xs)):=by
 obtain⟨q,cap,rfl,hne,hle⟩:=h.opened;refine enter Tryz.func212 ?_;refine run ?_;refine aK (σ:=Nat) (fun k=>[(8,.int .i64 (k:Int))]) (fun _=>[]) (fun k=>k≤xs.length∧∀ j,j<k→decide (xs.getD j default=a)=false) (fun k=>xs.length-k) 0 ⟨bI1 _,fun j hj=>absurd hj bB3⟩ ?_;rintro k m rfl ⟨hk,hno⟩;refine run ?_;refine ah _ rfl (fun hc=>?_) (fun hc=>?_)
 ·have hlt:k<xs.length:=by simpa using hc
  obtain⟨b,o,rfl⟩:=hne bB7;have hr:=aj (h.row hlt);have hr1:=hr;simp only[bK3] at hr1;refine run ?_;refine ah _ rfl (fun hp=>?_) (fun hp=>?_)
  ·refine run ?_;refine fin1 ?_;rw[fG hlt (by simpa [eq_comm] using hp) hno]
  ·refine run ?_;refine aF (k+1) ⟨hlt,fun j hj=>?_⟩;rcases bJ0.1 hj with hj | rfl
   ·exact hno j hj
   ·simpa [eq_comm] using hp
 ·have hge:k=xs.length:=by simp at hc;omega
  subst hge;refine run ?_;refine fin1 ?_;rw[dV hno]
theorem jP(a:Int)(xs:List Int)(v:Value)(h:aA w v 1 (xs.map bY)):
  Fn Tryz.prog 131 [v,.int .i64 a].toArray w [] (fun u _=>u=.bool (xs.any fun t=>decide (t=a))):=by
 refine enter Tryz.func131 ?_;refine run ?_;refine az (fun wc hG=>OB a xs v (h.good hG)) ?_;refine run ?_;refine fin1 ?_;rw[←gq]
theorem GG(n m:Int)(w:World):Fn Tryz.prog 96 [.int .i64 n,.int .i64 m].toArray w [] (fun u _=>u=.bool (decide (0≤n)&&decide (n≤m))):=by
 refine enter Tryz.func96 ?_;refine aC ?_;exact fin1 rfl
theorem KU(a:Int)(xs:List Int)(v:Value)(h:aA w v 1 (xs.map bY)):
  Fn Tryz.prog 44 [v,.int .i64 a].toArray w [] (fun u _=>u=.int .i64 (gV (fun t=>decide (t=a)) xs)):=by
 obtain⟨q,cap,rfl,hne,hle⟩:=h.opened;refine enter Tryz.func44 ?_;refine run ?_;refine aK (σ:=Nat) (fun k=>[(5,.int .i64 (k:Int))]) (fun _=>[]) (fun k=>k≤xs.length∧∀ j,j<k→decide (xs.getD j default=a)=false) (fun k=>xs.length-k) 0 ⟨bI1 _,fun j hj=>absurd hj bB3⟩ ?_;rintro k m rfl ⟨hk,hno⟩;refine run ?_;refine ah _ rfl (fun hc=>?_) (fun hc=>?_)
 ·have hlt:k<xs.length:=by simpa using hc
  obtain⟨b,o,rfl⟩:=hne bB7;have hr:=aj (h.row hlt);simp only[bK3] at hr;refine run ?_;refine ah _ rfl (fun hp=>?_) (fun hp=>?_)
  ·refine run ?_;refine fin1 ?_;rw[fG hlt hp hno]
  ·refine run ?_;refine aF (k+1) ⟨hlt,fun j hj=>?_⟩;rcases bJ0.1 hj with hj | rfl
   ·exact hno j hj
   ·exact hp
 ·have hge:k=xs.length:=by simp at hc;omega
  subst hge;refine run ?_;refine fin1 ?_;rw[dV hno]
theorem ab9(xs:List Nat)(u v:Value)(hu:aA w u 1 (xs.map uV))(hv:aA w v 1 (xs.map uV)):Fn Tryz.prog 179 [.agg #[u],.agg #[v]].toArray w [] (fun r _=>r=.bool true):=by
 refine enter Tryz.func179 ?_;refine run ?_;intro B C;refine run ?_;refine az (fun wc hG=>Tt _ _ _ (hu.good hG) (hv.good hG)) ?_;refine run ?_;exact fin1 rfl
def Xj(ws:List Nat)(u:Value)(hn:Hp):Prop:=∃ v h1,u=.agg #[v]∧Own 53 1 v h1 (ws.map uV)∧aI h1 hn
theorem Ak(xs:List Nat)(v:Value)(h:aA w v 1 (xs.map uV))(hl:xs.length<1000000):Fn Tryz.prog 171 [.agg #[v]].toArray w [] (fun u hn=>Xj xs u hn):=by
 obtain⟨q,cap,rfl,_⟩:=h.opened;refine enter Tryz.func171 ?_;refine run ?_;intro B;refine run ?_;intro X Y;refine run ?_;refine bH (fun wc hG=>KT xs _ (h.good hG) hl) (fun v' hn hA=>?_);obtain⟨q2,cap2,rfl⟩:=hA.own.opened;refine cZ (_++hn) bJ5 ?_;simp only[bI0,bI3];refine run ?_;refine dR ⟨_,_,rfl,hA.own,?_⟩
 (exact ak)
def fJ(n:Nat):Bool:=decide (8≤n)&&decide (n≤512)&&decide (n%8=0)
theorem bP(h:fJ n=true):8≤n∧n≤512∧n/8*8=n∧n/8≤64:=by
 simp only[fJ,bH6,decide_eq_true_eq] at h;omega
theorem aw8(n cap:Nat)(q:Option Addr)(w:World):Fn Tryz.prog 42 [.agg #[.slice q n cap]].toArray w [] (fun u _=>u=.bool (fJ n)):=by
 refine enter Tryz.func42 ?_;refine run ?_;intro B;refine aC ?_;refine Vh (hy:=fun hg=>uK bC6 rfl n 8 bB8 bB8 bB4) (h:=?_);refine aC ?_;refine fin1 ?_
 congr 1
 unfold fJ;have c1:decide ((8:Int)≤(n:Int))=decide (8≤n):=by rw[bI2,decide_eq_true_eq,decide_eq_true_eq];omega
 have c2:decide ((n:Int)≤512)=decide (n≤512):=by rw[bI2,decide_eq_true_eq,decide_eq_true_eq];omega
 have c3:decide (((n%8:Nat):Int)=0)=decide (n%8=0):=by rw[bI2,decide_eq_true_eq,decide_eq_true_eq];omega
 rw[c1,c2,c3]
theorem pz(n cap:Nat)(hn:n<4611686018427387904)(q:Option Addr)(w:World):Fn Tryz.prog 27 [.agg #[.slice q n cap]].toArray w [] (fun u _=>u=.int .i64 ((n/8:Nat):Int)):=by
 refine enter Tryz.func27 ?_;refine run ?_;intro B;refine run ?_;refine jI bB8 (uM rfl rfl n 8 bB8 bB8 bB4 bB3) ?_;refine run ?_;exact fin1 rfl
theorem Xk(n cap:Nat)(hn:n<4611686018427387904)(q:Option Addr)(w:World):Fn Tryz.prog 280 [.agg #[.slice q n cap]].toArray w [] (fun u _=>u=.bool (fJ n)):=by
 refine enter Tryz.func280 ?_;refine run ?_;intro B;refine aC ?_;refine Vh (hy:=fun hg=>uK bC6 rfl n 8 bB8 bB8 bB4) (h:=?_);refine aC ?_;refine Vh (hy:=fun hg=>uM bC6 rfl n 8 bB8 bB8 bB4 bB3) (h:=?_);refine aC ?_;refine fin1 ?_
 congr 1
 unfold fJ;have c1:decide ((0:Int)<(n:Int))=decide (0<n):=by rw[bI2,decide_eq_true_eq,decide_eq_true_eq];omega
 have c2:decide (((n/8:Nat):Int)≤64)=decide (n/8≤64):=by rw[bI2,decide_eq_true_eq,decide_eq_true_eq];omega
 have c3:decide (((n%8:Nat):Int)=0)=decide (n%8=0):=by rw[bI2,decide_eq_true_eq,decide_eq_true_eq];omega
 rw[c1,c2,c3,bI2];simp only[bH6,decide_eq_true_eq];omega
theorem yN(n cap:Nat)(hn:n<4611686018427387904)(q:Option Addr)(w:World):Fn Tryz.prog 192 [.agg #[.slice q n cap]].toArray w [] (fun u _=>u=.int .i64 (bif fJ n then 0 else 1)):=by
 refine enter Tryz.func192 ?_;refine run ?_;intro B;refine run ?_;refine az (fun wc hG=>Xk n cap hn q wc) ?_;refine run ?_;refine ah _ rfl (fun hc=>?_) (fun hc=>?_)
 ·refine run ?_;refine fin1 ?_;have:fJ n=false:=by simpa using hc
  rw[this];rfl
 ·refine run ?_;refine fin1 ?_;have:fJ n=true:=by simpa using hc
  rw[this];rfl
theorem wG(p:Int)(w:World):Fn Tryz.prog 113 [.int .i64 p].toArray w [] (fun u _=>u=.bool (PtD.dD p 0 4095)):=by
 refine enter Tryz.func113 ?_;refine run ?_;refine az (fun wc hG=>GG p 4095 wc) ?_;refine run ?_;exact fin1 rfl
theorem Dc(stage:Int)(hs:stage=1∨stage=2)(level:Nat)(hl:level<4)(d:DsD)(w:World):Fn Tryz.prog 190 [.int .i64 stage,.int .i64 (level:Int),uj d].toArray w [] (fun u _=>u=.bool (d.may stage level)):=by
 have hlv:decide ((level:Int)<3)=decide (level<3):=by rw[bI2,decide_eq_true_eq,decide_eq_true_eq];omega
 have hlp:decide ((0:Int)<(level:Int))=decide (0<level):=by rw[bI2,decide_eq_true_eq,decide_eq_true_eq];omega
 have h9:=fH hl;refine enter Tryz.func190 ?_;refine run ?_;intro B;refine run ?_;refine ah _ rfl (fun hk=>?_) (fun hk=>?_)
 ·have hk0:d.kind=0:=by simpa using hk
  refine aC ?_;refine bG (fun hg wc hG=>GG d.note 15 wc) ?_;refine aC ?_;refine fin1 ?_;rw[Ej d 0 0 d.note hk0];rcases hs with rfl | rfl<;>simp only[DsD.may,hk0,decide_true,cond_true,PtD.dD,bM']
  ·cases d.bare<;>cases hz:decide (d.note=0)<;>simp_all
  ·cases d.bare<;>cases hz:decide (d.note=0)<;>simp_all
 ·have hk0:decide (d.kind=0)=false:=by simpa using hk
  refine run ?_;refine ah _ rfl (fun hk1=>?_) (fun hk1=>?_)
  ·have oO:d.kind=1:=by simpa using hk1
   refine aC ?_;refine bG (fun hg wc hG=>wG d.frame wc) ?_;refine aC ?_;refine fin1 ?_;rw[Ej d 1 d.frame 0 oO,hlv];simp only[DsD.may,oO,decide_true,cond_true,show decide ((1:Int)=0)=false from rfl,cond_false,bI6];cases decide (level<3)<;>cases d.bare<;>cases decide (d.note=0)<;>rfl
  ·have oO:decide (d.kind=1)=false:=by simpa using hk1
   refine run ?_;refine ah _ rfl (fun hk2=>?_) (fun hk2=>?_)
   ·have Cc:d.kind=2:=by simpa using hk2
    refine run ?_;intro A;refine gU 47 ?_;refine bg ?_;refine eX (fun hg wc hG=>wG d.frame wc) ?_;refine bg ?_;refine eX (fun hg wc hG=>pq level hl wc) ?_;refine SS (hy:=fun hg=>uK bC6 bC6 d.frame.toNat (au level) (by simp[jd,PtD.dD] at hg;omega) bB8 bB3) (h:=?_);refine bg ?_;refine IE (fun hg0 hg1 wc hG=>GG d.soft 15 wc) ?_;refine bg ?_;refine run ?_;refine run ?_;refine fin1 ?_;rw[hlp];have hz:decide (((d.frame.toNat%au level:Nat):Int)=0)=decide (d.frame.toNat%au level=0):=by rw[bI2,decide_eq_true_eq,decide_eq_true_eq];omega
    rw[hz];simp only[DsD.may,Cc,decide_true,cond_true,show decide ((2:Int)=0)=false from rfl,show decide ((2:Int)=1)=false from rfl,cond_false];rcases hs with rfl | rfl
    ·cases decide (0<level)<;>cases PtD.dD d.frame 0 4095<;>cases decide (d.frame.toNat%au level=0)<;>cases decide (d.note=0)<;>cases d.r<;>cases decide (d.soft=0)<;>rfl
    ·simp only[PtD.dD];cases decide (0<level)<;>cases decide (d.frame.toNat%au level=0)<;>cases decide (d.note=0)<;>cases d.ng<;>cases decide (0≤d.soft)<;>cases decide (d.soft≤15)<;>cases decide (0≤d.frame)<;>cases decide (d.frame≤4095)<;>rfl
   ·refine run ?_;refine fin1 ?_;have Cc:decide (d.kind=2)=false:=by simpa using hk2
    simp[DsD.may,hk0,oO,Cc]
theorem yO(stage:Int)(hs:stage=1∨stage=2)(level:Nat)(hl:level<4)(d:DsD)(hm:d.may stage level=true)(w:World):Fn Tryz.prog 186 [.int .i64 stage,.int .i64 (level:Int),uj d].toArray w [] (fun u _=>u=.int .u64 (d.word stage level:Int)):=by
 have hlv:decide ((level:Int)=3)=decide (level=3):=by rw[bI2,decide_eq_true_eq,decide_eq_true_eq];omega
 obtain⟨k1,k2,k3,k4⟩:=gy hm
 have hf:0≤d.frame∧d.frame≤4095:=by
  rcases k1 with e | e | e
  ·have:=k2 e;omega
  ·have:=k3 e;omega
  ·have:=k4 e;omega
 have hf0:=hf.1;have hf1:=hf.2;have hfz:((d.frame.toNat:Nat):Int)=d.frame:=by omega
 refine enter Tryz.func186 ?_;refine run ?_;intro B;refine run ?_;refine ah _ rfl (fun hk=>?_) (fun hk=>?_)
 ·have hk0:d.kind=0:=by simpa using hk
  have hn0:=(k2 hk0).2.1;have hn1:=(k2 hk0).2.2;have hnz:((d.note.toNat:Nat):Int)=d.note:=by omega
  refine run ?_;refine jI bB8 (Aa rfl rfl d.note.toNat 4 hnz.symm bB8 bB4) ?_;refine run ?_;refine fin1 ?_;rw[DsD.Tj stage level d hk0]
 ·have hk0:decide (d.kind=0)=false:=by simpa using hk
  refine run ?_;refine drawM 14 [0,1,2,3,4,5,6,7,8,9,10,11,12] [13] [] ?_;refine jY rfl (fun hx2=>fM (fA 277 rfl) rfl (fun wc hG=>uT 0 true wc)) ?_;refine gI ?_;refine av6 (hy:=fun hx2 hg=>Ic rfl) (h:=?_);refine av6 (v:=.bool (decide ((level:Int)=3))) (hy:=fun hx2 hg=>?_) (h:=?_)
  ·exact VI bC6 rfl
  refine gI ?_;refine jY rfl (fun hx2=>fM (fA 277 rfl) rfl (fun wc hG=>uT 1 _ wc)) ?_;refine gI ?_;refine eBS (KP [⟨0,1,1⟩,⟨1,1,b1 (decide (d.kind=1)||decide (level=3))⟩,⟨12,12,d.frame.toNat⟩]) (h:=?_) (hn:=?_)
  ·refine kL ?_;simp only[DN];rintro _ hn ⟨T,rfl,rfl⟩;refine jJ ?_;refine ry ?_;simp only[bI0,bI3,bI'];refine run ?_;refine ah _ rfl (fun hk1=>?_) (fun hk1=>?_)
   ·have hk2:d.kind=2:=by simpa using hk1
    have oO:decide (d.kind=1)=false:=by rw[hk2];rfl
    simp only[oO,bL3];refine run ?_;refine drawM 11 [0,1,2,3,4,5,6,7,8,9] [10] [] ?_;refine gI ?_;refine jY rfl (fun hx2=>fM (fA 277 rfl) rfl (fun wc hG=>uT 10 _ wc)) ?_;refine gI ?_;refine jY rfl (fun hx2=>fM (fA 277 rfl) rfl (fun wc hG=>uT 54 _ wc)) ?_;refine gI ?_;refine eBS (KP [⟨10,1,b1 d.af⟩,⟨54,1,b1 (!d.x)⟩]) (h:=?_) (hn:=by cases d.af<;>cases d.x<;>rfl);refine kL ?_;simp only[DN];rintro _ hn ⟨T2,rfl,rfl⟩;refine jJ ?_;refine ry ?_;simp only[bI0,bI3,bI'];refine wB (m:=2) ([⟨10,1,b1 d.af⟩,⟨54,1,b1 (!d.x)⟩].map NK) [⟨T2,(KP [⟨10,1,b1 d.af⟩,⟨54,1,b1 (!d.x)⟩]).toArray,355⟩,⟨B,#[.int .i64 d.kind,.int .i64 d.frame,.bool d.r,.bool d.w,.bool d.x,.bool d.af,.bool d.ng,.int .i64 d.soft,.int .i64 d.note],95⟩] (C9 T 3 [⟨0,1,1⟩,⟨1,1,b1 (decide (level=3))⟩,⟨12,12,d.frame.toNat⟩]) bB5 (fun v' ha' hA'=>?_) bB5 rfl (qJ _) (aY (m:=6) mh rfl) (hperm:=by (exact aU));refine aS (⟨B,#[.int .i64 d.kind,.int .i64 d.frame,.bool d.r,.bool d.w,.bool d.x,.bool d.af,.bool d.ng,.int .i64 d.soft,.int .i64 d.note],95⟩::ha') ak ?_;obtain⟨q,cap,rfl⟩:=hA'.opened;refine run ?_;refine ah _ rfl (fun h1=>?_) (fun h1=>?_)
    ·have h1':decide (stage=1)=true:=h1;refine run ?_;refine drawM 11 [0,1,2,3,4,5,6,7,8,9] [10] [] ?_;refine gI ?_;refine jY rfl (fun hx2=>fM (fA 277 rfl) rfl (fun wc hG=>uT 7 _ wc)) ?_;refine gI ?_;refine jY rfl (fun hx2=>fM (fA 277 rfl) rfl (fun wc hG=>uT 11 _ wc)) ?_;refine gI ?_;refine eBS (KP [⟨7,1,b1 (!d.w)⟩,⟨11,1,b1 d.ng⟩]) (h:=?_) (hn:=by cases d.w<;>cases d.ng<;>rfl);refine kL ?_;simp only[DN];rintro _ hn ⟨T3,rfl,rfl⟩;refine jJ ?_;refine ry ?_;simp only[bI0,bI3,bI'];refine wB (m:=2) ([⟨7,1,b1 (!d.w)⟩,⟨11,1,b1 d.ng⟩].map NK) [⟨T3,(KP [⟨7,1,b1 (!d.w)⟩,⟨11,1,b1 d.ng⟩]).toArray,355⟩,⟨B,#[.int .i64 d.kind,.int .i64 d.frame,.bool d.r,.bool d.w,.bool d.x,.bool d.af,.bool d.ng,.int .i64 d.soft,.int .i64 d.note],95⟩] hA' bB5 (fun v2 ha2 hA2=>?_) bB5 rfl (qJ _) (aY (m:=6) mh rfl) (hperm:=by (exact aU));refine run ?_;have e:d.fields stage level=[⟨0,1,1⟩,⟨1,1,b1 (decide (level=3))⟩,⟨12,12,d.frame.toNat⟩,⟨10,1,b1 d.af⟩,⟨54,1,b1 (!d.x)⟩,⟨7,1,b1 (!d.w)⟩,⟨11,1,b1 d.ng⟩]:=by simp only[DsD.fields,hk0,oO,h1',cond_false,cond_true]
     obtain⟨q2,cap2,rfl⟩:=hA2.opened;have hfo:=DsD.wF hm;rw[e] at hfo;refine az (fun wc hG=>IZ _ hfo (hA2.lie (fun b hb=>hG.here _ (bJ2 _ hb)) bB5)) ?_;refine run ?_;refine fin1 ?_;rw[DsD.word,e]
    ·have h1':decide (stage=1)=false:=by simpa using h1
     have hso:=KQ hm hk2 h1';have hs0:=hso.1;have hs1:=hso.2;have hsz:((d.soft.toNat:Nat):Int)=d.soft:=by omega
     refine run ?_;refine drawM 15 [0,1,2,3,4,5,6,7,8,9,10,11,12,13] [14] [] ?_;refine gI ?_;refine jY rfl (fun hx2=>fM (fA 277 rfl) rfl (fun wc hG=>uT 6 _ wc)) ?_;refine gI ?_;refine jY rfl (fun hx2=>fM (fA 277 rfl) rfl (fun wc hG=>uT 7 _ wc)) ?_;refine gI ?_;refine eBS (KP [⟨6,1,b1 d.r⟩,⟨7,1,b1 d.w⟩,⟨55,4,d.soft.toNat⟩]) (h:=?_) (hn:=by rw[←hsz];cases d.r<;>cases d.w<;>rfl);refine kL ?_;simp only[DN];rintro _ hn ⟨T3,rfl,rfl⟩;refine jJ ?_;refine ry ?_;simp only[bI0,bI3,bI'];refine wB (m:=3) ([⟨6,1,b1 d.r⟩,⟨7,1,b1 d.w⟩,⟨55,4,d.soft.toNat⟩].map NK) [⟨T3,(KP [⟨6,1,b1 d.r⟩,⟨7,1,b1 d.w⟩,⟨55,4,d.soft.toNat⟩]).toArray,355⟩,⟨B,#[.int .i64 d.kind,.int .i64 d.frame,.bool d.r,.bool d.w,.bool d.x,.bool d.af,.bool d.ng,.int .i64 d.soft,.int .i64 d.note],95⟩] hA' bB5 (fun v2 ha2 hA2=>?_) bB5 rfl (qJ _) (aY (m:=9) mh rfl) (hperm:=by (exact aU));refine run ?_;have e:d.fields stage level=[⟨0,1,1⟩,⟨1,1,b1 (decide (level=3))⟩,⟨12,12,d.frame.toNat⟩,⟨10,1,b1 d.af⟩,⟨54,1,b1 (!d.x)⟩,⟨6,1,b1 d.r⟩,⟨7,1,b1 d.w⟩,⟨55,4,d.soft.toNat⟩]:=by simp only[DsD.fields,hk0,oO,h1',cond_false,cond_true]
     obtain⟨q2,cap2,rfl⟩:=hA2.opened;have hfo:=DsD.wF hm;rw[e] at hfo;refine az (fun wc hG=>IZ _ hfo (hA2.lie (fun b hb=>hG.here _ (bJ2 _ hb)) bB5)) ?_;refine run ?_;refine fin1 ?_;rw[DsD.word,e]
   ·have hk2:d.kind=1:=by
     simp at hk0 hk1;rcases k1 with e | e | e
     ·exact absurd e hk0
     ·exact e
     ·exact absurd e hk1
    have oO:decide (d.kind=1)=true:=by rw[hk2];rfl
    simp only[oO,bZ5,show b1 true=1 from rfl];refine run ?_;have e:d.fields stage level=[⟨0,1,1⟩,⟨1,1,1⟩,⟨12,12,d.frame.toNat⟩]:=by simp only[DsD.fields,hk0,oO,cond_false,cond_true]
    have hfo:=DsD.wF hm;rw[e] at hfo;refine az (fun wc hG=>IZ _ hfo ((C9 T 3 _).lie (fun b hb=>hG.here _ (bJ2 _ hb)) bB5)) ?_;refine run ?_;refine fin1 ?_;rw[DsD.word,e]
  ·rw[hlv,←hfz];cases decide (d.kind=1)<;>cases decide (level=3)<;>rfl
theorem nT{stage:Int}{v:Nat}{D:DsD}(hD:gZ stage level v=D):zK stage level v=bif (!D.may stage level||!decide ((D.word stage level:Int)=(v:Int))) then dG else D:=by
 unfold zK;rw[hD];have:decide ((D.word stage level:Int)=(v:Int))=decide (D.word stage level=v):=by rw[bI2,decide_eq_true_eq,decide_eq_true_eq];omega
 rw[this];cases D.may stage level<;>cases decide (D.word stage level=v)<;>rfl
theorem an9(stage:Int)(hs:stage=1∨stage=2)(level:Nat)(hl:level<4)(v:Nat)(hv:v<18446744073709551616)(w:World):Fn Tryz.prog 110 [.int .i64 stage,.int .i64 (level:Int),.int .u64 (v:Int)].toArray w [] (fun u _=>u=uj (zK stage level v)):=by
 have hlv:decide ((level:Int)<3)=!decide (level=3):=by rw[bI2,decide_eq_true_eq];simp;omega
 refine enter Tryz.func110 ?_;refine run ?_;intro B C;refine run ?_;refine az (fun wc hG=>uS v 0 bB4 hv wc) ?_;refine run ?_;refine ah _ rfl (fun h0=>?_) (fun h0=>?_)
 ·have h0':(!decide (dF v 0 1=1))=true:=h0;have hD:gZ stage level v=⟨0,0,false,false,false,false,false,0,(dF v 4 4:Int)⟩:=by rw[gZ,h0',cond_true];rfl
  have hb:=CZ v 4 4 bB4;refine run ?_;refine az (fun wc hG=>IY v 4 4 bB4 bB4 hv wc) ?_;refine run ?_;refine az (fun wc hG=>Dc stage hs level hl (⟨0,0,false,false,false,false,false,0,(dF v 4 4:Int)⟩) wc) ?_;refine aC ?_;refine bG (b:=!DsD.may stage level (⟨0,0,false,false,false,false,false,0,(dF v 4 4:Int)⟩)) (fun hg wc hG=>yO stage hs level hl (⟨0,0,false,false,false,false,false,0,(dF v 4 4:Int)⟩) bH5 wc) ?_;refine aC ?_;refine ah _ rfl (fun hc=>?_) (fun hc=>?_)
  ·refine run ?_;refine dR ?_;rw[nT hD,hc];rfl
  ·refine run ?_;refine dR ?_;rw[nT hD,hc];rfl
 ·have h0':(!decide (dF v 0 1=1))=false:=by simpa using h0
  have hb:=CZ v 12 12 bB4;refine run ?_;refine az (fun wc hG=>uS v 1 bB4 hv wc) ?_;refine aC ?_;refine ah _ rfl (fun h1=>?_) (fun h1=>?_)
  ·rw[hlv] at h1;have hD:gZ stage level v=⟨1,(dF v 12 12:Int),false,false,false,false,false,0,0⟩:=by rw[gZ,h0',cond_false,h1,cond_true];rfl
   refine run ?_;refine az (fun wc hG=>IY v 12 12 bB4 bB4 hv wc) ?_;refine run ?_;refine az (fun wc hG=>Dc stage hs level hl (⟨1,(dF v 12 12:Int),false,false,false,false,false,0,0⟩) wc) ?_;refine aC ?_;refine bG (b:=!DsD.may stage level (⟨1,(dF v 12 12:Int),false,false,false,false,false,0,0⟩)) (fun hg wc hG=>yO stage hs level hl (⟨1,(dF v 12 12:Int),false,false,false,false,false,0,0⟩) bH5 wc) ?_;refine aC ?_;refine ah _ rfl (fun hc=>?_) (fun hc=>?_)
   ·refine run ?_;refine dR ?_;rw[nT hD,hc];rfl
   ·refine run ?_;refine dR ?_;rw[nT hD,hc];rfl
  ·have h1':(decide (dF v 1 1=1)&&decide ((level:Int)<3))=false:=by simpa using h1
   rw[hlv] at h1';refine run ?_;refine az (fun wc hG=>IY v 12 12 bB4 bB4 hv wc) ?_;refine run ?_;refine az (fun wc hG=>uS v 10 bB4 hv wc) ?_;refine run ?_;refine az (fun wc hG=>uS v 54 bB4 hv wc) ?_;refine run ?_;refine ah _ rfl (fun hst=>?_) (fun hst=>?_)
   ·have hst':decide (stage=1)=true:=hst;have hD:gZ stage level v=⟨2,(dF v 12 12:Int),true,!decide (dF v 7 1=1),!decide (dF v 54 1=1),decide (dF v 10 1=1),decide (dF v 11 1=1),0,0⟩:=by rw[gZ,h0',cond_false,h1',cond_false,hst',cond_true];rfl
    refine run ?_;refine az (fun wc hG=>uS v 7 bB4 hv wc) ?_;refine run ?_;refine az (fun wc hG=>uS v 11 bB4 hv wc) ?_;refine run ?_;refine az (fun wc hG=>Dc stage hs level hl (⟨2,(dF v 12 12:Int),true,!decide (dF v 7 1=1),!decide (dF v 54 1=1),decide (dF v 10 1=1),decide (dF v 11 1=1),0,0⟩) wc) ?_;refine aC ?_;refine bG (b:=!DsD.may stage level (⟨2,(dF v 12 12:Int),true,!decide (dF v 7 1=1),!decide (dF v 54 1=1),decide (dF v 10 1=1),decide (dF v 11 1=1),0,0⟩)) (fun hg wc hG=>yO stage hs level hl (⟨2,(dF v 12 12:Int),true,!decide (dF v 7 1=1),!decide (dF v 54 1=1),decide (dF v 10 1=1),decide (dF v 11 1=1),0,0⟩) bH5 wc) ?_;refine aC ?_;refine ah _ rfl (fun hc=>?_) (fun hc=>?_)
    ·refine run ?_;refine dR ?_;rw[nT hD,hc];rfl
    ·refine run ?_;refine dR ?_;rw[nT hD,hc];rfl
   ·have hst':decide (stage=1)=false:=by simpa using hst
    have hD:gZ stage level v=⟨2,(dF v 12 12:Int),decide (dF v 6 1=1),decide (dF v 7 1=1),!decide (dF v 54 1=1),decide (dF v 10 1=1),false,(dF v 55 4:Int),0⟩:=by rw[gZ,h0',cond_false,h1',cond_false,hst',cond_false];rfl
    have hb4:=CZ v 55 4 bB4;refine run ?_;refine az (fun wc hG=>uS v 6 bB4 hv wc) ?_;refine run ?_;refine az (fun wc hG=>uS v 7 bB4 hv wc) ?_;refine run ?_;refine az (fun wc hG=>IY v 55 4 bB4 bB4 hv wc) ?_;refine run ?_;refine az (fun wc hG=>Dc stage hs level hl (⟨2,(dF v 12 12:Int),decide (dF v 6 1=1),decide (dF v 7 1=1),!decide (dF v 54 1=1),decide (dF v 10 1=1),false,(dF v 55 4:Int),0⟩) wc) ?_;refine aC ?_;refine bG (b:=!DsD.may stage level (⟨2,(dF v 12 12:Int),decide (dF v 6 1=1),decide (dF v 7 1=1),!decide (dF v 54 1=1),decide (dF v 10 1=1),false,(dF v 55 4:Int),0⟩)) (fun hg wc hG=>yO stage hs level hl (⟨2,(dF v 12 12:Int),decide (dF v 6 1=1),decide (dF v 7 1=1),!decide (dF v 54 1=1),decide (dF v 10 1=1),false,(dF v 55 4:Int),0⟩) bH5 wc) ?_;refine aC ?_;refine ah _ rfl (fun hc=>?_) (fun hc=>?_)
    ·refine run ?_;refine dR ?_;rw[nT hD,hc];rfl
    ·refine run ?_;refine dR ?_;rw[nT hD,hc];rfl
end
section
def lW(ws:List Nat):Prop:=∀ x∈ws,x<18446744073709551616
theorem lW.at{ws:List Nat}(h:lW ws)(p:Nat):ws.getD p 0<18446744073709551616:=by
 rw[bH8]
 cases hp:ws[p]? with
 | none=>simp
 | some x=>exact h x (bV6 hp)
theorem lW.set{ws:List Nat}(h:lW ws){x:Nat}(hx:x<18446744073709551616)(p:Nat):lW (ws.set p x):=by
 intro y hy;rcases bS3 hy with hy | rfl
 ·exact h y hy
 ·exact hx
theorem lW.lK{ws:List Nat}(h:lW ws)(p level:Nat)(d:DsD):lW (lK ws p level d):=h.set (DsD.word_lt _ _ _) p
theorem lW.uk{ws:List Nat}(h:lW ws)(o k:Nat):lW (uk ws o k):=by
 induction k with
 | zero=>exact h
 | succ k ih=>exact ih.set bB4 _
theorem lW.kQ{ws:List Nat}(h:lW ws)(f:Int):lW (kQ ws f):=h.uk _ _
theorem lW.jS:∀ (l:List Int) (p level:Nat) {ws:List Nat},lW ws→lW (jS page l p level ws).2:=by
 intro l
 induction l with
 | nil=>intro p level ws h;exact h
 | cons f r ih=>intro p level ws h;exact ih _ _ ((h.kQ f).lK _ _ _)
attribute [local irreducible] Hy St Ops DH dH
section
variable {P : Program} {T : Tab} {n : Nat} {w0 : World} {mu : List Nat} {l : Fm} {hp : Hp} {dd : Option Nat} {ty : TypeId} {pos : String} {af : Array Edge} {gg : Option (Nat × Bool)} {t u : TypeId} {x y : Operand}
theorem Xl{pi qi:Int}(hx:ev l x=some (.int .i64 pi))(hy:ev l y=some (.int .i64 qi))(p q r:Nat)(hpi:pi=(p:Int))(hqi:qi=(q:Int))(hr:p+q=r)(hb:r<9223372036854775808):Hy P n w0 mu l hp ⟨dd,.binOp .add t x y u,ty,pos,af,gg⟩ (.int .i64 (r:Int)):=by
 subst hpi hqi hr;have:=H8 (o:=⟨dd,.binOp .add t x y u,ty,pos,af,gg⟩) (P:=P) (n:=n) (w0:=w0) (mu:=mu) (hp:=hp) rfl hx hy bB3 bB3;rwa [←Int.natCast_add] at this
end
theorem yP(n cap:Nat)(q:Option Addr)(hn:n<1000000)(f:Int)(w:World):Fn Tryz.prog 43 [.agg #[.slice q n cap],.int .i64 f].toArray w [] (fun u _=>u=.bool (bK n f)):=by
 refine enter Tryz.func43 ?_;refine run ?_;intro B;refine run ?_;refine az (fun wc hG=>pz n cap bB3 q wc) ?_;refine run ?_;refine az (fun wc hG=>GG f _ wc) ?_;refine run ?_;refine fin1 ?_;unfold bK
 congr 2
 rw[bI2,decide_eq_true_eq,decide_eq_true_eq];omega
theorem KW(ws:List Nat)(hw:lW ws)(h:aA w v 1 (ws.map uV))(stage:Int)(hs:stage=1∨stage=2)(level:Nat)(hl:level<4)(f:Int)(hf:bK ws.length f=true)(page:Nat)(hp:page≤4095)(hn:ws.length<1000000):Fn Tryz.prog 108 [.agg #[v],.int .i64 stage,.int .i64 (level:Int),.int .i64 f,.int .i64 (page:Int)].toArray w [] (fun u _=>u=uj (zK stage level (ws.getD (jh f level page) 0))):=by
 obtain⟨q,cap,rfl,hne,hle⟩:=h.opened;have hfi:=iJ hf;have hpl:=Em (level:=level) (page:=page) hf;have NL:=Ai level page;have hne0:ws≠[]:=by intro e;subst e;simp at hpl
 obtain⟨b,o,rfl⟩:=hne hne0;have hr:=aj (h.row hpl);simp only[uV,bK3] at hr;refine enter Tryz.func108 ?_;refine run ?_;intro B C;refine run ?_;refine gU 13 ?_;refine dI ?_;refine fB (fun wc hG=>KO level hl page hp wc) ?_;refine NJ (Xl rfl rfl (f.toNat*8) (mg level page) (jh f level page) bB3 rfl rfl bB3) ?_;refine dI ?_;refine fB (fun wc hG=>an9 stage hs level hl _ (hw.at _) wc) ?_;refine dI ?_;refine run ?_;exact dR rfl
theorem GH(ws:List Nat)(hw:lW ws)(h:aA w v 1 (ws.map uV))(level:Nat)(hl:level<4)(f:Int)(hf:bK ws.length f=true)(page:Nat)(hp:page≤4095)(hn:ws.length<1000000):Fn Tryz.prog 108 [.agg #[v],.int .i64 2,.int .i64 (level:Int),.int .i64 f,.int .i64 (page:Int)].toArray w [] (fun u _=>u=uj (gJ ws (jh f level page) level)):=KW ws hw h 2 (.inr rfl) level hl f hf page hp hn
theorem aK4{fn:Func}{R:Value→Hp→Prop}{hp:Hp}{s0 s1 s2:Nat}{cs:Array Value}{tb:TypeId}{v1 v2:Value}(h:R (.tuple #[v,.agg cs,v1,v2]) hp)(hr:fn.results=#[.tmp s0,.cell a t,.tmp s1,.tmp s2]:=by rfl)(h0:look l s0=some v:=by rfl)(hv:look l a=some (.pointer (some ⟨b,0,none⟩)):=by rfl)(h1:look l s1=some v1:=by rfl)(h2:look l s2=some v2:=by rfl)(hag:mem Tb.ag t=true:=by rfl)(hm:(⟨b,cs,tb⟩:mO)∈hp:=by (first | (with_reducible apply mh) | (focus ((repeat (first | (with_reducible apply mh) | (with_reducible apply mt) | (with_reducible apply bI4)));done))))(hz:lk Tb.sz t=some cs.size:=by rfl):Fin Tryz.prog fn R .ret l hp:=
 ⟨.inl rfl,[v,.agg cs,v1,v2],by rw[hr];exact⟨h0,⟨⟨b,cs,tb⟩,hm,hv,.inr ⟨aB.gag hag,aB.zO hz,rfl⟩⟩,h1,h2,trivial⟩,h⟩
theorem OD(ws:List Nat)(hw:lW ws)(h:aA w v 1 (ws.map uV))(root:Int)(page:Nat)(hp:page≤4095)(hn:ws.length<1000000):Fn Tryz.prog 93 [.agg #[v],.int .i64 root,.int .i64 (page:Int)].toArray w [] (fun u hn=>∃ v2 h2,u=.tuple #[v2,uj (bif (aO ws root page 3).ok then (aO ws root page 3).d else dG),.int .i64 (bif (aO ws root page 3).ok then ((aO ws root page 3).lv:Int) else ((aO ws root page 3).fs.length:Int)),.bool (aO ws root page 3).ok]∧Own 3 1 v2 h2 ((aO ws root page 3).fs.map bY)∧aI h2 hn):=by
 obtain⟨q,cap,rfl,hne,hle⟩:=h.opened;refine enter Tryz.func93 ?_;refine run ?_;intro B C;refine run ?_;refine aK (σ:=Nat×Int×List Int×DsD×Value×Hp) (fun s=>[(10,s.2.2.2.2.1),(11,.int .i64 s.2.1),(12,.int .i64 (s.1:Int))]) (fun s=>⟨C,dsC dG,95⟩::⟨B,#[.slice q ws.length cap],24⟩::s.2.2.2.2.2) (fun s=>s.1<4∧s.2.2.1.length=s.1∧bT ws page 3 (4-s.1) s.1 s.2.1 s.2.2.1 s.2.2.2.1=aO ws root page 3∧Acc 3 1 s.2.2.2.2.1 s.2.2.2.2.2 (s.2.2.1.map bY)) (fun s=>4-s.1) (0,root,[],dG,_,[]) ⟨(by decide:0<4),rfl,rfl,Acc.nil _ _⟩ ?_;rintro⟨level,f,fs,d,v2,ha⟩ m hm ⟨hl,hfs,hwk,hA⟩;dsimp only at hm hl hfs hwk hA ⊢;refine run ?_;refine az (fun wc hG=>yP ws.length cap q hn f wc) ?_;refine run ?_;have h4:4-level=(3-level)+1:=by omega
 rw[h4,bT] at hwk;refine ah _ rfl (fun hc=>?_) (fun hc=>?_)
 ·have hh:bK ws.length f=false:=by simpa using hc
  rw[hh,cond_false] at hwk;rw[←hwk];refine run ?_;refine aK4 ?_;refine⟨_,ha,?_,hA.own,by (exact ak)⟩;simp only[cond_false,hfs];rfl
 ·have hh:bK ws.length f=true:=by simpa using hc
  rw[hh,cond_true] at hwk;refine run ?_;intro T;refine dK (c:=bY f) (hp':=[⟨T,#[.int .i64 f],3⟩,⟨C,dsC dG,95⟩,⟨B,#[.slice q ws.length cap],24⟩]) hA (fun v' ha' hA'=>?_) bB9 (aY (m:=1) mh rfl) (hperm:=by (exact aU));refine aS (⟨C,dsC dG,95⟩::⟨B,#[.slice q ws.length cap],24⟩::ha') ak ?_;refine run ?_;refine az (fun wc hG=>GH ws hw (h.good hG) level hl f hh page hp hn) ?_;generalize hd':gJ ws (jh f level page) level=d' at hwk;have htab:d'.kind=1→level<3:=fun e=>sZ (by rw[hd'];exact e);refine run ?_;intro D;refine ah _ rfl (fun hc2=>?_) (fun hc2=>?_)
  ·have hk:(!decide (d'.kind=1))=true:=hc2;rw[hk,bZ5,cond_true] at hwk;rw[←hwk];obtain⟨q3,cap3,rfl⟩:=hA'.own.opened;refine run ?_;refine late 4 2 ?_;refine WQ 3 1 ?_;refine WQ 3 2 ?_;refine xB 3 [0,1,2] [] [] ?_;refine gI ?_;refine kL ?_;simp only[DN];refine jJ ?_;refine ry ?_;simp only[bI0,bI3,bI'];refine run ?_;refine aK4 ?_;refine⟨_,ha',?_,by simpa using hA'.own,by (exact ak)⟩;simp only[cond_true,qQ.lv,bJ9,bH7,hfs,bZ1,bL6,bS0,bK2,bV0]
  ·have hk:decide (d'.kind=1)=true:=by simpa using hc2
   have h3:=htab (of_decide_eq_true hk);rw[hk,show decide (level=3)=false from decide_eq_false bB3] at hwk;simp only[bK1,bU3,cond_false] at hwk;refine run ?_;refine aF (level+1,d'.frame,fs++[f],d',v',ha') ⟨by dsimp only;omega,by simp[hfs],?_,by simpa using hA'⟩;rw[←hwk];show bT ws page 3 (4-(level+1)) _ _ _ _=_;rw[show 4-(level+1)=3-level by omega]
theorem Own.aw9{h:Hp}{xs:List Nat}(hA:Own e 1 v h (xs.map uV))(hk:k<xs.length):∃ g cap cur,v=.slice (some ⟨g,0,none⟩) xs.length cap∧h=[⟨g,cur,e⟩]∧k+1≤cur.size ∧
  ∀ z:Nat,Own e 1 (.slice (some ⟨g,0,none⟩) xs.length cap) [⟨g,cur.setIfInBounds k (.int .u64 (z:Int)),e⟩] ((xs.set k z).map uV):=by
 obtain⟨g,cap,cur,rfl,rfl,hr⟩:=hA.row (n:=xs.length) bB5 bB3
 have hall0:∀ (ys:List Nat),∀ c∈ys.map uV,c.length=1∧c.all (·.oneCell')=true:=by
  intro ys c hc;obtain⟨x,_,rfl⟩:=bI7.1 hc;exact⟨rfl,rfl⟩
 have hall:∀ c∈xs.map uV,c.length=1:=fun c hc=>(hall0 xs c hc).1
 have hi:(xs.map uV)[k]?=some (uV (xs.getD k 0)):=by
  rw[bJ',bH8,bH9 hk];rfl
 have hsz:=hr.size;have hle:=hr.le;refine⟨g,cap,cur,rfl,rfl,by omega,fun z=>⟨hall0 _,.inr ⟨g,cap,_,by simp,rfl,?_⟩⟩⟩;have h2:=hr.put hall hi (k:=0) (vs:=[.int .u64 (z:Int)]) bB5;have e1:(uV (xs.getD k 0)).take 0++[Value.int .u64 (z:Int)]++(uV (xs.getD k 0)).drop (0+[Value.int .u64 (z:Int)].length)=uV z:=rfl;rw[e1,bK3,bL4] at h2;have e2:((xs.set k z).map uV).length=xs.length:=by simp
 rw[e2,bN8];exact h2
theorem Own.Ce{g cap:Nat}{cur:Array Value}{xs:List Nat}(hA:Own e 1 (.slice (some ⟨g,0,none⟩) n cap) [⟨g,cur,e⟩] (xs.map uV))(hk:k<xs.length):k+1≤cur.size∧k<n∧n=xs.length ∧
  ∀ z:Nat,Own e 1 (.slice (some ⟨g,0,none⟩) n cap) [⟨g,cur.setIfInBounds k (.int .u64 (z:Int)),e⟩] ((xs.set k z).map uV):=by
 obtain⟨g',cap',cur',e1,e2,h1,h2⟩:=hA.aw9 hk;injection e1 with e1 e3 e4
 injection e1 with e1
 injection e1 with e1
 injection e2 with e2
 injection e2 with _ e2
 subst e1 e3 e4 e2;exact⟨h1,hk,rfl,h2⟩
theorem ig{w0:World}{mu:List Nat}{Q:Exit→Fm→Hp→Prop}{ops:List Oper}{h1 hn rest:Hp}(hle:aI h1 hn)(h:Ops Tryz.prog n w0 mu all ops l (h1++rest) Q):Ops Tryz.prog n w0 mu all ops l (hn++rest) Q:=aS _ (cnt1 hle) h
theorem KX{fn:Func}{R:Value→Hp→Prop}{hp:Hp}{s1 s2:Nat}{cs:Array Value}{tb:TypeId}{v1 v2:Value}(h:R (.tuple #[.agg cs,v1,v2]) hp)(hr:fn.results=#[.cell a t,.tmp s1,.tmp s2]:=by rfl)(hv:look l a=some (.pointer (some ⟨b,0,none⟩)):=by rfl)(h1:look l s1=some v1:=by rfl)(h2:look l s2=some v2:=by rfl)(hag:mem Tb.ag t=true:=by rfl)(hm:(⟨b,cs,tb⟩:mO)∈hp:=by (first | (with_reducible apply mh) | (focus ((repeat (first | (with_reducible apply mh) | (with_reducible apply mt) | (with_reducible apply bI4)));done))))(hz:lk Tb.sz t=some cs.size:=by rfl):Fin Tryz.prog fn R .ret l hp:=
 ⟨.inl rfl,[.agg cs,v1,v2],by rw[hr];exact⟨⟨⟨b,cs,tb⟩,hm,hv,.inr ⟨aB.gag hag,aB.zO hz,rfl⟩⟩,h1,h2,trivial⟩,h⟩
theorem QN(ws:List Nat)(hw:lW ws)(h:aA w v 1 (ws.map uV))(root:Int)(page:Nat)(hp:page≤4095)(hn:ws.length<1000000):Fn Tryz.prog 37 [.agg #[v],.int .i64 root,.int .i64 (page:Int)].toArray w [] (fun u hn=>u=.tuple #[uj (iE ws root page).d,.int .i64 ((iE ws root page).level:Int),.int .i64 (iE ws root page).e]):=by
 obtain⟨q,cap,rfl,hne,hle⟩:=h.opened;refine enter Tryz.func37 ?_;refine run ?_;intro B C;refine run ?_;refine bH (fun wc hG=>OD ws hw (h.good hG) root page hp hn) ?_;rintro u hn2 ⟨v2,h2,rfl,hO,hle2⟩;refine cZ (_++hn2) bJ5 ?_;simp only[bI0,bI3];refine run ?_;intro D
 cases hk:(aO ws root page 3).ok with
 | false=>
  have hg:iE ws root page=⟨dG,0,2⟩:=by simp[iE,hk]
  rw[hg];refine aP ?_;refine KX ?_
  rfl
 | true=>
  have hg:iE ws root page=⟨(aO ws root page 3).d,(aO ws root page 3).lv,0⟩:=by simp[iE,hk]
  rw[hg];simp only[cond_true];refine aP ?_;refine KX ?_;rfl
theorem I9(ws:List Nat)(h:aA w v 1 (ws.map uV))(f:Int)(level:Nat)(hl:level<4)(hf:bK ws.length f=true)(page:Nat)(hp:page≤4095)(d:DsD)(hm:d.may 2 level=true)(hn:ws.length<1000000):Fn Tryz.prog 105 [.agg #[v],.int .i64 f,.int .i64 (level:Int),.int .i64 (page:Int),uj d].toArray w [] (fun u hn=>Xj (lK ws (jh f level page) level d) u hn):=by
 have hfi:=iJ hf;have hpl:=Em (level:=level) (page:=page) hf;obtain⟨q,cap,rfl,hne,hle⟩:=h.opened;refine enter Tryz.func105 ?_;refine run ?_;intro B C D;refine run ?_;refine bH (fun wc hG=>Ak ws _ (h.good hG) hn) ?_;rintro u hn2 ⟨v2,h2,rfl,hO,hle2⟩;obtain⟨g,cap2,cur,rfl,rfl,hsz,hset⟩:=hO.aw9 hpl;refine ig hle2 ?_;simp only[bI0,bI3];refine run ?_;intro E;refine run ?_;refine gU 11 ?_;refine dI ?_;refine fB (fun wc hG=>KO level hl page hp wc) ?_;refine NJ (Xl rfl rfl (f.toNat*8) (mg level page) (jh f level page) bB3 rfl rfl bB3) ?_;refine dI ?_;refine fB (fun wc hG=>yO 2 (.inr rfl) level hl d hm wc) ?_;refine dI ?_;refine run ?_;refine dR ⟨_,_,rfl,hset _,?_⟩
 (exact ak)
theorem Am{α:Type}[Inhabited α](p:α→Bool)(l:List α):∀ j,p (l.getD j default)=true→∃ j0,j0≤j∧p (l.getD j0 default)=true∧∀ i,i<j0→p (l.getD i default)=false:=by
 intro j
 induction j using Nat.strongRecOn with
 | ind j ih=>
  intro h;by_cases hx:∃ i,i<j∧p (l.getD i default)=true
  ·obtain⟨i,hi,hp⟩:=hx;obtain⟨j0,h0,h1,h2⟩:=ih i hi hp;exact⟨j0,by omega,h1,h2⟩
  ·refine⟨j,bI9 _,h,fun i hi=>?_⟩
   cases hp:p (l.getD i default) with
   | false=>rfl
   | true=>exact absurd ⟨i,hi,hp⟩ hx
theorem OE(l:List Int)(k:Nat)(hk:k<l.length):decide (gV (fun t=>decide (t=l.getD k default)) l=(k:Int))=!(l.take k).any (fun t=>decide (t=l.getD k 0)):=by
 cases h:(l.take k).any (fun t=>decide (t=l.getD k 0)) with
 | false=>
  rw[fG hk bB5 fun j hj=>?_]
  ·simp
  ·have h2:=bS8.1 h (l.getD j 0) (by
    rw[bH8,bH9 bB3]
    exact bQ7.2 ⟨j,by omega,rfl⟩)
   simpa using h2
 | true=>
  obtain⟨x,hx,hxe⟩:=bM8.1 h;obtain⟨j,hj,rfl⟩:=bQ7.1 hx;have hj1:j<l.length:=by omega
  have hje:decide (l.getD j default=l.getD k default)=true:=by
   rw[bH8,bH9 hj1];exact hxe
  obtain⟨j0,h0,h1,h2⟩:=Am (fun t=>decide (t=l.getD k default)) l j hje;rw[fG (k:=j0) bB3 h1 h2];simp;omega
theorem ac0(n cap:Nat)(q:Option Addr)(hn:n<1000000)(fs l:List Int){v1 v2:Value}(h1:aA w v1 1 (l.map bY))(h2:aA w v2 1 (fs.map bY)):Fn Tryz.prog 104 [.agg #[.slice q n cap],v1,v2].toArray w [] (fun u _=>u=.bool (nS n fs l)):=by
 obtain⟨q1,cap1,rfl,hne1,hle1⟩:=h1.opened;obtain⟨q2,cap2,rfl,hne2,hle2⟩:=h2.opened;refine enter Tryz.func104 ?_;refine run ?_;intro B;refine run ?_;refine aK (σ:=Nat) (fun k=>[(7,.int .i64 (k:Int))]) (fun _=>[⟨B,#[.slice q n cap],24⟩]) (fun k=>k≤l.length∧∀ j,j<k→oh n fs l j=true) (fun k=>l.length-k) 0 ⟨bI1 _,fun j hj=>absurd hj bB3⟩ ?_;rintro k m rfl ⟨hk,hyes⟩;refine run ?_;refine ah _ rfl (fun hc=>?_) (fun hc=>?_)
 ·have hlt:k<l.length:=by simp at hc;omega
  obtain⟨b,o,rfl⟩:=hne1 bB7;have hr:=aj (h1.row hlt);simp only[bK3] at hr;refine run ?_;refine dA ?_;refine bg ?_;refine fB (fun wc hG=>yP n cap q hn _ wc) ?_;refine bg ?_;refine eX (fun hg wc hG=>KU _ l _ (h1.good hG)) ?_;refine bg ?_;refine eX (fun hg wc hG=>KU _ fs _ (h2.good hG)) ?_;refine bg ?_;refine run ?_;have e1:=OE l k hlt
  have e2:(0≤gV (fun t=>decide (t=l.getD k default)) fs)↔fs.any (fun t=>decide (t=l.getD k 0))=true:=by
   rw[←gq];simp
  refine ah _ rfl (fun hc2=>?_) (fun hc2=>?_)
  ·refine run ?_;refine fin1 ?_;rw[BB hlt];rw[e1] at hc2
   have:oh n fs l k=false:=by
    unfold oh
    cases hh:fs.any (fun t=>decide (t=l.getD k 0)) with
    | true=>simp
    | false=>
     have:decide (0≤gV (fun t=>decide (t=l.getD k default)) fs)=false:=by
      rw[decide_eq_false_iff_not,e2,hh];simp
     rw[this] at hc2;have h3:bK n (l[k]?.getD 0)=false∨l[k]?.getD 0∈List.take k l:=by simpa using hc2
     simp;intro h;rcases h3 with h4 | h4
     ·rw[h4] at h;cases h
     ·exact h4
   exact this
  ·refine run ?_;refine aF (k+1) ⟨hlt,fun j hj=>?_⟩;rcases bJ0.1 hj with hj | rfl
   ·exact hyes j hj
   ·rw[e1] at hc2;unfold oh
    cases hh:fs.any (fun t=>decide (t=l.getD j 0)) with
    | true=>
     have:decide (0≤gV (fun t=>decide (t=l.getD j default)) fs)=true:=by
      rw[decide_eq_true_eq,e2,hh]
     rw[this] at hc2
     simp at hc2
    | false=>
     have:decide (0≤gV (fun t=>decide (t=l.getD j default)) fs)=false:=by
      rw[decide_eq_false_iff_not,e2,hh];simp
     rw[this] at hc2;simpa using hc2
 ·refine run ?_;refine fin1 ?_;have:k=l.length:=by simp at hc;omega
  subst this;rw[xG hyes]
theorem ac1(ws:List Nat){v1:Value}(h:aA w v 1 (ws.map uV))(f:Int)(hf:bK ws.length f=true)(hv1:aA w v1 1 ([f].map bY))(hn:ws.length<1000000):Fn Tryz.prog 106 [.agg #[v],v1].toArray w [] (fun u hn=>Xj (kQ ws f) u hn):=by
 have hfi:=iJ hf;obtain⟨q,cap,rfl,hne,hle⟩:=h.opened;obtain⟨q1,cap1,rfl,hne1,hle1⟩:=hv1.opened;refine enter Tryz.func106 ?_;refine run ?_;intro B C;refine run ?_;refine bH (fun wc hG=>Ak ws _ (h.good hG) hn) ?_;rintro u hn2 ⟨v2,h2,rfl,hO,hle2⟩;refine ig hle2 ?_;obtain⟨g,cap3,cur,rfl,rfl,_⟩:=hO.row (n:=ws.length) bB5 bB3;simp only[bI0,bI3];refine run ?_;intro D;refine run ?_;refine aK (σ:=Nat×List Nat×Array Value) (fun s=>[(6,.int .i64 (s.1:Int))]) (fun s=>[⟨g,s.2.2,53⟩,⟨D,#[.slice (some ⟨g,0,none⟩) ws.length cap3],24⟩,⟨C,#[.slice none 0 0],24⟩,⟨B,#[.slice q ws.length cap],24⟩]) (fun s=>(s.1=0∧s.2.1=ws∨s.1=1∧s.2.1=kQ ws f)∧Own 53 1 (.slice (some ⟨g,0,none⟩) ws.length cap3) [⟨g,s.2.2,53⟩] (s.2.1.map uV)) (fun s=>1-s.1) (0,ws,cur) ⟨.inl ⟨rfl,rfl⟩,hO⟩ ?_;rintro⟨i,us,cu⟩ m hm ⟨hi,hU⟩;dsimp only at hm hi hU ⊢;refine run ?_;refine ah _ rfl (fun hc=>?_) (fun hc=>?_)
 ·have hi0:i=0:=by
   rcases hi with h | h
   ·exact h.1
   ·rw[h.1] at hc;simp at hc
  subst hi0
  obtain rfl:us=ws:=by
   rcases hi with h | h
   ·exact h.2
   ·exact absurd h.1 bB4
  obtain⟨b1,o1,rfl⟩:=hne1 bB5;have hl1:([f]:List Int).length=1:=rfl;have hr:=aj (hv1.row (k:=0) bB5);simp only[bR6,bL4,show ([f]:List Int).getD 0 default=f from rfl] at hr;refine run ?_;refine aK (σ:=Nat×Array Value) (fun s=>[(7,.int .i64 (s.1:Int))]) (fun s=>[⟨g,s.2,53⟩,⟨D,#[.slice (some ⟨g,0,none⟩) us.length cap3],24⟩,⟨C,#[.slice none 0 0],24⟩,⟨B,#[.slice q us.length cap],24⟩]) (fun s=>s.1≤8∧Own 53 1 (.slice (some ⟨g,0,none⟩) us.length cap3) [⟨g,s.2,53⟩] ((uk us (f.toNat*8) s.1).map uV)) (fun s=>8-s.1) (0,cu) ⟨by dsimp only;omega,hU⟩ ?_;rintro⟨k,cv⟩ m2 hm2 ⟨hk,hV⟩;dsimp only at hm2 hk hV ⊢;refine run ?_;refine ah _ rfl (fun hc2=>?_) (fun hc2=>?_)
  ·have hk8:k<8:=by simp at hc2;omega
   obtain⟨hsz,hlt,_,hset⟩:=hV.Ce (k:=f.toNat*8+k) (by rw[Aj];omega);refine run ?_;refine gU 9 ?_;refine dI ?_;rw[show f*8+(k:Int)=((f.toNat*8+k:Nat):Int) by omega];refine run ?_;refine aF (k+1,_) ⟨hk8,hset 0⟩
  ·have:k=8:=by simp at hc2;omega
   subst this;refine run ?_;refine aF (1,kQ us f,cv) ⟨.inr ⟨rfl,rfl⟩,hV⟩
 ·refine run ?_
  have hi1:us=kQ ws f:=by
   rcases hi with h | h
   ·rw[h.1] at hc;simp at hc
   ·exact h.2
  subst hi1;refine dR ⟨_,_,rfl,hU,?_⟩
  (exact ak)
end
def aw'(r:I5)(u:Value)(hn:Hp):Prop:=∃ v h1,u=.tuple #[.agg #[v],.int .i64 r.e]∧Own 53 1 v h1 (r.ws.map uV)∧aI h1 hn
def Tu(r:I5)(u:Value)(hn:Hp):Prop:=∃ v h1 v2 h2,u=.tuple #[.agg #[v],v2,.int .i64 r.e]∧Own 53 1 v h1 (r.ws.map uV)∧Own 3 1 v2 h2 (r.left.map bY)∧aI (h1++h2) hn
theorem Own.nil(e sz:Nat):Own e sz (.slice none 0 0) [] []:=⟨by simp,.inl ⟨rfl,rfl,rfl⟩⟩
theorem rE{fn:Func}{R:Value→Hp→Prop}{hp:Hp}{s1 s2:Nat}{cs:Array Value}{tb:TypeId}{v1 v2:Value}(h:R (.tuple #[.agg cs,v1,v2]) hp)(hr:fn.results=#[.cell a t,.tmp s1,.tmp s2]:=by rfl)(hv:look l a=some (.pointer (some ⟨b,0,none⟩)):=by rfl)(h1:look l s1=some v1:=by rfl)(h2:look l s2=some v2:=by rfl)(hag:mem Tb.ag t=true:=by rfl)(hm:(⟨b,cs,tb⟩:mO)∈hp:=by (first | (with_reducible apply mh) | (focus ((repeat (first | (with_reducible apply mh) | (with_reducible apply mt) | (with_reducible apply bI4)));done))))(hz:lk Tb.sz t=some cs.size:=by rfl):Fin Tryz.prog fn R .ret l hp:=KX h hr hv h1 h2 hag hm hz
theorem GI{fn:Func}{R:Value→Hp→Prop}{hp:Hp}{a2 t2 b2 s2:Nat}{cs cs2:Array Value}{tb tb2:TypeId}{v2:Value}(h:R (.tuple #[.agg cs,.agg cs2,v2]) hp)(hr:fn.results=#[.cell a t,.cell a2 t2,.tmp s2]:=by rfl)(hv:look l a=some (.pointer (some ⟨b,0,none⟩)):=by rfl)(hw:look l a2=some (.pointer (some ⟨b2,0,none⟩)):=by rfl)(h2:look l s2=some v2:=by rfl)(hag:mem Tb.ag t=true:=by rfl)(hm:(⟨b,cs,tb⟩:mO)∈hp:=by (first | (with_reducible apply mh) | (focus ((repeat (first | (with_reducible apply mh) | (with_reducible apply mt) | (with_reducible apply bI4)));done))))(hz:lk Tb.sz t=some cs.size:=by rfl)(aV4:mem Tb.ag t2=true:=by rfl)(hm2:(⟨b2,cs2,tb2⟩:mO)∈hp:=by (first | (with_reducible apply mh) | (focus ((repeat (first | (with_reducible apply mh) | (with_reducible apply mt) | (with_reducible apply bI4)));done))))(hz2:lk Tb.sz t2=some cs2.size:=by rfl):Fin Tryz.prog fn R .ret l hp:=
 ⟨.inl rfl,[.agg cs,.agg cs2,v2],by rw[hr];exact⟨⟨⟨b,cs,tb⟩,hm,hv,.inr ⟨aB.gag hag,aB.zO hz,rfl⟩⟩,⟨⟨b2,cs2,tb2⟩,hm2,hw,.inr ⟨aB.gag aV4,aB.zO hz2,rfl⟩⟩,h2,trivial⟩,h⟩
theorem aI.mem{r h:Hp}(hl:aI r h){b:mO}(hb:b∈r):b∈h:=by
 obtain⟨x,hx⟩:=hl.perm;exact hx.mem_iff.1 (bJ2 _ hb)
theorem Tv{ws:List Nat}{down:Nat}:∀ (k level:Nat) (f:Int) (fs:List Int) (d:DsD),(bT ws page down k level f fs d).fs.length≤fs.length+k:=by
 intro k
 induction k with
 | zero=>intro level f fs d;exact bI9 _
 | succ k ih=>
  intro level f fs d;rw[bT]
  cases bK ws.length f with
  | false=>simp
  | true=>
   simp only[cond_true]
   cases (!decide ((gJ ws (jh f level page) level).kind=1)||decide (level=down)) with
   | true=>simp
   | false=>
    have:=ih (level+1) (gJ ws (jh f level page) level).frame (fs++[f]) (gJ ws (jh f level page) level);rw[bJ9,bZ1] at this;simp only[cond_false];omega
theorem yQ(ws:List Nat)(root:Int)(page down:Nat):(aO ws root page down).fs.length≤4:=Tv 4 0 root [] dG
theorem En(fs:List Int)(f:Int)(d:DsD)(b:Bool)(page:Nat):(⟨fs++[f],d,b⟩:qQ).lv=fs.length∧(⟨fs++[f],d,b⟩:qQ).place page=jh f fs.length page:=by
 have h1:(⟨fs++[f],d,b⟩:qQ).lv=fs.length:=by simp[qQ.lv]
 refine⟨h1,?_⟩;unfold qQ.place;rw[h1]
 congr 1
 simp[bH8]
section
attribute [local irreducible] Hy St Ops DH dH
theorem ax0(ws:List Nat)(hw:lW ws)(h:aA w v 1 (ws.map uV))(root:Int)(page:Nat)(hp:page≤4095)(level:Nat)(hl:level<4)(d:DsD)(hm:d.may 2 level=true)(hn:ws.length<1000000):Fn Tryz.prog 52 [.agg #[v],.int .i64 root,.int .i64 (page:Int),.int .i64 (level:Int),uj d].toArray w [] (fun u hn=>aw' (fC ws root page level d) u hn):=by
 obtain⟨q,cap,rfl,hne,hle⟩:=h.opened;refine enter Tryz.func52 ?_;refine run ?_;intro B C D;refine run ?_;refine aK (σ:=Nat×Int×List Int×DsD) (fun s=>[(12,.int .i64 s.2.1),(13,.int .i64 (s.1:Int))]) (fun _=>[⟨D,#[.slice none 0 0],24⟩,⟨C,#[.int .i64 d.kind,.int .i64 d.frame,.bool d.r,.bool d.w,.bool d.x,.bool d.af,.bool d.ng,.int .i64 d.soft,.int .i64 d.note],95⟩,⟨B,#[.slice q ws.length cap],24⟩]) (fun s=>s.1≤level∧s.2.2.1.length=s.1∧bT ws page level (4-s.1) s.1 s.2.1 s.2.2.1 s.2.2.2=aO ws root page level) (fun s=>4-s.1) (0,root,[],dG) ⟨bI1 _,rfl,rfl⟩ ?_;rintro⟨k,f,fs,d0⟩ m hm2 ⟨hk,hfs,hwk⟩;dsimp only at hm2 hk hfs hwk ⊢;have h4:4-k=(3-k)+1:=by omega
 rw[h4,bT] at hwk;refine run ?_;refine az (fun wc hG=>yP ws.length cap q hn f wc) ?_;refine run ?_;refine ah _ rfl (fun hc=>?_) (fun hc=>?_)
 ·have hh:bK ws.length f=false:=by simpa using hc
  rw[hh,cond_false] at hwk;refine run ?_;have e:fC ws root page level d=badM 2:=by simp only[fC,←hwk];rfl
  rw[e];refine fZ ⟨_,_,rfl,Own.nil _ _,trivial⟩
 ·have hh:bK ws.length f=true:=by simpa using hc
  rw[hh,cond_true] at hwk;refine run ?_;refine ah _ rfl (fun hc2=>?_) (fun hc2=>?_)
  ·have hkl:k=level:=by simp at hc2;omega
   subst hkl;rw[decide_eq_true rfl,Bool.or_true,cond_true] at hwk
   have e:fC ws root page k d=⟨lK ws (jh f k page) k d,[],0⟩:=by
    obtain⟨p1,p2⟩:=En fs f (gJ ws (jh f k page) k) true page;rw[hfs] at p1 p2;simp only[fC,←hwk,p1,p2,decide_true,bK1,cond_false]
   rw[e];refine run ?_;refine bH (fun wc hG=>I9 ws (h.good hG) f k hl hh page hp d hm hn) ?_;rintro u hn2 ⟨v2,h2,rfl,hO,hle2⟩;obtain⟨q2,cap2,rfl⟩:=hO.opened;refine ig hle2 ?_;refine cZ (_++h2) bJ5 ?_;simp only[bI0,bI3];refine run ?_;refine fZ ⟨_,_,rfl,hO,by (exact ak)⟩
  ·have hkl:k<level:=by simp at hc2;omega
   rw[show decide (k=level)=false from decide_eq_false bB3,bU3] at hwk;refine run ?_;refine az (fun wc hG=>GH ws hw (h.good hG) k bB3 f hh page hp hn) ?_;generalize hd':gJ ws (jh f k page) k=d' at hwk;refine run ?_;intro E;refine run ?_;refine ah _ rfl (fun hc3=>?_) (fun hc3=>?_)
   ·have hk1:(!decide (d'.kind=1))=true:=hc3;rw[hk1,cond_true] at hwk;refine run ?_
    have e:fC ws root page level d=badM 3:=by
     obtain⟨p1,p2⟩:=En fs f d' true page;rw[hfs] at p1;simp only[fC,←hwk,p1,show decide (k=level)=false from decide_eq_false bB3];rfl
    rw[e];refine fZ ⟨_,_,rfl,Own.nil _ _,trivial⟩
   ·have hk1:(!decide (d'.kind=1))=false:=by simpa using hc3
    rw[hk1,cond_false] at hwk;refine run ?_;refine aF (k+1,d'.frame,fs++[f],d') ⟨hkl,by simp[hfs],?_⟩;rw[←hwk];show bT ws page level (4-(k+1)) _ _ _ _=_;rw[show 4-(k+1)=3-k by omega]
def aK5(w0:World)(mv:Value)(hm:Hp)(us:List Nat):Prop:=∀ wc hp,Good w0 [] hp wc→(∀ b∈hm,b∈hp)→aA wc mv 1 (us.map uV)
structure LkS where
 i:Nat
 us:List Nat
 ft:Int
 p:Option Addr
 mq:Option Addr
 mc:Nat
 hm:Hp
theorem aA.drop{p:Option Addr}{c:Nat}{xs:List Int}(h:aA w (.slice p n c) 1 (xs.map bY))(hn:n=xs.length)(hc:n≤c)(hi:i≤n):∃ p',sliced p i n c 1=.slice p' (xs.drop i).length (c-i)∧(xs.drop i).length≤c-i∧aA w (.slice p' (xs.drop i).length (c-i)) 1 ((xs.drop i).map bY):=by
 subst hn;obtain⟨⟨q,cap,e,hne⟩,hle⟩:=h;injection e with e1 e2 e3
 subst e1 e3;have hdl:(xs.drop i).length=xs.length-i:=bN9;refine⟨_,by unfold sliced;rw[hdl],by omega,⟨⟨_,_,by rw[bH7],fun hx=>?_⟩,by rw[bH7] at hle ⊢;omega⟩⟩
 have hlt:i<xs.length:=by
  rcases bQ3 i xs.length with h | h
  ·exact h
  ·rw[bM0 h] at hx;exact absurd rfl hx
 obtain⟨b,o,rfl,hr⟩:=hne (by intro e;simp at e;subst e;simp at hlt);refine⟨b,o+i,?_,fun j cc hj=>?_⟩
 ·rw[if_neg bB3,bK3];simp[wo]
 ·rw[List.map_drop,bP2] at hj;have:=hr (i+j) cc hj;rw[bK3] at this ⊢;rwa [←bV2] at this
theorem ax5(ws:List Nat)(hw:lW ws){vl:Value}(h:aA w v 1 (ws.map uV))(l:List Int)(hv:aA w vl 1 (l.map bY))(hcap:∃ p c,vl=.slice p l.length c∧l.length≤c)(root:Int)(page:Nat)(hp:page≤4095)(d:DsD)(hm:d.may 2 3=true)(hn:ws.length≤512)(hln:l.length<1000000):Fn Tryz.prog 49 [.agg #[v],.int .i64 root,vl,.int .i64 (page:Int),uj d].toArray w [] (fun u hn=>Tu (rD ws root l page d) u hn):=by
 obtain⟨q,cap,rfl,hne,hle⟩:=h.opened;obtain⟨ql,KY,rfl,hcap⟩:=hcap;refine enter Tryz.func49 ?_;refine run ?_;intro B C D;refine run ?_;refine bH (fun wc hG=>OD ws hw (h.good hG) root page hp bB3) ?_;rintro u hn2 ⟨v2,h2,rfl,hO,hle2⟩;refine ig hle2 ?_;refine cZ (_++h2) bJ5 ?_;simp only[bI0,bI3];refine run ?_;intro E;refine run ?_;have hl4:=yQ ws root page 3
 cases hok:(aO ws root page 3).ok with
 | false=>
  have e:rD ws root l page d=badM 2:=by simp only[rD,hok];rfl
  rw[e];refine aP ?_
  refine rE ⟨_,_,_,_,rfl,Own.nil _ _,Own.nil _ _,trivial⟩
 | true=>
  have kE:=jO hok;have hnt:=QM hok;simp only[rD,hok];generalize aO ws root page 3=W at hO hok kE hnt hl4 ⊢;have Ap:=kE.le;have hpos:=kE.pos;obtain⟨g,cap2,cur,rfl,rfl,qh,ax6,_⟩:=hO.aa6 (k:=W.fs.length-1) bB3;simp only[cond_true,bI6];refine aP ?_;refine bG (fun hg wc hG=>ac0 ws.length cap q bB3 W.fs l (hv.good hG) (hO.lie (fun b hb=>hG.here b (by simp at hb;simp[hb])) bB9)) ?_;refine aP ?_;refine ah _ rfl (fun hc=>?_) (fun hc=>?_)
  ·have hfr:nS ws.length W.fs l=false:=by simpa using hc
   rw[hfr,bL1,cond_true];refine aP ?_;refine rE ⟨_,_,_,_,rfl,Own.nil _ _,Own.nil _ _,trivial⟩
  have hfr:nS ws.length W.fs l=true:=by simpa using hc
  rw[hfr,bK1,cond_false];clear hc;have hmay:W.d.may 2 W.lv=true:=by rw[kE.d];exact mD _ _ _
  have bf2:0≤W.d.note:=by
   obtain⟨k1,k2,k3,k4⟩:=gy hmay;rcases k1 with e | e | e
   ·have:=k2 e;omega
   ·exact (hnt e).elim
   ·have:=k4 e;omega
  have hlv:W.lv=W.fs.length-1:=rfl;have e1:decide ((W.lv:Int)<3)=decide (W.fs.length<4):=by rw[bI2,decide_eq_true_eq,decide_eq_true_eq];omega
  have e2:decide (0<W.d.note)=!decide (W.d.note=0):=by rw[bI2,decide_eq_true_eq];simp;omega
  refine aC ?_;refine ah _ rfl (fun hc=>?_) (fun hc=>?_)
  ·rw[e1,e2] at hc;rw[hc,cond_true];refine aP ?_;refine rE ⟨_,_,_,_,rfl,Own.nil _ _,Own.nil _ _,trivial⟩
  rw[e1,e2] at hc;rw[hc,cond_false];clear hc;have e3:decide ((l.length:Int)<3-(W.lv:Int))=decide (l.length+W.fs.length<4):=by rw[bI2,decide_eq_true_eq,decide_eq_true_eq];omega
  refine aC ?_;refine ah _ rfl (fun hc=>?_) (fun hc=>?_)
  ·rw[e3] at hc;rw[hc,cond_true];refine aP ?_;refine rE ⟨_,_,_,_,rfl,Own.nil _ _,Own.nil _ _,trivial⟩
  rw[e3] at hc;rw[hc,cond_false];replace hc:4≤l.length+W.fs.length:=by simpa using hc
  refine run ?_;rw[show ((W.fs.length:Int)-1).toNat=W.fs.length-1 by omega];refine run ?_;generalize hlk:4-W.fs.length=lk;have aK6:lk≤l.length:=by omega
  refine aK (σ:=LkS) (fun s=>[(15,.int .i64 ((W.lv+s.i:Nat):Int)),(17,.int .i64 s.ft),(2,.slice s.p (l.drop s.i).length (KY-s.i))]) (fun s=>⟨D,#[.slice none 0 0],24⟩::⟨C,#[.int .i64 d.kind,.int .i64 d.frame,.bool d.r,.bool d.w,.bool d.x,.bool d.af,.bool d.ng,.int .i64 d.soft,.int .i64 d.note],95⟩::⟨B,#[.slice s.mq ws.length s.mc],24⟩::s.hm) (fun s=>s.i≤lk∧jS page ((l.take lk).drop s.i) (jh s.ft (W.lv+s.i) page) (W.lv+s.i) s.us=jS page (l.take lk) (W.place page) W.lv ws∧s.us.length=ws.length∧lW s.us∧bK ws.length s.ft=true∧aA w (.slice s.p (l.drop s.i).length (KY-s.i)) 1 ((l.drop s.i).map bY)∧(l.drop s.i).length≤KY-s.i∧aK5 w (.slice s.mq ws.length s.mc) s.hm s.us) (fun s=>lk-s.i) ⟨0,ws,W.fs.getD (W.fs.length-1) 0,ql,q,cap,[]⟩ ⟨bI1 _,rfl,rfl,hw,?_,hv,by simpa using hcap,fun wc hp hG _=>h.good hG⟩ ?_
  ·exact kE.has _ bE7
  rintro⟨i,us,f0,p,mq,mc,hm1⟩ m hm2 ⟨hi,fD,Fv,huw,hf0,hsl,hsc,hmem⟩;dsimp only at hm2 hi fD Fv huw hf0 hsl hsc hmem ⊢;refine run ?_;refine ah _ rfl (fun hc3=>?_) (fun hc3=>?_)
  ·have hilt:i<lk:=by simp at hc3;omega
   obtain⟨q5,cap5,e5,hne5,_⟩:=hsl.opened;injection e5 with e5
   subst e5;obtain⟨b5,o5,rfl⟩:=hne5 (by intro e;have:=congrArg List.length e;simp at this;omega);have hr:=aj (hsl.row (k:=0) bB9);have e6:(l.drop i).getD 0 default=l.getD i 0:=by simp[bH8]
   simp only[bR6,bL4,e6] at hr;generalize hf:l.getD i 0=f at hr;have Zo:bK ws.length f=true:=by rw[←hf];exact Gy hfr bB3
   have hfi:=iJ Zo;have hlen:(l.drop i).length=l.length-i:=bN9;refine run ?_;refine uh 14 20 [0,1,2,3,6,7,8,9,10,11,12] [4,5,13] (⟨D,#[.slice none 0 0],24⟩::⟨C,#[.int .i64 d.kind,.int .i64 d.frame,.bool d.r,.bool d.w,.bool d.x,.bool d.af,.bool d.ng,.int .i64 d.soft,.int .i64 d.note],95⟩::⟨B,#[.slice mq ws.length mc],24⟩::hm1) ?_;refine kU ?_;refine Ae (bY f) (fun T=>?_);refine yH (fun wc hG=>ac1 us (hmem wc _ hG (fun b hb=>by simp[hb])) f (by rw[Fv];exact Zo) (v1:=.slice (some ⟨T,0,none⟩) 1 1) (iI (xs:=[bY f]) (hG.here ⟨T,(bY f).toArray,3⟩ bB5) (by simp[bY]) bB5) bB3) ?_;rintro u hn3 ⟨v3,h3,rfl,hO3,hle3⟩;refine yH (fun wc hG=>I9 (kQ us f) (hO3.lie (fun b hb=>hG.here b (bJ2 _ (hle3.mem hb))) (by simp[jo];omega)) f0 (W.lv+i) bB3 (by rw[jo,Fv];exact hf0) page hp (jV f) (yL bB3 bB3 bB3) (by rw[jo];omega)) ?_;rintro u hn4 ⟨v4,h4,rfl,hO4,yR⟩;refine di ?_;refine kV ?_;obtain⟨g4,cap4,Tz,rfl,rfl,hr4⟩:=hO4.row (n:=ws.length) (by rw[bH7,kD,jo,Fv]) bB3;refine aS (⟨B,#[.slice mq ws.length mc],24⟩::⟨D,#[.slice none 0 0],24⟩::⟨C,#[.int .i64 d.kind,.int .i64 d.frame,.bool d.r,.bool d.w,.bool d.x,.bool d.af,.bool d.ng,.int .i64 d.soft,.int .i64 d.note],95⟩::[⟨g4,Tz,53⟩]) (cnt1 yR) ?_;refine run ?_;obtain⟨p',e7,hc7,ac2⟩:=hsl.drop (i:=1) rfl hsc bB3;have e8:(l.drop i).drop 1=l.drop (i+1):=by rw[bQ2]
   have e9:KY-i-1=KY-(i+1):=by omega
   rw[e8,e9] at e7 hc7 ac2;refine aJ1 17 ?_;refine uh 6 20 [0,1,2,3,4,5] [] (⟨B,#[.slice (some ⟨g4,0,none⟩) ws.length cap4],24⟩::⟨D,#[.slice none 0 0],24⟩::⟨C,#[.int .i64 d.kind,.int .i64 d.frame,.bool d.r,.bool d.w,.bool d.x,.bool d.af,.bool d.ng,.int .i64 d.soft,.int .i64 d.note],95⟩::[⟨g4,Tz,53⟩]) ?_;refine kU ?_;refine aa9 bB8 bG4 (fun hx2=>zX aB rfl rfl bB8 bB4 bB3) ?_;refine kU ?_;refine di ?_;refine kV ?_;rw[show sliced (some ⟨b5,o5,none⟩) (1:Int).toNat (l.drop i).length (KY-i) 1=_ from e7];refine run ?_
   have hcons:(l.take lk).drop i=f::(l.take lk).drop (i+1):=by
    have h1:i<(l.take lk).length:=by rw[bK'];omega
    rw[bV5 h1,bU2,←hf,bH8,bH9 bB3];rfl
   rw[hcons,jS] at fD;refine aF ⟨i+1,lK (kQ us f) (jh f0 (W.lv+i) page) (W.lv+i) (jV f),f,p',some ⟨g4,0,none⟩,cap4,[⟨g4,Tz,53⟩]⟩ ⟨hilt,fD,by dsimp only;rw[kD,jo,Fv],(huw.kQ f).lK _ _ _,Zo,ac2,hc7,fun wc hp hG hb=>hO4.lie (fun b hb'=>hG.here b (hb b hb')) (by simp[kD,jo,Fv];omega)⟩ (hm:=by dsimp only;omega) (h2:=by (exact ak))
  ·have hw8:=(iJ hf0).2.1;refine run ?_;refine bH (fun wc hG=>I9 us (hmem wc _ hG (fun b hb=>by simp[hb])) f0 3 bB4 (by rw[Fv];exact hf0) page hp d hm bB3) ?_;rintro u hn4 ⟨v4,h4,rfl,hO4,yR⟩;obtain⟨g4,cap4,Tz,rfl,rfl,hr4⟩:=hO4.row (n:=ws.length) (by rw[bH7,kD,Fv]) bB3;refine aS (⟨D,#[.slice none 0 0],24⟩::[⟨g4,Tz,53⟩]) (cnt1 yR) ?_;refine run ?_;refine bH (fun wc hG=>qR (l.drop i) _ (hsl.good hG) bB9) (fun v5 h5 hO5=>?_);obtain⟨q5,cap5,rfl⟩:=hO5.own.opened;refine cZ (_++h5) bJ5 ?_;simp only[bI0,bI3];refine run ?_;have hik:i=lk:=by simp at hc3;omega
   subst hik;have h3:W.lv+i=3:=by omega
   rw[bM0 bB9,jS,h3] at fD;refine rE ⟨_,[⟨g4,Tz,53⟩],_,h5,rfl,?_,hO5.own,by (exact ak)⟩;rw[←fD];exact hO4
theorem OG(n cap:Nat)(q:Option Addr)(root:Int)(hn:n<1000000)(f:Int)(w:World):Fn Tryz.prog 281 [.agg #[.slice q n cap,.int .i64 root],.int .i64 f].toArray w [] (fun u _=>u=.bool (bK n f)):=by
 refine enter Tryz.func281 ?_;refine aC ?_;intro B;refine aC ?_;refine Vh (v:=.int .i64 ((n/8:Nat):Int)) (hy:=fun hg1=>by simp only[hg1,bI];exact uM rfl rfl n 8 rfl rfl bB4 bB3) (h:=?_);refine aC ?_;exact fin1 rfl
theorem aK8(f:Nat)(hf:f<1000000)(level:Nat)(hl:level<4)(page:Nat)(hp:page≤4095)(w:World):Fn Tryz.prog 248 [.int .i64 (f:Int),.int .i64 (level:Int),.int .i64 (page:Int)].toArray w [] (fun u _=>u=.int .i64 ((f*8+mg level page:Nat):Int)):=by
 refine enter Tryz.func248 ?_;refine run ?_;refine az (fun wc hG=>Xf level hl page hp wc) ?_;have NL:=Ai level page;refine run ?_;exact fin1 rfl
theorem OH(f:Int)(hf:bK n f=true)(hn:n<1000000)(level:Nat)(hl:level<4)(page:Nat)(hp:page≤4095)(w:World):Fn Tryz.prog 248 [.int .i64 f,.int .i64 (level:Int),.int .i64 (page:Int)].toArray w [] (fun u _=>u=.int .i64 (jh f level page:Int)):=by
 have h:=iJ hf;have:=aK8 f.toNat bB3 level hl page hp w;rw[h.2.2] at this;exact this
theorem ax7(ws:List Nat)(hw:lW ws)(h:aA w v 1 (ws.map uV))(root:Int)(p level:Nat)(hl:level<4)(hp:p<ws.length)(hn:ws.length<1000000):Fn Tryz.prog 282 [.agg #[v,.int .i64 root],.int .i64 (p:Int),.int .i64 (level:Int)].toArray w [] (fun u _=>u=uj (zK 2 level (ws.getD p 0))):=by
 obtain⟨q,cap,rfl,hne,hle⟩:=h.opened;have hne0:ws≠[]:=by intro e;subst e;simp at hp
 obtain⟨b,o,rfl⟩:=hne hne0;have hr:=aj (h.row hp);simp only[uV,bK3] at hr;refine enter Tryz.func282 ?_;refine run ?_;intro B C;refine run ?_;refine az (fun wc hG=>an8 2 (.inr rfl) level hl _ (hw.at _) wc) ?_;refine run ?_;intro D;refine run ?_;exact dR rfl
theorem an'(ws:List Nat)(hw:lW ws)(h:aA w v 1 (ws.map uV))(root:Int)(p level:Nat)(hl:level<4)(hp:p<ws.length)(hn:ws.length<1000000):Fn Tryz.prog 282 [.agg #[v,.int .i64 root],.int .i64 (p:Int),.int .i64 (level:Int)].toArray w [] (fun u _=>u=uj (gJ ws p level)):=ax7 ws hw h root p level hl hp hn
theorem rF(d:DsD)(q:Option Addr)(n cap:Nat)(hn:0<n)(hn2:n<1000000)(w:World):Fn Tryz.prog 196 [.agg #[.int .i64 d.kind,.int .i64 d.frame,.bool d.r,.bool d.w,.bool d.x,.bool d.af,.bool d.ng,.int .i64 d.soft,.int .i64 d.note,.slice q n cap]].toArray w [] (fun u _=>u=.int .i64 ((n-1:Nat):Int)):=by
 refine enter Tryz.func196 ?_;refine run ?_;intro B;refine run ?_;refine fin1 ?_;rw[show ((n-1:Nat):Int)=(n:Int)-1 by omega]
theorem OI(ws:List Nat){cap:Nat}{g:Nat}{cur:Array Value}(hO:Own 53 1 (.slice (some ⟨g,0,none⟩) n cap) [⟨g,cur,53⟩] (ws.map uV))(root:Int)(p level:Nat)(hl:level<4)(hp:p<ws.length)(hn:ws.length<1000000)(d:DsD)(hm:d.may 2 level=true)(hN:dY [⟨g,cur,53⟩] w):
  Fn Tryz.prog 244 [.agg #[.slice (some ⟨g,0,none⟩) n cap,.int .i64 root],.int .i64 (p:Int),.int .i64 (level:Int),uj d].toArray w [g] (fun u hn=>u=.tuple #[]∧aI [⟨g,cur.setIfInBounds p (.int .u64 (d.word 2 level:Int)),53⟩] hn):=by
 obtain⟨hsz,hlt,hnn,hset⟩:=hO.Ce hp;refine dS [⟨g,cur,53⟩] hN Tryz.func244 ?_;refine run ?_;intro B C;refine run ?_;have hw2:=I8 2 (.inr rfl) level hl d;rw[hm] at hw2;refine uh 12 11 [0,1,2,3,4,5,6,7,8,9,10] [11] [⟨C,#[.int .i64 d.kind,.int .i64 d.frame,.bool d.r,.bool d.w,.bool d.x,.bool d.af,.bool d.ng,.int .i64 d.soft,.int .i64 d.note],95⟩,⟨B,#[.slice (some ⟨g,0,none⟩) n cap,.int .i64 root],272⟩] ?_;refine kU ?_;refine Ef (fun wc hx hG=>hw2 wc) ?_;refine kU ?_;refine je (b:=g) (tb:=53) (cs:=cur) (hp':=[⟨C,#[.int .i64 d.kind,.int .i64 d.frame,.bool d.r,.bool d.w,.bool d.x,.bool d.af,.bool d.ng,.int .i64 d.soft,.int .i64 d.note],95⟩,⟨B,#[.slice (some ⟨g,0,none⟩) n cap,.int .i64 root],272⟩]) (cs':=cur.setIfInBounds p (.int .u64 (d.word 2 level:Int))) ?_ aU;refine di ?_;refine kV ?_;refine run ?_;exact fin0 ⟨rfl,by (exact ak)⟩
theorem ac3(ws:List Nat)(hw:lW ws)(h:aA w v 1 (ws.map uV))(root:Int)(page:Nat)(hp:page≤4095)(down:Nat)(hd:down<4)(hn:ws.length<1000000):Fn Tryz.prog 283 [.agg #[v,.int .i64 root],.int .i64 (page:Int),.int .i64 (down:Int)].toArray w [] (fun u hn=>∃ v2 h2 d,u=.tuple #[.agg #[.int .i64 d.kind,.int .i64 d.frame,.bool d.r,.bool d.w,.bool d.x,.bool d.af,.bool d.ng,.int .i64 d.soft,.int .i64 d.note,v2],.int .i64 (bif (aO ws root page down).ok then 0 else 2)]∧Own 3 1 v2 h2 ((aO ws root page down).fs.map bY)∧aI h2 hn∧d=(aO ws root page down).d):=by
 obtain⟨q,cap,rfl,hne,hle⟩:=h.opened;refine enter Tryz.func283 ?_;refine run ?_;intro B C;refine run ?_;refine aK (σ:=Nat×Int×List Int×DsD×Value×Hp) (fun s=>[(8,.int .i64 s.2.1),(9,.int .i64 (s.1:Int))]) (fun s=>⟨C,#[.int .i64 s.2.2.2.1.kind,.int .i64 s.2.2.2.1.frame,.bool s.2.2.2.1.r,.bool s.2.2.2.1.w,.bool s.2.2.2.1.x,.bool s.2.2.2.1.af,.bool s.2.2.2.1.ng,.int .i64 s.2.2.2.1.soft,.int .i64 s.2.2.2.1.note,s.2.2.2.2.1],275⟩::⟨B,#[.slice q ws.length cap,.int .i64 root],272⟩::s.2.2.2.2.2) (fun s=>s.1<4∧s.2.2.1.length=s.1∧bT ws page down (4-s.1) s.1 s.2.1 s.2.2.1 s.2.2.2.1=aO ws root page down∧Acc 3 1 s.2.2.2.2.1 s.2.2.2.2.2 (s.2.2.1.map bY)) (fun s=>4-s.1) (0,root,[],dG,.slice none 0 0,[]) ⟨(by decide:0<4),rfl,rfl,Acc.nil _ _⟩ ?_ (hh:=by exact aI.refl _);rintro⟨level,f,fs,d,v2,ha⟩ m hm ⟨hl,hfs,hwk,hA⟩;dsimp only at hm hl hfs hwk hA ⊢;obtain⟨q2,cap2,rfl⟩:=hA.own.opened;refine run ?_;refine az (fun wc hG=>OG ws.length cap q root hn f wc) ?_;refine run ?_;have h4:4-level=(3-level)+1:=by omega
 rw[h4,bT] at hwk;refine ah _ rfl (fun hc=>?_) (fun hc=>?_)
 ·have hh:bK ws.length f=false:=by simpa using hc
  rw[hh,cond_false] at hwk;rw[←hwk];refine run ?_;refine fZ ⟨_,ha,d,rfl,hA.own,by (exact ak),rfl⟩
 ·have hh:bK ws.length f=true:=by simpa using hc
  rw[hh,cond_true] at hwk;refine run ?_;intro T;refine dK (c:=bY f) (hp':=[⟨T,#[.int .i64 f],3⟩,⟨C,#[.int .i64 d.kind,.int .i64 d.frame,.bool d.r,.bool d.w,.bool d.x,.bool d.af,.bool d.ng,.int .i64 d.soft,.int .i64 d.note,.slice q2 (fs.map bY).length cap2],275⟩,⟨B,#[.slice q ws.length cap,.int .i64 root],272⟩]) hA (fun v' ha' hA'=>?_) bB9 (aY (m:=1) mh rfl) (hperm:=by (exact aU));rw[show fs.map bY++[bY f]=(fs++[f]).map bY by simp] at hA';obtain⟨q3,cap3,rfl⟩:=hA'.own.opened;refine aS (⟨C,#[.int .i64 d.kind,.int .i64 d.frame,.bool d.r,.bool d.w,.bool d.x,.bool d.af,.bool d.ng,.int .i64 d.soft,.int .i64 d.note,.slice q2 (fs.map bY).length cap2],275⟩::⟨B,#[.slice q ws.length cap,.int .i64 root],272⟩::ha') ak ?_;refine run ?_;refine gU 7 ?_;refine dI ?_;refine fB (fun wc hG=>OH f hh hn level hl page hp wc) ?_;refine dI ?_;refine fB (fun wc hG=>an' ws hw (h.good hG) root _ level hl (Em hh) hn) ?_;generalize hd':gJ ws (jh f level page) level=d' at hwk;have htab:d'.kind=1→level<3:=fun e=>sZ (by rw[hd'];exact e);refine dI ?_;refine aP ?_;have e1:decide ((level:Int)=(down:Int))=decide (level=down):=by rw[bI2,decide_eq_true_eq,decide_eq_true_eq];omega
  refine ah _ rfl (fun hc2=>?_) (fun hc2=>?_)
  ·rw[e1] at hc2;rw[hc2,cond_true] at hwk;rw[←hwk];refine aP ?_;refine fZ ⟨_,ha',d',rfl,hA'.own,by (exact ak),rfl⟩
  ·rw[e1] at hc2;rw[hc2,cond_false] at hwk;have h3:=htab (by simp at hc2;exact hc2.1);refine run ?_;refine aF (level+1,d'.frame,fs++[f],d',.slice q3 ((fs++[f]).map bY).length cap3,ha') ⟨by dsimp only;omega,by simp[hfs],?_,hA'⟩;rw[←hwk];show bT ws page down (4-(level+1)) _ _ _ _=_;rw[show 4-(level+1)=3-level by omega]
end
section
theorem KZ{P:Program}{w0:World}{mu:List Nat}{hp:Hp}{Q:Exit→Fm→Hp→Prop}{rest:List Oper}(h:∀ w,Good w0 mu hp w→Ops P n w0 mu all rest l hp Q):Ops P n w0 mu all rest l hp Q:=by
 intro a w hk hG;exact h w hG a w hk hG
section
variable {P : Program} {n : Nat} {w0 : World} {mu : List Nat} {lf : Fm} {hp : Hp} {dd : Option Tmp} {ty : TypeId} {pos : String} {af : Array Edge}
theorem OJ{p:Addr}(hx:ev lf x=some (.pointer (some p))):Fj P n w0 mu lf hp ⟨dd,.nilCheck x,ty,pos,af,none⟩ (.pointer (some p)):=⟨rfl,fun a w hk _=>by simp[execOp,hk.ev hx]⟩
theorem ac4{T:Tab}(ok:bC P T){t:TypeId}{off k' off':Nat}{os:List Nat}(hx:ev lf x=some (.pointer (some ⟨b,off,none⟩)))(ho:lk T.fo t=some os)(hk2:nth os k=some k')(he:off+k'=off'):Fj P n w0 mu lf hp ⟨dd,.fieldAddr t x k,ty,pos,af,none⟩ (.pointer (some ⟨b,off',none⟩)):=by
 have hf:=ok.gfo ho (by rw[mZ] at hk2;simpa using hk2);subst he;refine⟨rfl,fun a w hk _=>?_⟩;simp only[execOp,hk.ev hx];unfold Vr at hf
 cases hu:P.underlying t with
 | none=>rw[hu] at hf;cases hf
 | some dd=>
  rw[hu] at hf
  cases dd with
  | struct fs=>
   simp only at hf
   cases hq:fs[k]? with
   | none=>rw[hq] at hf;cases hf
   | some f=>
    rw[hq] at hf;simp only[bQ5] at hf
    cases hz:fK P f.type with
    | none=>rw[hz] at hf;cases hf
    | some s=>
     rw[hz] at hf
     cases s with
     | zero=>cases hf
     | succ s=>
      simp only[bK0] at hf;subst hf
      cases hi:P.info? f.type with
      | none=>simp[fK,hi] at hz
      | some i=>
       have hsz:i.size=s+1:=by simpa [fK,hi] using hz
       simp[Instr.fieldAt,Instr.sureAddr,run_underlying hu w,hq,fieldPlace,sizeOf,typeInfo,hi,hsz,add_lit]
  | _=>cases hf
variable {l : Fm} {all : Array Oper} {iv : Fm} {i d : Nat} {ds : List (Nat × Nat)} {D : List Nat} {Y : Fm → Prop}
end
section
variable {n : Nat} {w0 : World} {mu : List Nat} {l : Fm} {hp : Hp} {all : Array Oper} {iv : Fm} {i d : Nat} {ds : List (Nat × Nat)} {D : List Nat} {Y : Fm → Prop} {ty : TypeId} {pos : String} {af : Array Edge}
theorem GK{p:Addr}(h:gQ Tryz.prog n w0 mu all ds l hp Y D ((i,.pointer (some p))::iv))(ho:all[i]?=some ⟨some d,.nilCheck x,ty,pos,af,none⟩:=by rfl)(hx:ev (aT ds iv af.toList++l) x=some (.pointer (some p)):=by rfl):gQ Tryz.prog n w0 mu all ds l hp Y (i::D) iv:=DK ho (OJ hx) h
theorem Ja{t:TypeId}{off k' off':Nat}{os:List Nat}(h:gQ Tryz.prog n w0 mu all ds l hp Y D ((i,.pointer (some ⟨b,off',none⟩))::iv))(ho:all[i]?=some ⟨some d,.fieldAddr t x k,ty,pos,af,none⟩:=by rfl)(hx:ev (aT ds iv af.toList++l) x=some (.pointer (some ⟨b,off,none⟩)):=by rfl)(hfo:lk Tb.fo t=some os:=by rfl)(hk:nth os k=some k':=by rfl)(he:off+k'=off':=by rfl):gQ Tryz.prog n w0 mu all ds l hp Y (i::D) iv:=DK ho (ac4 aB hx hfo hk he) h
theorem Eo{f:FuncId}{xs:List Operand}{vs:List Value}{tys:Array TypeId}{X:Fm→Prop}{S:List Nat}(hc:∀ w hx,Good w0 mu (hx++hp) w→Fn Tryz.prog f vs.toArray w [] (fun u _=>u=v))(h:jg Tryz.prog n w0 mu all ds l hp X S ((i,v)::iv))(ho:all[i]?=some ⟨some d,.call { callee:=.value (.func f),args:=xs.toArray,argTypes:=tys },ty,pos,af,none⟩:=by rfl)(bM:mem iV f=true:=by rfl)(hv:evs (aT ds iv af.toList++l) xs=some vs:=by rfl):jg Tryz.prog n w0 mu all ds l hp X (i::S) iv:=
 jY ho (fun hx=>fM (fA f bM) hv (fun w hG=>hc w hx hG)) h
end
section
variable {P : Program} {n : Nat} {w0 : World} {mu : List Nat} {l : Fm} {h0 hp hc : Hp} {all : Array Oper} {iv aX bz : Fm} {i d t0 : Nat} {ds : List (Nat × Nat)} {S r : List Nat} {X : Fm → Prop} {Y : Fm → Hp → Prop} {op : Op} {ty : TypeId} {pos : String} {af : Array Edge} {v : Value} {j dj : Nat} {want b : Bool}
end
section
variable {n : Nat} {w0 : World} {mu : List Nat} {l : Fm} {h0 hp hc : Hp} {all : Array Oper} {iv aX bz : Fm} {i d : Nat} {ds : List (Nat × Nat)} {r : List Nat} {Y : Fm → Hp → Prop} {ty : TypeId} {pos : String} {af : Array Edge}
end
section
variable {P : Program} {n : Nat} {w0 : World} {mu : List Nat} {l : Fm} {hp : Hp} {dd : Option Tmp} {ty : TypeId} {pos : String} {af : Array Edge} {gg : Option (Nat × Bool)} {t u : TypeId} {x y : Operand}
theorem ax8{pi qi:Int}(hx:ev l x=some (.int .u64 pi))(hy:ev l y=some (.int .u64 qi))(p q:Nat)(hpi:pi=(p:Int))(hqi:qi=(q:Int))(h1:p<18446744073709551616)(h2:q<18446744073709551616):Hy P n w0 mu l hp ⟨dd,.binOp .xor t x y u,ty,pos,af,gg⟩ (.int .u64 ((p ^^^ q:Nat):Int)):=
 bQ fun ac w hk _=>by
  subst hpi hqi;have:=u64_xor_nat p q h1 h2;simp only[execOp,hk.ev hx,hk.ev hy];simp[eqGuard_xor,binOp_xor,intBits_xor,this]
end
section
variable {P : Program} {n : Nat} {w0 : World} {mu : List Nat} {l : Fm} {hp : Hp} {Q : Exit → Fm → Hp → Prop} {all : Array Oper} {rest : List Oper} {dst : Option Nat} {op : Op} {ty : TypeId} {pos : String} {af : Array Edge}
theorem Xm{j dj:Nat}{want b:Bool}(h:Ops P n w0 mu all (⟨dst,op,ty,pos,af,none⟩::rest) l hp Q)(hw:jd b want=true)(hj:(all[j]?).bind (·.dst)=some dj:=by rfl)(hb:look l dj=some (.bool b):=by rfl)(hdj:Nat.blt dj n=true:=by rfl):Ops P n w0 mu all (⟨dst,op,ty,pos,af,some (j,want)⟩::rest) l hp Q:=by
 intro a w hk hG;have h1:=h a w hk hG;have h2:=jL (o:=⟨dst,op,ty,pos,af,some (j,want)⟩) (c0:=true) hk rfl hj hb hdj;rw[hw] at h2;replace h2:Region.wanted (⟨dst,op,ty,pos,af,some (j,want)⟩:Oper) (yielded all a.tmps)=true:=h2;unfold wpList at h1 ⊢;rw[if_pos h2];rw[if_pos (by simp[Region.wanted])] at h1;exact h1
end
theorem aA.takeN{α:Type}{f:α→List Value}{xs:List α}{p:Option Addr}{cap sz:Nat}(h:aA w (.slice p n cap) sz (xs.map f))(hk:k≤xs.length):aA w (.slice p k cap) sz ((xs.take k).map f):=by
 obtain⟨⟨q,c,e,hne⟩,hle⟩:=h;injection e with e1 e2 e3
 subst e1 e3;have hl:((xs.take k).map f).length=k:=by rw[bH7,bK'];omega
 refine⟨⟨_,_,by rw[hl],fun hx=>?_⟩,by rw[hl];rw[bH7] at hle;omega⟩;obtain⟨b,off,rfl,hr⟩:=hne (by intro e;apply hx;rw[bR9] at e ⊢;rw[e];simp);refine⟨b,off,rfl,fun i c hi=>hr i c ?_⟩;rw[List.map_take,bM7] at hi;split at hi
 ·exact hi
 ·cases hi
attribute [local irreducible] Hy St Ops DH dH jg iP gQ DS gX
end
section
attribute [local irreducible] Hy St Ops DH dH
def GL(n:Nat)(page:Int):Bool:=fJ n&&PtD.dD page 0 4095
theorem TA{page:Int}(h:GL n page=true):fJ n=true∧(8≤n∧n≤512)∧((page.toNat:Nat):Int)=page∧page.toNat≤4095:=by
 simp only[GL,bH6] at h;have h1:=bP h.1;have h2:=nJ h.2;exact⟨h.1,⟨h1.1,h1.2.1⟩,h2.1,h2.2⟩
theorem TB{cap:Nat}{q:Option Addr}(hn:n<1000000)(root page:Int)(down:Nat)(hd:down<4)(hk:GL n page=false)(w:World):Fn Tryz.prog 195 [.agg #[.slice q n cap],.int .i64 root,.int .i64 page,.int .i64 (down:Int)].toArray w [] (fun u hn=>u=.tuple #[.agg #[.slice none 0 0,.int .i64 0],.agg #[.int .i64 0,.int .i64 0,.bool false,.bool false,.bool false,.bool false,.bool false,.int .i64 0,.int .i64 0,.slice none 0 0],.int .i64 1]):=by
 refine enter Tryz.func195 ?_;refine run ?_;intro B C D;refine run ?_;refine az (fun wc hG=>yN n cap bB3 q wc) ?_;refine aP ?_;refine ah _ rfl (fun hc=>?_) (fun hc=>?_)
 ·refine run ?_;refine uh 4 2 [0,1] [2,3] [⟨D,#[.int .i64 0,.int .i64 0,.bool false,.bool false,.bool false,.bool false,.bool false,.int .i64 0,.int .i64 0,.slice none 0 0],275⟩,⟨C,#[.slice none 0 0,.int .i64 0],272⟩,⟨B,#[.slice q n cap],24⟩] ?_;refine kU ?_;refine je (b:=C) (tb:=272) (cs:=#[.slice none 0 0,.int .i64 0]) (cs':=#[.slice none 0 0,.int .i64 0]) (hp':=[⟨D,#[.int .i64 0,.int .i64 0,.bool false,.bool false,.bool false,.bool false,.bool false,.int .i64 0,.int .i64 0,.slice none 0 0],275⟩,⟨B,#[.slice q n cap],24⟩]) ?_ aU;refine je (b:=D) (tb:=275) (cs:=#[.int .i64 0,.int .i64 0,.bool false,.bool false,.bool false,.bool false,.bool false,.int .i64 0,.int .i64 0,.slice none 0 0]) (cs':=#[.int .i64 0,.int .i64 0,.bool false,.bool false,.bool false,.bool false,.bool false,.int .i64 0,.int .i64 0,.slice none 0 0]) (hp':=[⟨C,#[.slice none 0 0,.int .i64 0],272⟩,⟨B,#[.slice q n cap],24⟩]) ?_ aU;refine di ?_;refine kV ?_;refine run ?_;exact GI rfl
 ·exfalso;simp only[GL,PtD.dD] at hk
  cases hm:fJ n with
  | false=>rw[hm] at hc;simp at hc
  | true=>rw[hm] at hk hc;simp at hk hc;omega
theorem Xn{fs:List Int}(d:DsD)(h:aA w v 1 (fs.map bY))(hl:fs.length≤4)(h0:0<fs.length)(hn:n<1000000)(hf:∀ f∈fs,bK n f=true)(page:Nat)(hp:page≤4095):Fn Tryz.prog 245 [.agg #[.int .i64 d.kind,.int .i64 d.frame,.bool d.r,.bool d.w,.bool d.x,.bool d.af,.bool d.ng,.int .i64 d.soft,.int .i64 d.note,v],.int .i64 (page:Int)].toArray w [] (fun u _=>u=.int .i64 (jh (fs.getD (fs.length-1) 0) (fs.length-1) page:Int)):=by
 obtain⟨q,cap,rfl,hne,hle⟩:=h.opened;obtain⟨b,o,rfl⟩:=hne (by intro e;subst e;simp at h0);have hr:=aj (h.row (k:=fs.length-1) bB3);simp only[bK3] at hr;refine enter Tryz.func245 ?_;refine run ?_;intro B;refine run ?_;refine gU 10 ?_;refine dI ?_;refine fB (fun wc hG=>rF d _ fs.length cap h0 bB3 wc) ?_;refine dI ?_;refine fB (fun wc hG=>rF d _ fs.length cap h0 bB3 wc) ?_;refine dI ?_;refine fB (fun wc hG=>OH (fs.getD (fs.length-1) 0) (hf _ bE7) hn (fs.length-1) bB3 page hp wc) ?_;refine dI ?_;refine run ?_;exact fin1 rfl
theorem GM(W:qQ)(d:DsD)(h:aA w v 1 (W.fs.map bY))(hl:W.fs.length≤4)(h0:0<W.fs.length)(hn:n<1000000)(hf:∀ f∈W.fs,bK n f=true)(page:Nat)(hp:page≤4095):Fn Tryz.prog 245 [.agg #[.int .i64 d.kind,.int .i64 d.frame,.bool d.r,.bool d.w,.bool d.x,.bool d.af,.bool d.ng,.int .i64 d.soft,.int .i64 d.note,v],.int .i64 (page:Int)].toArray w [] (fun u _=>u=.int .i64 (W.place page:Int)):=Xn d h hl h0 hn hf page hp
theorem qQ.Fine.La{W:qQ}{ws:List Nat}{down:Nat}(h:W.Fine ws page down):W.place page<ws.length:=by
 have h1:=h.pos;exact Em (h.has _ (by rw[bH8,qQ.lv,bH9 bB3];simp))
theorem Aq(xs:List Nat)(v:Value)(root:Int)(h:aA w v 1 (xs.map uV))(hl:xs.length<1000000):Fn Tryz.prog 243 [.agg #[v,.int .i64 root]].toArray w [] (fun u hn=>∃ v2 h2,u=.agg #[v2,.int .i64 root]∧Own 53 1 v2 h2 (xs.map uV)∧aI h2 hn):=by
 obtain⟨q,cap,rfl,hne,hle⟩:=h.opened;refine enter Tryz.func243 ?_;refine run ?_;intro B;refine run ?_;intro C;refine run ?_;refine uh 9 8 [0,1,2,5,6] [3,4,7,8] [⟨B,#[.slice q xs.length cap,.int .i64 root],272⟩] ?_;refine kU ?_;refine yH (fun wc hG=>oP _ (xs.map uV) (h.good hG) bD6 (by simpa using hl)) ?_;intro u hn2 hO;obtain⟨q2,cap2,rfl⟩:=hO.opened;refine IW ?_;refine IW ?_;refine je (b:=C) (tb:=272) (cs:=#[.slice none 0 0,.int .i64 0]) (cs':=#[.slice q2 (xs.map uV).length cap2,.int .i64 root]) (hp':=hn2++[⟨B,#[.slice q xs.length cap,.int .i64 root],272⟩]) ?_ aU;refine di ?_;refine kV ?_;refine run ?_;refine dR ⟨_,hn2,rfl,hO,by (exact ak)⟩
theorem ac5(n cap:Nat)(q:Option Addr)(root:Int)(hn:n<1000000)(d:DsD)(fs l:List Int){v1 v2:Value}(h1:aA w v1 1 (l.map bY))(hc1:∃ p c,v1=.slice p l.length c∧l.length≤c)(h2:aA w v2 1 (fs.map bY))(hroot:root∈fs):Fn Tryz.prog 247 [.agg #[.slice q n cap,.int .i64 root],.agg #[.int .i64 d.kind,.int .i64 d.frame,.bool d.r,.bool d.w,.bool d.x,.bool d.af,.bool d.ng,.int .i64 d.soft,.int .i64 d.note,v2],v1].toArray w [] (fun u _=>u=.bool (nS n fs l)):=by
 obtain⟨q1,cap1,rfl,hcap1⟩:=hc1;obtain⟨_,_,e1,hne1,_⟩:=h1.opened;injection e1 with e1
 subst e1;obtain⟨q2,cap2,rfl,hne2,hle2⟩:=h2.opened;refine enter Tryz.func247 ?_;refine run ?_;intro B C;refine run ?_;refine aK (σ:=Nat) (fun k=>[(11,.int .i64 (k:Int))]) (fun _=>[⟨C,#[.int .i64 d.kind,.int .i64 d.frame,.bool d.r,.bool d.w,.bool d.x,.bool d.af,.bool d.ng,.int .i64 d.soft,.int .i64 d.note,.slice q2 fs.length cap2],275⟩,⟨B,#[.slice q n cap,.int .i64 root],272⟩]) (fun k=>k≤l.length∧∀ j,j<k→oh n fs l j=true) (fun k=>l.length-k) 0 ⟨bI1 _,fun j hj=>absurd hj bB3⟩ ?_;rintro k m rfl ⟨hk,hyes⟩;refine run ?_;refine ah _ rfl (fun hc=>?_) (fun hc=>?_)
 ·have hlt:k<l.length:=by simp at hc;omega
  obtain⟨b,o,rfl⟩:=hne1 bB7;have hr:=aj (h1.row hlt);simp only[bK3] at hr;refine run ?_;refine az (fun wc hG=>OG n cap q root hn _ wc) ?_;refine aC ?_;have hsl:aA w (.slice (some ⟨b,o,none⟩) k cap1) 1 ((l.take k).map bY):=h1.takeN bB3;refine Vh (v:=.slice (some ⟨b,o,none⟩) k cap1) (hy:=fun hg1=>by simp only[hg1,bI];exact pX aB rfl rfl bB8 bB3 bB3 (m':=k) bB5 (.inr ⟨_,_,rfl⟩)) (h:=?_);refine aC ?_;refine bG (fun hg wc hG=>jP _ _ _ (hsl.good hG)) ?_;refine aC ?_;refine bG (fun hg wc hG=>jP _ fs _ (h2.good hG)) ?_;refine aC ?_
  have e1:(!bK n (l.getD k default)||decide (l.getD k default=root)||(l.take k).any (fun t=>decide (t=l.getD k default))||fs.any (fun t=>decide (t=l.getD k default)))=!oh n fs l k:=by
   unfold oh;show _=!(bK n (l.getD k default)&&!(l.take k).any (fun t=>decide (t=l.getD k default))&&!fs.any (fun t=>decide (t=l.getD k default)));generalize l.getD k default=x;by_cases hx:x=root
   ·have:fs.any (fun t=>decide (t=x))=true:=by rw[bM8];exact⟨x,by rw[hx];exact hroot,by simp⟩
    rw[this];simp
   ·rw[decide_eq_false hx];cases bK n x<;>cases (l.take k).any (fun t=>decide (t=x))<;>cases fs.any (fun t=>decide (t=x))<;>rfl
  refine ah _ rfl (fun hc2=>?_) (fun hc2=>?_)
  ·rw[e1] at hc2;refine run ?_;refine fin1 ?_;rw[BB hlt (by simpa using hc2)]
  ·rw[e1] at hc2;refine run ?_;refine aF (k+1) ⟨hlt,fun j hj=>?_⟩;rcases bJ0.1 hj with hj | rfl
   ·exact hyes j hj
   ·simpa using hc2
 ·refine run ?_;refine fin1 ?_;have:k=l.length:=by simp at hc;omega
  subst this;rw[xG hyes]
theorem Ep(ws:List Nat)(hw:lW ws)(h:aA w v 1 (ws.map uV))(hm:fJ ws.length=true)(root:Int)(page:Nat)(hp:page≤4095)(down:Nat)(hd:down<4):Fn Tryz.prog 195 [.agg #[v],.int .i64 root,.int .i64 (page:Int),.int .i64 (down:Int)].toArray w [] (fun u hn=>∃ v2 h2 d,u=.tuple #[.agg #[v,.int .i64 root],.agg #[.int .i64 d.kind,.int .i64 d.frame,.bool d.r,.bool d.w,.bool d.x,.bool d.af,.bool d.ng,.int .i64 d.soft,.int .i64 d.note,v2],.int .i64 (bif (aO ws root page down).ok then 0 else 2)]∧Own 3 1 v2 h2 ((aO ws root page down).fs.map bY)∧aI h2 hn∧d=(aO ws root page down).d):=by
 have rY:=bP hm;obtain⟨q,cap,rfl,hne,hle⟩:=h.opened;refine enter Tryz.func195 ?_;refine run ?_;intro B C D;refine run ?_;refine az (fun wc hG=>yN ws.length cap bB3 q wc) ?_;rw[hm];refine aP ?_;refine ah _ rfl (fun hc=>?_) (fun hc=>?_)
 ·exfalso;simp at hc;omega
 refine run ?_;refine bH (fun wc hG=>ac3 ws hw (h.good hG) root page hp down hd bB3) ?_;rintro u hn2 ⟨v2,h2,d,rfl,hO,hle2,hdd⟩;obtain⟨q2,cap2,e2⟩:=hO.opened;rw[bH7] at e2;subst e2;refine ig hle2 ?_;refine cZ (_++h2) bJ5 ?_;simp only[bI0,bI3];refine run ?_;refine uh 5 3 [0,1,2] [3,4] (⟨D,#[.int .i64 d.kind,.int .i64 d.frame,.bool d.r,.bool d.w,.bool d.x,.bool d.af,.bool d.ng,.int .i64 d.soft,.int .i64 d.note,.slice q2 (aO ws root page down).fs.length cap2],275⟩::⟨C,#[.slice q ws.length cap,.int .i64 root],272⟩::⟨B,#[.slice q ws.length cap],24⟩::h2) ?_;refine kU ?_;refine cSame ?_;refine cSame ?_;refine di ?_;refine kV ?_;refine run ?_;refine GI ⟨_,h2,d,rfl,hO,by (exact ak),hdd⟩
theorem Jb(ws:List Nat)(hw:lW ws)(h:aA w v 1 (ws.map uV))(hm:fJ ws.length=true)(root:Int)(page:Nat)(hp:page≤4095):Fn Tryz.prog 117 [.agg #[v],.int .i64 root,.int .i64 (page:Int)].toArray w [] (fun u hn=>u=.tuple #[uj (iE ws root page).d,.int .i64 ((iE ws root page).level:Int),.int .i64 (iE ws root page).e]):=by
 have rY:=bP hm;refine enter Tryz.func117 ?_;obtain⟨q,cap,rfl,hne,hle⟩:=h.opened;refine run ?_;intro B C;refine run ?_;refine bH (fun wc hG=>Ep ws hw (h.good hG) hm root page hp 3 bB4) ?_;rintro u hn2 ⟨v2,h2,d,rfl,hO,hle2,hdd⟩;obtain⟨q2,cap2,e2⟩:=hO.opened;rw[bH7] at e2;subst e2;refine ig hle2 ?_;refine cZ (_++h2) bJ5 ?_;simp only[bI0,bI3];refine run ?_;intro E F;refine run ?_;have hok:(bif (aO ws root page 3).ok then (0:Int) else 2)=(iE ws root page).e:=by cases hk:(aO ws root page 3).ok<;>simp[iE,hk]
 rw[hok];refine ah _ rfl (fun hc=>?_) (fun hc=>?_)
 ·have hg:iE ws root page=⟨dG,0,2⟩:=by
   cases hk:(aO ws root page 3).ok with
   | false=>simp[iE,hk]
   | true=>simp[iE,hk] at hc
  rw[hg];refine run ?_;exact KX (cs:=#[.int .i64 0,.int .i64 0,.bool false,.bool false,.bool false,.bool false,.bool false,.int .i64 0,.int .i64 0]) rfl
 ·have hk:(aO ws root page 3).ok=true:=by
   cases hk:(aO ws root page 3).ok with
   | false=>simp[iE,hk] at hc
   | true=>rfl
  have hg:iE ws root page=⟨(aO ws root page 3).d,(aO ws root page 3).lv,0⟩:=by simp[iE,hk]
  rw[hg];have kE:=jO hk;have hpos:=kE.pos;refine run ?_;rw[hdd];refine uh 5 4 [0,1,2,3] [4] (⟨F,#[.int .i64 (aO ws root page 3).d.kind,.int .i64 (aO ws root page 3).d.frame,.bool (aO ws root page 3).d.r,.bool (aO ws root page 3).d.w,.bool (aO ws root page 3).d.x,.bool (aO ws root page 3).d.af,.bool (aO ws root page 3).d.ng,.int .i64 (aO ws root page 3).d.soft,.int .i64 (aO ws root page 3).d.note,.slice q2 (aO ws root page 3).fs.length cap2],275⟩::⟨E,#[.slice q ws.length cap,.int .i64 root],272⟩::⟨B,#[.slice q ws.length cap],24⟩::h2) ?_;refine kU ?_;refine Ef (fun wc hx hG=>rF _ q2 (aO ws root page 3).fs.length cap2 hpos (by have:=kE.le;omega) wc) ?_;refine kU ?_;refine je (b:=C) (tb:=95) (cs:=#[.int .i64 0,.int .i64 0,.bool false,.bool false,.bool false,.bool false,.bool false,.int .i64 0,.int .i64 0]) (cs':=#[.int .i64 (aO ws root page 3).d.kind,.int .i64 (aO ws root page 3).d.frame,.bool (aO ws root page 3).d.r,.bool (aO ws root page 3).d.w,.bool (aO ws root page 3).d.x,.bool (aO ws root page 3).d.af,.bool (aO ws root page 3).d.ng,.int .i64 (aO ws root page 3).d.soft,.int .i64 (aO ws root page 3).d.note]) (hp':=⟨F,#[.int .i64 (aO ws root page 3).d.kind,.int .i64 (aO ws root page 3).d.frame,.bool (aO ws root page 3).d.r,.bool (aO ws root page 3).d.w,.bool (aO ws root page 3).d.x,.bool (aO ws root page 3).d.af,.bool (aO ws root page 3).d.ng,.int .i64 (aO ws root page 3).d.soft,.int .i64 (aO ws root page 3).d.note,.slice q2 (aO ws root page 3).fs.length cap2],275⟩::⟨E,#[.slice q ws.length cap,.int .i64 root],272⟩::⟨B,#[.slice q ws.length cap],24⟩::h2) ?_ aU;refine di ?_;refine kV ?_;refine run ?_;exact KX rfl
theorem QO(ws:List Nat)(hw:lW ws)(h:aA w v 1 (ws.map uV))(hm:fJ ws.length=true)(root:Int)(page:Nat)(hp:page≤4095)(level:Nat)(hl:level<4)(d:DsD)(hd:d.may 2 level=true):Fn Tryz.prog 306 [.agg #[v],.int .i64 root,.int .i64 (page:Int),.int .i64 (level:Int),uj d].toArray w [] (fun u hn=>aw' (fC ws root page level d) u hn):=by
 have rY:=bP hm;refine enter Tryz.func306 ?_;obtain⟨q,cap,rfl,hne,hle⟩:=h.opened;refine run ?_;intro B C D;refine run ?_;refine az (fun wc hG=>yM 2 (.inr rfl) level hl d wc) ?_;rw[hd];refine aP ?_;refine bH (fun wc hG=>Ep ws hw (h.good hG) hm root page hp level hl) ?_;rintro u hn2 ⟨v2,h2,dd,rfl,hO,hle2,hdd⟩;obtain⟨q2,cap2,e2⟩:=hO.opened;rw[bH7] at e2;subst e2;refine ig hle2 ?_;refine cZ (_++h2) bJ5 ?_;simp only[bI0,bI3];refine run ?_;intro E F;refine run ?_;refine ah _ rfl (fun hc=>?_) (fun hc=>?_)
 ·have hk:(aO ws root page level).ok=false:=by
   cases hk:(aO ws root page level).ok with
   | false=>rfl
   | true=>simp[hk] at hc
  have hg:fC ws root page level d=badM 2:=by simp only[fC,hk];rfl
  rw[hg,hk];refine run ?_;exact fZ ⟨_,_,rfl,Own.nil _ _,trivial⟩
 ·have hk:(aO ws root page level).ok=true:=by
   cases hk:(aO ws root page level).ok with
   | false=>simp[hk] at hc
   | true=>rfl
  have kE:=jO hk;refine run ?_;have hpos:=kE.pos;have Ap:=kE.le;refine az (fun wc hG=>rF dd q2 (aO ws root page level).fs.length cap2 hpos bB3 wc) ?_;refine run ?_;have e1:decide ((((aO ws root page level).fs.length-1:Nat):Int)=(level:Int))=decide ((aO ws root page level).lv=level):=by rw[bI2,decide_eq_true_eq,decide_eq_true_eq,qQ.lv];omega
  rw[e1];refine ah _ rfl (fun hc2=>?_) (fun hc2=>?_)
  ·have hk2:decide ((aO ws root page level).lv=level)=false:=by simpa using hc2
   have hg:fC ws root page level d=badM 3:=by simp only[fC,hk,hk2];rfl
   rw[hg];refine run ?_;exact fZ ⟨_,_,rfl,Own.nil _ _,trivial⟩
  have hk2:decide ((aO ws root page level).lv=level)=true:=by simpa using hc2
  have hg:fC ws root page level d=⟨lK ws ((aO ws root page level).place page) level d,[],0⟩:=by simp only[fC,hk,hk2];rfl
  rw[hg];refine run ?_;refine bH (fun wc hG=>Aq ws _ root (h.good hG) bB3) ?_;rintro u hn3 ⟨v3,h3,rfl,hO3,hle3⟩;obtain⟨g3,cap3,uY,rfl,rfl,hr3⟩:=hO3.row (n:=ws.length) (by rw[bH7]) bB3;refine ig hle3 ?_;refine run ?_;intro X;refine run ?_;refine gU 6 ?_;refine dI ?_;refine fB (fun wc hG=>GM (aO ws root page level) dd (hO.lie (fun b hb=>hG.here b bG2) bB6) Ap hpos (n:=ws.length) bB3 kE.has page hp) ?_;refine dI ?_;have hpl:=kE.La;obtain⟨hsz3,_,_,aK9⟩:=hO3.Ce hpl;refine iR [⟨g3,uY,53⟩] (⟨X,#[.slice (some ⟨g3,0,none⟩) ws.length cap3,.int .i64 root],272⟩::⟨D,#[.slice none 0 0],24⟩::⟨B,#[.slice q ws.length cap],24⟩::⟨C,#[.int .i64 d.kind,.int .i64 d.frame,.bool d.r,.bool d.w,.bool d.x,.bool d.af,.bool d.ng,.int .i64 d.soft,.int .i64 d.note],95⟩::⟨F,#[.int .i64 dd.kind,.int .i64 dd.frame,.bool dd.r,.bool dd.w,.bool dd.x,.bool dd.af,.bool dd.ng,.int .i64 dd.soft,.int .i64 dd.note,.slice q2 (aO ws root page level).fs.length cap2],275⟩::⟨E,#[.slice q ws.length cap,.int .i64 root],272⟩::h2) (fun wc hG=>OI ws hO3 root _ level hl hpl bB3 d hd hG.iG) ?_ aU;rintro u4 hn4 ⟨rfl,yR⟩;refine ig yR ?_;simp only[bI0,bI3];refine run ?_;exact fZ ⟨_,[⟨g3,_,53⟩],rfl,aK9 _,by (exact ak)⟩
end
section
section
variable {P : Program} {T : Tab} {n : Nat} {w0 : World} {mu : List Nat} {l : Fm} {hp : Hp} {dd : Option Tmp} {ty : TypeId} {pos : String} {af : Array Edge} {gg : Option (Nat × Bool)} {Q : Exit → Fm → Hp → Prop} {all : Array Oper} {rest : List Oper}
theorem Lc(ok:bC P T){sz o m c:Nat}{cs:Array Value}{tb:TypeId}{z x0:Value}{hp':Hp}(hx:ev l x=some (.slice (some ⟨b,o,none⟩) m c))(ht:lk T.sl t=some (e,sz))(hz:lk T.zs e=some z)(hzc:z.cells=#[x0])(hsz1:sz=1)(hz1:x0.oneCell'=true)(hm:0<m)
  (hperm:(⟨b,cs,tb⟩::hp').Perm hp) (hfit:o+m*sz≤cs.size)
  (h:Ops P n w0 mu all rest l (⟨b,putAt cs o (List.replicate m x0),tb⟩::hp') Q):Ops P n w0 mu all (⟨none,.call { callee:=.builtin .clear,args:=#[x],argTypes:=#[t] },ty,pos,af,none⟩::rest) l hp Q:=by
 intro ac w hk hG;obtain⟨hu,hsz⟩:=ok.zJ ht;have hG':=hG.perm hperm;have hb:=hG'.here _ (bI8 ..);subst hsz1
 have hrep:(Builtin.zeroCells z.cells m).toList=List.replicate m x0:=by
  rw[List.eq_replicate_iff];refine⟨by rw[bU6,size_zeroCells,hzc];simp,fun u hu=>?_⟩;rw[hzc] at hu;simp only[Builtin.zeroCells,Array.mem_toList_iff,Array.mem_map,Array.mem_range] at hu;obtain⟨i,hi,rfl⟩:=hu;simp[bV']
 have hst:=run_storeCells_cells (P:=P) b o (List.replicate m x0) 0 w
  (fun j hj=>by rw[bZ2] at hj;rw[cell_of_block hb];simp[show o+j<cs.size by omega])
  (fun j _=>fQ hb) (fun u hu=>by rw[(List.mem_replicate.1 hu).2];exact hz1)
 simp only[bL4] at hst;refine wpList_plain rfl fun K hK=>?_;unfold Oper.wp execOp
 have hr:(Builtin.clear_ #[t] ty #[.slice (some ⟨b,o,none⟩) m c]).run P w=.ok (.tuple #[]) (w.setCells b o (List.replicate m x0)):=by
  obtain⟨m',rfl⟩:∃ m',m=m'+1:=⟨m-1,by omega⟩
  simp[Builtin.clear_,run_underlying hu,pK (ok.NH hz) w,hrep,hst]
 simp only[resolve,invoke,builtin,Sem.run_bind,Sem.run_pure,Result.andThen_ok,bP5,bL9,bO9,hk.ev hx,hr];exact hK _ _ (h _ _ hk (Good.sets (w:=w) _ cs o w hG'))
end
theorem pF:∀ (xs bs:List Value) (cs:Array Value) (o:Nat),putAt cs o (xs++bs)=putAt (putAt cs o xs) (o+xs.length) bs:=by
 intro xs
 induction xs with
 | nil=>intro bs cs o;rfl
 | cons a r ih=>intro bs cs o;rw[bI0,putAt,putAt,ih,bL6];congr 1;omega
theorem Own.zeros{g cap:Nat}{cur:Array Value}{ws:List Nat}(hA:Own e 1 (.slice (some ⟨g,0,none⟩) n cap) [⟨g,cur,e⟩] (ws.map uV)){o:Nat}:∀ k,o+k≤ws.length→Own e 1 (.slice (some ⟨g,0,none⟩) n cap) [⟨g,putAt cur o (List.replicate k (.int .u64 0)),e⟩] ((uk ws o k).map uV):=by
 intro k
 induction k with
 | zero=>intro _;exact hA
 | succ k ih=>
  intro hk;obtain⟨_,_,_,hset⟩:=(ih bB3).Ce (k:=o+k) (by rw[Aj];omega);rw[List.replicate_succ',pF,bZ2,uk];exact hset 0
attribute [local irreducible] Hy St Ops DH dH
def Es(ws:List Nat)(root:Int)(l:List Int)(page:Int)(d:DsD):I5:=bif d.may 2 3&&decide (d.kind=2)&&GL ws.length page then rD ws root l page.toNat d else badM 1
set_option maxHeartbeats 400000 in
theorem ax9(ws:List Nat)(hw:lW ws){vl:Value}(h:aA w v 1 (ws.map uV))(hn:ws.length<1000000)(l:List Int)(hv:aA w vl 1 (l.map bY))(hcap:∃ p c,vl=.slice p l.length c∧l.length≤c∧(p=none∨∃ b off,p=some ⟨b,off,none⟩))(hln:l.length<1000000)(root page:Int)(d:DsD):Fn Tryz.prog 165 [.agg #[v],.int .i64 root,vl,.int .i64 page,uj d].toArray w [] (fun u hn=>Tu (Es ws root l page d) u hn):=by
 refine enter Tryz.func165 ?_;obtain⟨q,cap,rfl,hne,hle⟩:=h.opened;obtain⟨ql,KY,rfl,hcap,hql⟩:=hcap;refine run ?_;intro B C D;refine aC ?_;refine az (fun wc hG=>yM 2 (.inr rfl) 3 bB4 d wc) ?_;refine aC ?_;refine ah _ rfl (fun hc=>?_) (fun hc=>?_)
 ·have hg:Es ws root l page d=badM 1:=by
   have:(d.may 2 3&&decide (d.kind=2))=false:=by
    cases hm:d.may 2 3 with
    | false=>rfl
    | true=>rw[hm] at hc;simpa using hc
   simp only[Es,this];rfl
  rw[hg];refine run ?_;exact rE ⟨_,_,_,_,rfl,Own.nil _ _,Own.nil _ _,trivial⟩
 have hmk:(d.may 2 3&&decide (d.kind=2))=true:=by
  cases hm:d.may 2 3 with
  | false=>rw[hm] at hc;simp at hc
  | true=>rw[hm] at hc;simpa using hc
 have aK':=hmk;rw[bH6,decide_eq_true_eq] at aK';obtain⟨hdm,hdk⟩:=aK'
 cases hk:GL ws.length page with
 | false=>
  have hg:Es ws root l page d=badM 1:=by simp only[Es,hk,hmk];rfl
  rw[hg];refine run ?_;refine bH (fun wc hG=>TB bB3 root page 3 bB4 hk wc) ?_;rintro u hn2 rfl;refine aS [⟨D,#[.slice none 0 0],24⟩,⟨C,#[.int .i64 d.kind,.int .i64 d.frame,.bool d.r,.bool d.w,.bool d.x,.bool d.af,.bool d.ng,.int .i64 d.soft,.int .i64 d.note],95⟩,⟨B,#[.slice q ws.length cap],24⟩] ak ?_;refine run ?_;intro E F;refine aP ?_
  exact rE ⟨_,_,_,_,rfl,Own.nil _ _,Own.nil _ _,trivial⟩
 | true=>
  obtain⟨hm,rY,hz,qH⟩:=TA hk;have hg:Es ws root l page d=rD ws root l page.toNat d:=by simp only[Es,hk,hmk];rfl
  rw[hg];rw[←hz];simp only[bN1];generalize page.toNat=pg at qH;refine run ?_;refine bH (fun wc hG=>Ep ws hw (h.good hG) hm root pg qH 3 bB4) ?_;rintro u hn2 ⟨v2,h2,d2,rfl,hO,hle2,hdd⟩;have hl4:=yQ ws root pg 3;simp only[rD]
  cases hok:(aO ws root pg 3).ok with
  | false=>
   obtain⟨q2,cap2,e2⟩:=hO.opened;subst e2;simp only[bR7,bL1,cond_true];refine aS [⟨D,#[.slice none 0 0],24⟩,⟨C,#[.int .i64 d.kind,.int .i64 d.frame,.bool d.r,.bool d.w,.bool d.x,.bool d.af,.bool d.ng,.int .i64 d.soft,.int .i64 d.note],95⟩,⟨B,#[.slice q ws.length cap],24⟩] ak ?_;refine run ?_;intro E F;refine aP ?_
   exact rE ⟨_,_,_,_,rfl,Own.nil _ _,Own.nil _ _,trivial⟩
  | true=>
   have kE:=jO hok;have hnt:=QM hok;have hroot:=Tm hok;generalize aO ws root pg 3=W at hO hok kE hnt hl4 hdd hroot ⊢;have Ap:=kE.le;have hpos:=kE.pos;obtain⟨q2,cap2,e2⟩:=hO.opened;rw[bH7] at e2;subst e2 hdd;simp only[cond_true,bI6,bK1,cond_false];refine aS (⟨D,#[.slice none 0 0],24⟩::⟨C,#[.int .i64 d.kind,.int .i64 d.frame,.bool d.r,.bool d.w,.bool d.x,.bool d.af,.bool d.ng,.int .i64 d.soft,.int .i64 d.note],95⟩::⟨B,#[.slice q ws.length cap],24⟩::h2) (cnt1 hle2) ?_;refine run ?_;intro E F;refine aP ?_;refine az (fun wc hG=>rF W.d q2 W.fs.length cap2 hpos bB3 wc) ?_;have hlk:(3:Int)-((W.fs.length-1:Nat):Int)=((4-W.fs.length:Nat):Int):=by omega
   refine run ?_;rw[hlk];refine aP ?_;refine az (fun wc hG=>ac5 ws.length cap q root bB3 W.d W.fs l (hv.good hG) ⟨_,_,rfl,hcap⟩ (hO.lie (fun b hb=>hG.here b bG2) bB6) hroot) ?_;refine run ?_;refine ah _ rfl (fun hc=>?_) (fun hc=>?_)
   ·have hfr:nS ws.length W.fs l=false:=by simpa using hc
    rw[hfr,bL1,cond_true];refine run ?_;exact rE ⟨_,_,_,_,rfl,Own.nil _ _,Own.nil _ _,trivial⟩
   have hfr:nS ws.length W.fs l=true:=by simpa using hc
   rw[hfr,bK1,cond_false];clear hc;refine aC ?_;have e1:decide (0<((4-W.fs.length:Nat):Int))=decide (W.fs.length<4):=by rw[bI2,decide_eq_true_eq,decide_eq_true_eq];omega
   rw[e1];refine ah _ rfl (fun hc=>?_) (fun hc=>?_)
   ·rw[hc,cond_true];refine run ?_;exact rE ⟨_,_,_,_,rfl,Own.nil _ _,Own.nil _ _,trivial⟩
   rw[hc,cond_false];clear hc;have e3:decide ((l.length:Int)<((4-W.fs.length:Nat):Int))=decide (l.length+W.fs.length<4):=by rw[bI2,decide_eq_true_eq,decide_eq_true_eq];omega
   refine run ?_;refine ah _ rfl (fun hc=>?_) (fun hc=>?_)
   ·rw[e3] at hc;rw[hc,cond_true];refine run ?_;exact rE ⟨_,_,_,_,rfl,Own.nil _ _,Own.nil _ _,trivial⟩
   rw[e3] at hc;rw[hc,cond_false];replace hc:4≤l.length+W.fs.length:=by simpa using hc
   refine run ?_;refine Ee 7 6 [0,2,3,4] [1,5] [6] (⟨F,#[.int .i64 W.d.kind,.int .i64 W.d.frame,.bool W.d.r,.bool W.d.w,.bool W.d.x,.bool W.d.af,.bool W.d.ng,.int .i64 W.d.soft,.int .i64 W.d.note,.slice q2 W.fs.length cap2],275⟩::⟨E,#[.slice q ws.length cap,.int .i64 root],272⟩::⟨D,#[.slice none 0 0],24⟩::⟨C,#[.int .i64 d.kind,.int .i64 d.frame,.bool d.r,.bool d.w,.bool d.x,.bool d.af,.bool d.ng,.int .i64 d.soft,.int .i64 d.note],95⟩::⟨B,#[.slice q ws.length cap],24⟩::h2) ?_;refine kU ?_;refine Ef (fun wc hx hG=>GM W W.d (hO.lie (fun b hb=>hG.here b bG2) bB6) Ap hpos (n:=ws.length) bB3 kE.has pg qH) ?_;refine kU ?_;refine jZ (fun wc hG=>Aq ws _ root (h.good hG) bB3) (Aq ws _ root h bB3).some ?_;refine sO ?_;refine kL ?_;rintro _ _ ⟨X,rfl,rfl⟩ u hn3 ⟨v3,h3,rfl,hO3,hle3⟩;obtain⟨g3,cap3,uY,rfl,rfl,hr3⟩:=hO3.row (n:=ws.length) (by rw[bH7]) bB3;simp only[DN,bI0,bI3,bI'];refine WV ?_;refine di ?_;refine kV ?_;refine aS (⟨X,#[.slice (some ⟨g3,0,none⟩) ws.length cap3,.int .i64 root],272⟩::⟨g3,uY,53⟩::⟨F,#[.int .i64 W.d.kind,.int .i64 W.d.frame,.bool W.d.r,.bool W.d.w,.bool W.d.x,.bool W.d.af,.bool W.d.ng,.int .i64 W.d.soft,.int .i64 W.d.note,.slice q2 W.fs.length cap2],275⟩::⟨E,#[.slice q ws.length cap,.int .i64 root],272⟩::⟨D,#[.slice none 0 0],24⟩::⟨C,#[.int .i64 d.kind,.int .i64 d.frame,.bool d.r,.bool d.w,.bool d.x,.bool d.af,.bool d.ng,.int .i64 d.soft,.int .i64 d.note],95⟩::⟨B,#[.slice q ws.length cap],24⟩::h2) (cnt1 hle3) ?_;refine run ?_;generalize bm4:4-W.fs.length=lk at *;have aK6:lk≤l.length:=by omega
   refine jI bB8 (pX aB rfl rfl bB8 bB3 bB3 (m':=lk) bB5 hql) ?_;refine run ?_;refine aK (σ:=Nat×Array Value×Nat×List Nat) (fun s=>[(86,.int .i64 (s.1:Int)),(17,.int .i64 (s.2.2.1:Int))]) (fun s=>⟨X,#[.slice (some ⟨g3,0,none⟩) ws.length cap3,.int .i64 root],272⟩::⟨g3,s.2.1,53⟩::⟨F,#[.int .i64 W.d.kind,.int .i64 W.d.frame,.bool W.d.r,.bool W.d.w,.bool W.d.x,.bool W.d.af,.bool W.d.ng,.int .i64 W.d.soft,.int .i64 W.d.note,.slice q2 W.fs.length cap2],275⟩::⟨E,#[.slice q ws.length cap,.int .i64 root],272⟩::⟨D,#[.slice none 0 0],24⟩::⟨C,#[.int .i64 d.kind,.int .i64 d.frame,.bool d.r,.bool d.w,.bool d.x,.bool d.af,.bool d.ng,.int .i64 d.soft,.int .i64 d.note],95⟩::⟨B,#[.slice q ws.length cap],24⟩::h2) (fun s=>s.1≤lk∧s.2.2.1<ws.length∧s.2.2.2.length=ws.length∧jS pg ((l.take lk).drop s.1) s.2.2.1 (W.lv+s.1) s.2.2.2=jS pg (l.take lk) (W.place pg) W.lv ws∧Own 53 1 (.slice (some ⟨g3,0,none⟩) ws.length cap3) [⟨g3,s.2.1,53⟩] (s.2.2.2.map uV)) (fun s=>lk-s.1) (0,uY,W.place pg,ws) ⟨bI1 _,kE.La,rfl,rfl,hO3⟩ ?_;rintro⟨i,cu,pl,us⟩ m hm2 ⟨hi,hpl,Fv,fD,hU⟩;dsimp only at hm2 hi hpl Fv fD hU ⊢;refine run ?_;refine ah _ rfl (fun hc3=>?_) (fun hc3=>?_)
   ·have hilt:i<lk:=by simp at hc3;omega
    obtain⟨q5,cap5,e5,hne5,_⟩:=hv.opened;injection e5 with e5
    subst e5;obtain⟨b5,o5,rfl⟩:=hne5 (by intro e;subst e;simp at aK6;omega);have hr:=aj (hv.row (k:=i) bB3);simp only[bK3] at hr;have Zo:bK ws.length (l.getD i default)=true:=Gy hfr bB3;generalize hf:l.getD i default=f at hr Zo;have hfi:=iJ Zo;refine run ?_;have bm5:=hr3.le;refine jI bB8 (wu aB rfl rfl rfl bB8 bB3 bB3 bB3 bB3 (o':=f.toNat*8) bB3 (m':=8) bB3 (c':=cap3-f.toNat*8) bB3) ?_;have hUz:Own 53 1 (.slice (some ⟨g3,0,none⟩) ws.length cap3) [⟨g3,putAt cu (f.toNat*8) (List.replicate 8 (.int .u64 0)),53⟩] ((kQ us f).map uV):=hU.zeros 8 bB3;obtain⟨ax6,_,_,_⟩:=hU.Ce (k:=ws.length-1) bB3;refine Lc aB (hp':=⟨X,#[.slice (some ⟨g3,0,none⟩) ws.length cap3,.int .i64 root],272⟩::⟨F,#[.int .i64 W.d.kind,.int .i64 W.d.frame,.bool W.d.r,.bool W.d.w,.bool W.d.x,.bool W.d.af,.bool W.d.ng,.int .i64 W.d.soft,.int .i64 W.d.note,.slice q2 W.fs.length cap2],275⟩::⟨E,#[.slice q ws.length cap,.int .i64 root],272⟩::⟨D,#[.slice none 0 0],24⟩::⟨C,#[.int .i64 d.kind,.int .i64 d.frame,.bool d.r,.bool d.w,.bool d.x,.bool d.af,.bool d.ng,.int .i64 d.soft,.int .i64 d.note],95⟩::⟨B,#[.slice q ws.length cap],24⟩::h2) rfl rfl rfl rfl rfl rfl bB4 p1 bB3 ?_;generalize hcz:putAt cu (f.toNat*8) (List.replicate 8 (.int .u64 0))=cz at hUz ⊢;clear hcz;refine run ?_;refine az (fun wc hG=>rF W.d q2 W.fs.length cap2 hpos bB3 wc) ?_;refine run ?_;rw[show ((W.fs.length-1:Nat):Int)+(i:Int)=((W.lv+i:Nat):Int) by unfold qQ.lv;omega];have hlv:W.lv=W.fs.length-1:=rfl;have aL0:pl<(kQ us f).length:=by rw[jo];omega
    obtain⟨_,_,_,hset⟩:=hUz.Ce aL0;refine iR [⟨g3,cz,53⟩] (⟨X,#[.slice (some ⟨g3,0,none⟩) ws.length cap3,.int .i64 root],272⟩::⟨F,#[.int .i64 W.d.kind,.int .i64 W.d.frame,.bool W.d.r,.bool W.d.w,.bool W.d.x,.bool W.d.af,.bool W.d.ng,.int .i64 W.d.soft,.int .i64 W.d.note,.slice q2 W.fs.length cap2],275⟩::⟨E,#[.slice q ws.length cap,.int .i64 root],272⟩::⟨D,#[.slice none 0 0],24⟩::⟨C,#[.int .i64 d.kind,.int .i64 d.frame,.bool d.r,.bool d.w,.bool d.x,.bool d.af,.bool d.ng,.int .i64 d.soft,.int .i64 d.note],95⟩::⟨B,#[.slice q ws.length cap],24⟩::h2) (fun wc hG=>OI _ hUz root _ (W.lv+i) bB3 aL0 (by rw[jo];omega) (jV f) (yL bB3 bB3 bB3) hG.iG) ?_ aU;rintro u4 hn4 ⟨rfl,yR⟩;refine ig yR ?_;simp only[bI0,bI3];refine run ?_;refine az (fun wc hG=>OH f Zo bB3 (W.lv+i+1) bB3 pg qH wc) ?_;refine run ?_
    have hcons:(l.take lk).drop i=f::(l.take lk).drop (i+1):=by
     have h1:i<(l.take lk).length:=by rw[bK'];omega
     rw[bV5 h1,bU2,←hf,bH8,bH9 bB3];rfl
    rw[hcons,jS] at fD;have hst:=hset ((jV f).word 2 (W.lv+i));refine aF (i+1,cz.setIfInBounds pl (.int .u64 (((jV f).word 2 (W.lv+i):Nat):Int)),jh f (W.lv+i+1) pg,lK (kQ us f) pl (W.lv+i) (jV f)) ⟨hilt,Em Zo,by dsimp only;rw[kD,jo,Fv],fD,hst⟩ (hm:=by dsimp only;omega) (h2:=by (exact ak))
   ·have hik:i=lk:=by simp at hc3;omega
    subst hik;have hpl2:pl<us.length:=by omega
    obtain⟨ax6,_,_,hset⟩:=hU.Ce hpl2;refine run ?_;refine iR [⟨g3,cu,53⟩] (⟨X,#[.slice (some ⟨g3,0,none⟩) ws.length cap3,.int .i64 root],272⟩::⟨F,#[.int .i64 W.d.kind,.int .i64 W.d.frame,.bool W.d.r,.bool W.d.w,.bool W.d.x,.bool W.d.af,.bool W.d.ng,.int .i64 W.d.soft,.int .i64 W.d.note,.slice q2 W.fs.length cap2],275⟩::⟨E,#[.slice q ws.length cap,.int .i64 root],272⟩::⟨D,#[.slice none 0 0],24⟩::⟨C,#[.int .i64 d.kind,.int .i64 d.frame,.bool d.r,.bool d.w,.bool d.x,.bool d.af,.bool d.ng,.int .i64 d.soft,.int .i64 d.note],95⟩::⟨B,#[.slice q ws.length cap],24⟩::h2) (fun wc hG=>OI _ hU root _ 3 bB4 hpl2 bB3 d hdm hG.iG) ?_ aU;rintro u4 hn4 ⟨rfl,yR⟩;refine ig yR ?_;simp only[bI0,bI3];refine run ?_;obtain⟨p',e7,hc7,ac2⟩:=hv.drop (i:=i) rfl hcap bB3;refine uh 7 6 [0,1,2,3,4] [5,6] [] ?_;refine kU ?_;refine aa9 bB8 bG4 (fun hx2=>zX aB rfl rfl bB8 bB3 bB3) ?_;rw[show sliced ql ((i:Nat):Int).toNat l.length KY 1=_ from e7];refine kU ?_;refine yH (fun wc hG=>qK _ ((l.drop i).map bY) (ac2.good hG) bD6 bB9) ?_;intro v5 h5 hO5;obtain⟨q5,cap5,rfl⟩:=hO5.opened;refine je (b:=D) (tb:=24) (cs:=#[.slice none 0 0]) (cs':=#[.slice (some ⟨g3,0,none⟩) ws.length cap3]) (hp':=h5++(⟨g3,cu.setIfInBounds pl (.int .u64 ((d.word 2 3:Nat):Int)),53⟩::⟨X,#[.slice (some ⟨g3,0,none⟩) ws.length cap3,.int .i64 root],272⟩::⟨F,#[.int .i64 W.d.kind,.int .i64 W.d.frame,.bool W.d.r,.bool W.d.w,.bool W.d.x,.bool W.d.af,.bool W.d.ng,.int .i64 W.d.soft,.int .i64 W.d.note,.slice q2 W.fs.length cap2],275⟩::⟨E,#[.slice q ws.length cap,.int .i64 root],272⟩::⟨C,#[.int .i64 d.kind,.int .i64 d.frame,.bool d.r,.bool d.w,.bool d.x,.bool d.af,.bool d.ng,.int .i64 d.soft,.int .i64 d.note],95⟩::⟨B,#[.slice q ws.length cap],24⟩::h2)) ?_ aU;refine di ?_;refine kV ?_;refine run ?_;rw[bM0 bD8,jS] at fD;refine rE ⟨_,[⟨g3,cu.setIfInBounds pl (.int .u64 ((d.word 2 3:Nat):Int)),53⟩],_,h5,rfl,?_,hO5,by (exact ak)⟩;rw[←fD];exact hset _
end
structure AcD where
 dd:Int
 mid:Int
 n:Int
 d:DsD
 lp:Option Addr
 ll:Nat
 lc:Nat
instance : Inhabited AcD := ⟨⟨0, 0, 0, dG, none, 0, 0⟩⟩
theorem Own.aV5{g cap:Nat}{cur:Array Value}{xs:List Nat}(hA:Own e 1 (.slice (some ⟨g,0,none⟩) n cap) [⟨g,cur,e⟩] (xs.map uV))(hk:k<xs.length):nth cur.toList k=some (.int .u64 (xs.getD k 0:Int)):=by
 obtain⟨g',cap',cur',e1,e2,hr⟩:=hA.row (n:=xs.length) bB5 bB3;injection e2 with e2
 injection e2 with _ e2
 subst e2;have hall:∀ c∈xs.map uV,c.length=1:=fun c hc=>by obtain⟨x,_,rfl⟩:=bI7.1 hc;rfl
 have hi:(xs.map uV)[k]?=some (uV (xs.getD k 0)):=by
  rw[bJ',bH8,bH9 hk];rfl
 have h1:=hr.nth hall hi (k:=0) rfl;rwa [bK3,bL4] at h1
theorem ax'{ws:List Nat}:∀ c∈ws.map uV,c.length=1∧c.all (·.oneCell')=true:=by
 intro c hc;obtain⟨x,_,rfl⟩:=bI7.1 hc;exact⟨rfl,rfl⟩
theorem Xo(b m:Nat)(hm:m≤65536):Own 53 1 (.slice (some ⟨b,0,none⟩) m m) [⟨b,madeCells (Value.int .u64 0).cells (m*1),53⟩] ((List.replicate m 0).map uV):=by
 rw[show madeCells (Value.int .u64 0).cells (m*1)=((List.replicate m [Value.int .u64 0]).flatten).toArray from o9 [.int .u64 0] m 1 rfl bB4];exact I7 b m _ (by rw[List.map_replicate];rfl) rfl ax' bB5 bB5 bE'
section
attribute [local irreducible] Hy St Ops DH dH
theorem Jc{ha:Hp}(xs:List Nat)(h64:lW xs)(hA:Own 53 1 v ha (xs.map uV))(hN:dY ha w)(hl:xs.length<100000):Fn Tryz.prog 183 [v].toArray w (ha.map (·.b)) (fun u hn=>u=.tuple #[]):=by
 obtain⟨q,cap,ev⟩:=hA.opened;rw[bH7] at ev;subst ev;refine dS _ hN Tryz.func183 ?_;refine run ?_;refine aK (σ:=Nat×Hp×List Nat) (fun s=>[(2,.int .i64 (s.1:Int))]) (fun s=>s.2.1) (fun s=>s.1≤xs.length∧s.2.2.length=xs.length∧lW s.2.2∧Own 53 1 (.slice q xs.length cap) s.2.1 (s.2.2.map uV)) (fun s=>xs.length-s.1) (0,ha,xs) ⟨bI1 _,rfl,h64,hA⟩ ?_;rintro⟨k,h,ys⟩ m hm ⟨hk,hyl,ac6,hO⟩;dsimp only at hm hk hyl ac6 hO ⊢;refine run ?_;refine ah _ rfl (fun hc=>?_) (fun hc=>?_)
 ·have hlt:k<xs.length:=by simp at hc;omega
  obtain⟨g,cap',cur,eg,rfl,hsz,hset⟩:=hO.aw9 (k:=k) bB3;rw[hyl] at eg;cases eg;have hn:=hO.aV5 (k:=k) bB3;refine run ?_;refine jI bB8 (ax8 rfl rfl (ys.getD k 0) 21845 rfl rfl (ac6.at k) bB4) ?_;refine run ?_;exact aF (k+1,[⟨g,cur.setIfInBounds k (.int .u64 ((ys.getD k 0 ^^^ 21845:Nat):Int)),53⟩],ys.set k (ys.getD k 0 ^^^ 21845)) (hm:=by dsimp only;omega) ⟨hlt,by rw[bM1];exact hyl,ac6.set (Nat.xor_lt_two_pow (n:=64) (ac6.at k) bB4) _,by rw[←hyl];exact hset _⟩ (h2:=by (exact ak))
 ·refine run ?_;intro T;refine wz (c:=uV 5) [⟨T,#[.int .u64 5],53⟩] hO (fun v' ha' hA'=>?_) bB6 (aY (m:=1) mh rfl) aU;refine run ?_;exact fin0 rfl
theorem Own.QS{sz:Nat}{h:Hp}{xs:List Int}(hA:Own e sz v h (xs.map bY)):∃ p cap,v=.slice p xs.length cap∧xs.length≤cap∧(p=none∨∃ b off,p=some ⟨b,off,none⟩):=by
 rcases hA.2 with⟨h1,rfl,rfl⟩ | ⟨g,cap,cur,rfl,rfl,hrow⟩
 ·have:xs=[]:=by simpa using h1
  subst this;exact⟨_,_,rfl,bI9 _,.inl rfl⟩
 ·have:=hrow.le;rw[bH7] at *;exact⟨_,_,rfl,this,.inr ⟨_,_,rfl⟩⟩
theorem mF{α:Type}{P:α→Prop}{c:Bool}{a b:α}(ha:P a)(hb:P b):P (bif c then a else b):=by cases c<;>assumption
def TOk(n m:Nat)(T:I5):Prop:=lW T.ws∧T.ws.length≤n∧T.left.length≤m
theorem Jd(n m:Nat)(e:Int):TOk n m (badM e):=⟨fun x hx=>(by cases hx),bI1 _,bI1 _⟩
theorem QT{ws:List Nat}(hw:lW ws)(root:Int)(free:List Int)(page:Nat)(d:DsD):TOk ws.length free.length (rD ws root free page d):=by
 unfold rD;refine mF (Jd _ _ _) (mF (Jd _ _ _) (mF (Jd _ _ _) ⟨(lW.jS _ _ _ hw).lK _ _ _,?_,?_⟩))
 ·dsimp only;rw[kD,Tn];exact bI9 _
 ·dsimp only;rw[bN9];omega
end
theorem TC{m:Nat}{f:Int}(h:n≤m)(hf:bK n f=true):bK m f=true:=by
 simp only[bK,bH6,decide_eq_true_eq] at hf ⊢;have:=Nat.div_le_div_right (c:=8) h;omega
theorem xH{m:Nat}{fs l:List Int}(h:n≤m)(hf:nS n fs l=true):nS m fs l=true:=by
 refine xG fun i hi=>?_;have:=bH'.1 hf i (bJ1.2 hi);simp only[oh,bH6] at this ⊢;exact⟨⟨TC h this.1.1,this.1.2⟩,this.2⟩
def aZ(f soft:Int):DsD:=⟨2,f,true,true,true,true,false,soft,0⟩
def um:List Int:=[1,2,3,4,5,6,7,8,9,10,11,12,13,14,15]
def TD(n:Nat):Nat→I5
 | 0=>⟨List.replicate n 0,um,0⟩
 | k+1=>rD (TD n k).ws 0 (TD n k).left k (aZ k 0)
def bD(F k:Nat):Option DsD:=bif decide (k<16) then some (jK 1) else bif decide (F≤k) then some dG else none
def TE(n F:Nat):Nat→List Nat
 | 0=>(TD n 64).ws
 | k+1=>match bD F k with
  | some d=>(fC (TE n F k) 0 k 3 d).ws
  | none=>TE n F k
def kW(own pG f:Int):DsD:=
 bif decide (own=0)&&decide (pG= -2) then aZ f 0 else bif decide (own=0) then aZ f 1 else bif decide (pG=0) then aZ f 2
 else bif decide (own= -1) then jK 1 else jK (1+own)
def qo(n:Nat)(dd:Nat→DsD):Nat→I5
 | 0=>⟨List.replicate n 0,um,0⟩
 | k+1=>⟨(fC (rD (qo n dd k).ws 0 (qo n dd k).left k (aZ k 0)).ws 0 k 3 (dd k)).ws,(rD (qo n dd k).ws 0 (qo n dd k).left k (aZ k 0)).left,0⟩
def uZ(F k:Nat):DsD:=bif decide (k<16) then jK 1 else bif decide (F≤k) then dG else aZ k 0
def dP(n:Nat)(g:Nat→Nat):List Nat:=(List.range n).map g
theorem eU(n:Nat)(g:Nat→Nat):(dP n g).length=n:=by simp[dP]
theorem Ld{p:Nat}(g:Nat→Nat)(h:p<n):(dP n g).getD p 0=g p:=by
 simp[dP,bH8,bO' h]
theorem gK{g':Nat→Nat}(h:∀ q,q<n→g q=g' q):dP n g=dP n g':=List.map_congr_left fun q hq=>h q (bJ1.1 hq)
theorem nU(g:Nat→Nat)(p w:Nat):(dP n g).set p w=dP n fun q=>bif Nat.beq q p then w else g q:=by
 apply bQ8;intro i;rw[bS9];simp only[dP,bH7,bO0,bJ'];by_cases hp:p=i
 ·subst hp;by_cases hl:p<n
  ·simp[hl,bO' hl]
  ·simp[hl,bO2 (show (List.range n).length≤p by simp;omega)]
 ·have:Nat.beq i p=false:=by
   cases h:Nat.beq i p with
   | false=>rfl
   | true=>exact absurd (bO8 h).symm hp
  rw[if_neg hp];by_cases hl:i<n
  ·simp[bO' hl,this]
  ·simp[bO2 (show (List.range n).length≤i by simp;omega)]
theorem tu{o:Nat}:∀ k,(∀ q,o≤q→q<o+k→g q=0)→uk (dP n g) o k=dP n g:=by
 intro k
 induction k with
 | zero=>intro _;rfl
 | succ k ih=>
  intro h;rw[uk,ih (fun q h1 h2=>h q h1 bB3),nU];refine gK fun q hq=>?_
  cases hb:Nat.beq q (o+k) with
  | false=>rfl
  | true=>rw[cond_true,bO8 hb,h _ bB3 bB3]
theorem Ar(n:Nat):List.replicate n 0=dP n fun _=>0:=by
 apply bQ8;intro i;simp only[dP,bJ',bY4];by_cases hl:i<n
 ·simp[hl,bO' hl]
 ·simp[hl,bO2 (show (List.range n).length≤i by simp;omega)]
theorem nV{p:Nat}(h:p<n):gJ (dP n g) p level=zK 2 level (g p):=by unfold gJ;rw[Ld g h]
instance : DecidableEq DsD := fun a b => decidable_of_iff (a.kind = b.kind ∧ a.frame = b.frame ∧ a.r = b.r ∧ a.w = b.w ∧ a.x = b.x ∧ a.af = b.af ∧ a.ng = b.ng ∧ a.soft = b.soft ∧ a.note = b.note) (by cases a; cases b; simp)
def iK(f:Nat):Nat:=(jV (f:Int)).word 2 0
theorem QU(f level:Nat):(jV (f:Int)).word 2 level=iK f:=rfl
theorem qL{f:Nat}(hf:f<16)(hl:level<3):zK 2 level (iK f)=jV (f:Int):=by
 have:∀ f,f<16→∀ level,level<3→zK 2 level (iK f)=jV (f:Int):=by decide +kernel
 exact this f hf level hl
theorem wH(hl:level<4):zK 2 level 0=dG:=by
 have:∀ level,level<4→zK 2 level 0=dG:=by decide +kernel
 exact this level hl
theorem OL:∀ k,k<64→jh 0 0 k=0:=by decide +kernel
theorem OM:∀ k,k<64→jh 1 1 k=8:=by decide +kernel
theorem Je:∀ k,k<64→jh 2 2 k=16+k/8:=by decide +kernel
theorem Au:∀ k,k<64→jh ((3+k/8:Nat):Int) 3 k=24+k:=by decide +kernel
theorem Cf{f:Nat}(hn:128≤n)(hf:f<16):bK n (f:Int)=true:=by
 simp[bK];omega
theorem ay0(hn:128≤n)(hk:k<64)(h0:g 0=iK 1)(h1:g 8=iK 2)(h2:g (16+k/8)=iK (3+k/8)):aO (dP n g) 0 k 3=⟨[0,1,2,((3+k/8:Nat):Int)],zK 2 3 (g (24+k)),true⟩:=by
 have p0:=OL k hk;have p1:=OM k hk;have p2:=Je k hk;have p3:=Au k hk;have e0:gJ (dP n g) 0 0=jV 1:=by rw[nV bB3,h0];exact qL bB4 bB4
 have e1:gJ (dP n g) 8 1=jV 2:=by rw[nV bB3,h1];exact qL bB4 bB4
 have e2:gJ (dP n g) (16+k/8) 2=jV ((3+k/8:Nat):Int):=by rw[nV bB3,h2];exact qL bB3 bB4
 have e3:gJ (dP n g) (24+k) 3=zK 2 3 (g (24+k)):=nV bB3;have f0:bK n 0=true:=Cf (f:=0) hn bB4;have f1:bK n 1=true:=Cf (f:=1) hn bB4;have f2:bK n 2=true:=Cf (f:=2) hn bB4;have f3:bK n ((3+k/8:Nat):Int)=true:=Cf hn bB3;unfold aO;rw[bT,eU,f0,cond_true,p0,e0];simp only[jV,decide_true,bK1,bL3,show decide (0=3)=false from rfl,cond_false];rw[bT,eU,f1,cond_true,p1,e1];simp only[jV,decide_true,bK1,bL3,show decide (0+1=3)=false from rfl,cond_false];rw[bT,eU,f2,cond_true,p2,e2];simp only[jV,decide_true,bK1,bL3,show decide (0+1+1=3)=false from rfl,cond_false];rw[bT,eU,f3,cond_true,p3,e3];simp
theorem aV7(hn:128≤n)(hk:k<64)(h0:g 0=iK 1)(h1:g 8=iK 2)(h2:g (16+k/8)=0):aO (dP n g) 0 k 3=⟨[0,1,2],dG,true⟩:=by
 have p0:=OL k hk;have p1:=OM k hk;have p2:=Je k hk;have e0:gJ (dP n g) 0 0=jV 1:=by rw[nV bB3,h0];exact qL bB4 bB4
 have e1:gJ (dP n g) 8 1=jV 2:=by rw[nV bB3,h1];exact qL bB4 bB4
 have e2:gJ (dP n g) (16+k/8) 2=dG:=by rw[nV bB3,h2];exact wH bB4
 have f0:bK n 0=true:=Cf (f:=0) hn bB4;have f1:bK n 1=true:=Cf (f:=1) hn bB4;have f2:bK n 2=true:=Cf (f:=2) hn bB4;unfold aO;rw[bT,eU,f0,cond_true,p0,e0];simp only[jV,decide_true,bK1,bL3,show decide (0=3)=false from rfl,cond_false];rw[bT,eU,f1,cond_true,p1,e1];simp only[jV,decide_true,bK1,bL3,show decide (0+1=3)=false from rfl,cond_false];rw[bT,eU,f2,cond_true,p2,e2];rfl
def iQ(dd:Nat→DsD)(k p:Nat):Nat:=
 bif decide (k=0) then 0 else bif decide (p=0) then iK 1 else bif decide (p=8) then iK 2
 else bif decide (16≤p∧p<24∧8*(p-16)<k) then iK (3+(p-16))
 else bif decide (24≤p∧p<24+k) then (dd (p-24)).word 2 3 else 0
def leftB(k:Nat):List Int:=bif decide (k=0) then um else um.drop (2+(k+7)/8)
theorem GN:∀ k,k<64→k≠0→nS 128 (bif decide (k%8=0) then [0,1,2] else [0,1,2,((3+k/8:Nat):Int)]) (leftB k)=true:=by decide +kernel
theorem Le:∀ k,k<64→k≠0→(k%8=0→leftB k=((3+k/8:Nat):Int)::leftB (k+1))∧(k%8≠0→leftB k=leftB (k+1)):=by decide +kernel
theorem Xp{d:DsD}(hn:128≤n)(hk:k<64)(h0:g 0=iK 1)(h1:g 8=iK 2)(h2:g (16+k/8)=iK (3+k/8)):fC (dP n g) 0 k 3 d=⟨dP n fun q=>bif Nat.beq q (24+k) then d.word 2 3 else g q,[],0⟩:=by
 have hw:=ay0 hn hk h0 h1 h2;have p3:=Au k hk;unfold fC;rw[hw];simp only[qQ.lv,qQ.place,bL6,bS0,Nat.reduceAdd,Nat.reduceSub,decide_true,bK1,cond_false,List.getD_cons_succ,List.getD_cons_zero,p3,lK,nU]
theorem aL1{d:DsD}{l:List Int}(hn:128≤n)(hk:k<64)(h0:g 0=iK 1)(h1:g 8=iK 2)(h2:g (16+k/8)=iK (3+k/8))(h3:g (24+k)=0)(hl:nS 128 [0,1,2,((3+k/8:Nat):Int)] l=true):rD (dP n g) 0 l k d=⟨dP n fun q=>bif Nat.beq q (24+k) then d.word 2 3 else g q,l,0⟩:=by
 have hw:=ay0 hn hk h0 h1 h2;have p3:=Au k hk;have hl':=xH hn hl;rw[h3,wH bB4] at hw;unfold rD;rw[hw];simp only[eU,hl',bI6,bK1,cond_false,dG,bL6,bS0,Nat.reduceAdd,show decide ((0:Int)=2)=false from rfl,show decide (4<4)=false from rfl,bR7,bU3,show decide (l.length+4<4)=false from by simp,Nat.sub_self,bN0,jS,bL',qQ.lv,qQ.place,Nat.reduceSub,List.getD_cons_succ,List.getD_cons_zero,p3,lK,nU];rfl
theorem aL2{d:DsD}{l:List Int}(hn:128≤n)(hk:k<64)(h8:k%8=0)(h0:g 0=iK 1)(h1:g 8=iK 2)(h2:g (16+k/8)=0)(h3:∀ q,24+k≤q→q<32+k→g q=0)(hl:nS 128 [0,1,2] (((3+k/8:Nat):Int)::l)=true):rD (dP n g) 0 (((3+k/8:Nat):Int)::l) k d=⟨dP n fun q=>bif Nat.beq q (24+k) then d.word 2 3 else bif Nat.beq q (16+k/8) then iK (3+k/8) else g q,l,0⟩:=by
 have hw:=aV7 hn hk h0 h1 h2;have p2:=Je k hk;have p3:=Au k hk;have hl':=xH hn hl;have hz:kQ (dP n g) ((3+k/8:Nat):Int)=dP n g:=tu 8 fun q a b=>h3 q bB3 bB3;unfold rD;rw[hw];simp only[eU,hl',bI6,bK1,cond_false,dG,bL6,bS0,Nat.reduceAdd,show decide ((0:Int)=2)=false from rfl,show decide ((0:Int)=0)=true from rfl,bU8,bU3,show decide (l.length+1+3<4)=false from by simp,Nat.reduceSub,bL7,bN0,jS,bL2,bL',qQ.lv,qQ.place,List.getD_cons_succ,List.getD_cons_zero,p2,p3,hz,lK,nU,QU];rfl
theorem iL(h:a≠b):Nat.beq a b=false:=by
 cases hb:Nat.beq a b with
 | false=>rfl
 | true=>exact absurd (bO8 hb) h
theorem aL3{d:DsD}(hn:128≤n):rD (dP n fun _=>0) 0 um 0 d=⟨dP n fun q=>bif Nat.beq q 24 then d.word 2 3 else bif Nat.beq q 16 then iK 3 else bif Nat.beq q 8 then iK 2 else bif Nat.beq q 0 then iK 1 else 0,um.drop 3,0⟩:=by
 have f0:bK n 0=true:=Cf (f:=0) hn bB4;have e0:gJ (dP n fun _=>0) 0 0=dG:=by rw[nV bB3];exact wH bB4
 have hw:aO (dP n fun _=>0) 0 0 3=⟨[0],dG,true⟩:=by
  unfold aO;rw[bT,eU,f0,cond_true,OL 0 bB4,e0];rfl
 have hl:nS n [0] um=true:=xH hn bG4;unfold rD;rw[hw];simp only[eU,hl,bI6,bK1,cond_false];have hz1:kQ (dP n fun _=>0) 1=dP n fun _=>0:=tu 8 fun q a b=>rfl
 have hz2:kQ (dP n fun q=>bif Nat.beq q 0 then iK 1 else 0) 2=dP n fun q=>bif Nat.beq q 0 then iK 1 else 0:=tu 8 fun q a b=>by
  rw[iL (show q≠0 by simp at a;omega)];rfl
 have hz3:kQ (dP n fun q=>bif Nat.beq q 8 then iK 2 else bif Nat.beq q 0 then iK 1 else 0) 3=dP n fun q=>bif Nat.beq q 8 then iK 2 else bif Nat.beq q 0 then iK 1 else 0:=tu 8 fun q a b=>by
  rw[iL (show q≠8 by simp at a;omega),iL (show q≠0 by simp at a;omega)];rfl
 show (bif decide ((0:Int)=2)||(decide (1<4)&&!decide ((0:Int)=0)) then badM 4 else bif decide (um.length+1<4) then badM 5 else _)=_;rw[show (decide ((0:Int)=2)||(decide (1<4)&&!decide ((0:Int)=0)))=false from rfl,cond_false,show decide (um.length+1<4)=false from rfl,cond_false]
 have hk:jS 0 [1,2,3] 0 0 (dP n fun _=>0)=(24,dP n fun q=>bif Nat.beq q 16 then iK 3 else bif Nat.beq q 8 then iK 2 else bif Nat.beq q 0 then iK 1 else 0):=by
  rw[jS,hz1,lK,nU,jS];rw[show (jV 1).word 2 0=iK 1 from rfl,hz2,lK,nU,jS,show (jV 2).word 2 (0+1)=iK 2 from rfl,show jh 1 (0+1) 0=8 from rfl,hz3,lK,nU,jS];rfl
 show (⟨lK (jS 0 [1,2,3] 0 0 (dP n fun _=>0)).2 (jS 0 [1,2,3] 0 0 (dP n fun _=>0)).1 3 d,um.drop 3,0⟩:I5)=_;rw[hk];simp only[lK,nU]
theorem Jf{dd:Nat→DsD}(hk:k≠0):iQ dd k 0=iK 1∧iQ dd k 8=iK 2:=by
 simp[iQ,hk]
theorem yS{dd:Nat→DsD}{j:Nat}(hk:k≠0)(hj:j<8):iQ dd k (16+j)=bif decide (8*j<k) then iK (3+j) else 0:=by
 have e1:decide (16+j=0)=false:=by simp
 have e2:decide (16+j=8)=false:=by simp;omega
 have e3:decide (24≤16+j∧16+j<24+k)=false:=by simp;omega
 have e4:decide (16≤16+j∧16+j<24∧8*j<k)=decide (8*j<k):=by
  rw[bI2,decide_eq_true_eq,decide_eq_true_eq];omega
 simp only[iQ,hk,decide_false,cond_false,e1,e2,e3,show 16+j-16=j by omega,e4]
theorem Xq{dd:Nat→DsD}{q:Nat}(hq:24+k≤q):iQ dd k q=0:=by
 unfold iQ
 cases h:decide (k=0) with
 | true=>rfl
 | false=>
  have e1:decide (q=0)=false:=by simp;omega
  have e2:decide (q=8)=false:=by simp;omega
  have e3:decide (16≤q∧q<24∧8*(q-16)<k)=false:=by simp;omega
  have e4:decide (24≤q∧q<24+k)=false:=by simp;omega
  simp only[e1,e2,e3,e4,cond_false]
theorem Lh{dd:Nat→DsD}(hk':k<64)(h0:k≠0)(q:Nat):(bif Nat.beq q (24+k) then (dd k).word 2 3 else bif (decide (k%8=0)&&Nat.beq q (16+k/8)) then iK (3+k/8) else iQ dd k q)=iQ dd (k+1) q:=by
 have e0:decide (k+1=0)=false:=by simp
 have e0':decide (k=0)=false:=by simp[h0]
 by_cases q24:q=24+k
 ·subst q24;have b:Nat.beq (24+k) (24+k)=true:=bZ8 _;rw[b,cond_true];have e1:decide (24+k=0)=false:=by simp
  have e2:decide (24+k=8)=false:=by simp;omega
  have e3:decide (16≤24+k∧24+k<24∧8*(24+k-16)<k+1)=false:=by simp;omega
  have e4:decide (24≤24+k∧24+k<24+(k+1))=true:=by simp
  simp only[iQ,e0,e1,e2,e3,e4,cond_false,cond_true,show 24+k-24=k by omega]
 rw[iL q24,cond_false]
 have e4:decide (24≤q∧q<24+(k+1))=decide (24≤q∧q<24+k):=by
  rw[bI2,decide_eq_true_eq,decide_eq_true_eq];omega
 by_cases hm:k%8=0∧q=16+k/8
 ·obtain⟨hm,rfl⟩:=hm;rw[yS (k:=k+1) bB3 bB3];simp only[hm,decide_true,bI6,bZ8,cond_true,show decide (8*(k/8)<k+1)=true by simp;omega]
 ·have b:(decide (k%8=0)&&Nat.beq q (16+k/8))=false:=by
   cases h1:decide (k%8=0) with
   | false=>rfl
   | true=>
    rw[bI6,iL];intro e;exact hm ⟨by simpa using h1,e⟩
  rw[b,cond_false]
  have e3:decide (16≤q∧q<24∧8*(q-16)<k+1)=decide (16≤q∧q<24∧8*(q-16)<k):=by
   rw[bI2,decide_eq_true_eq,decide_eq_true_eq];omega
  simp only[iQ,e0,e0',e3,e4,cond_false]
theorem nX(hn:128≤n)(dd:Nat→DsD):∀ k,k≤64→qo n dd k=⟨dP n (iQ dd k),leftB k,0⟩:=by
 intro k
 induction k with
 | zero=>intro _;rw[qo,Ar];rfl
 | succ k ih=>
  intro hk;have hk':k<64:=by omega
  rw[qo,ih bB3];dsimp only;by_cases h0:k=0
  ·subst h0;rw[show dP n (iQ dd 0)=dP n fun _=>0 from rfl,show leftB 0=um from rfl,aL3 hn];dsimp only;rw[Xp hn bB4 rfl rfl rfl];dsimp only;rw[I5.mk.injEq];refine⟨gK fun q hq=>?_,rfl,rfl⟩;by_cases q0:q=0
   ·subst q0;rfl
   by_cases q8:q=8
   ·subst q8;rfl
   by_cases q16:q=16
   ·subst q16;rfl
   by_cases q24:q=24
   ·subst q24;rfl
   rw[iL q24,iL q16,iL q8,iL q0];have e3:decide (16≤q∧q<24∧8*(q-16)<0+1)=false:=by simp;omega
   have e4:decide (24≤q∧q<24+(0+1))=false:=by simp;omega
   simp only[iQ,q0,q8,e3,e4,decide_false,cond_false];rfl
  ·obtain⟨g0,g8⟩:=Jf (dd:=dd) h0;have gm:=yS (dd:=dd) h0 (show k/8<8 by omega);have gh:=fun q=>Xq (dd:=dd) (k:=k) (q:=q);have hfr:=GN k hk' h0;obtain⟨l8,lo⟩:=Le k hk' h0;have hstep:∀ q,q<n→(bif Nat.beq q (24+k) then (dd k).word 2 3 else bif (decide (k%8=0)&&Nat.beq q (16+k/8)) then iK (3+k/8) else iQ dd k q)=iQ dd (k+1) q:=fun q _=>Lh hk' h0 q;by_cases h8:k%8=0
   ·rw[l8 h8];have gz:iQ dd k (16+k/8)=0:=by rw[gm,show decide (8*(k/8)<k)=false by simp;omega];rfl
    rw[l8 h8] at hfr;simp only[h8,decide_true,cond_true] at hfr;rw[aL2 hn hk' h8 g0 g8 gz (fun q a b=>gh q bB3) hfr];dsimp only;rw[Xp hn hk' (by rw[iL bB3,iL bB3];exact g0) (by rw[iL bB3,iL bB3];exact g8) (by rw[iL bB3,bZ8];rfl)];dsimp only;rw[I5.mk.injEq];refine⟨gK fun q hq=>?_,rfl,rfl⟩;rw[←hstep q hq];simp only[h8,decide_true,bI6];cases Nat.beq q (24+k)<;>rfl
   ·rw[lo h8];have gz:iQ dd k (16+k/8)=iK (3+k/8):=by rw[gm,show decide (8*(k/8)<k)=true by simp;omega];rfl
    rw[lo h8] at hfr;simp only[h8,decide_false,cond_false] at hfr;rw[aL1 hn hk' g0 g8 gz (gh _ (bI9 _)) hfr];dsimp only;rw[Xp hn hk' (by rw[iL bB3];exact g0) (by rw[iL bB3];exact g8) (by rw[iL bB3];exact gz)];dsimp only;rw[I5.mk.injEq];refine⟨gK fun q hq=>?_,rfl,rfl⟩;rw[←hstep q hq];simp only[h8,decide_false,bR7,cond_false];cases Nat.beq q (24+k)<;>rfl
theorem Xr(hn:128≤n):∀ k,k≤64→TD n k=⟨dP n (iQ (fun k=>aZ k 0) k),leftB k,0⟩:=by
 intro k
 induction k with
 | zero=>intro _;rw[TD,Ar];rfl
 | succ k ih=>
  intro hk;have hk':k<64:=by omega
  rw[TD,ih bB3];dsimp only;by_cases h0:k=0
  ·subst h0;rw[show dP n (iQ (fun k=>aZ k 0) 0)=dP n fun _=>0 from rfl,show leftB 0=um from rfl,aL3 hn];rw[I5.mk.injEq];refine⟨gK fun q hq=>?_,rfl,rfl⟩;by_cases q0:q=0
   ·subst q0;rfl
   by_cases q8:q=8
   ·subst q8;rfl
   by_cases q16:q=16
   ·subst q16;rfl
   by_cases q24:q=24
   ·subst q24;rfl
   rw[iL q24,iL q16,iL q8,iL q0];have e3:decide (16≤q∧q<24∧8*(q-16)<0+1)=false:=by simp;omega
   have e4:decide (24≤q∧q<24+(0+1))=false:=by simp;omega
   simp only[iQ,q0,q8,e3,e4,decide_false,cond_false];rfl
  ·obtain⟨g0,g8⟩:=Jf (dd:=fun k=>aZ k 0) h0;have gm:=yS (dd:=fun k=>aZ k 0) h0 (show k/8<8 by omega);have gh:=fun q=>Xq (dd:=fun k=>aZ k 0) (k:=k) (q:=q);have hfr:=GN k hk' h0;obtain⟨l8,lo⟩:=Le k hk' h0;have hstep:=fun q=>Lh (dd:=fun k=>aZ k 0) hk' h0 q;by_cases h8:k%8=0
   ·rw[l8 h8];have gz:iQ (fun k=>aZ k 0) k (16+k/8)=0:=by rw[gm,show decide (8*(k/8)<k)=false by simp;omega];rfl
    rw[l8 h8] at hfr;simp only[h8,decide_true,cond_true] at hfr;rw[aL2 hn hk' h8 g0 g8 gz (fun q a b=>gh q bB3) hfr];rw[I5.mk.injEq];refine⟨gK fun q hq=>?_,rfl,rfl⟩;rw[←hstep q];simp only[h8,decide_true,bI6]
   ·rw[lo h8];have gz:iQ (fun k=>aZ k 0) k (16+k/8)=iK (3+k/8):=by rw[gm,show decide (8*(k/8)<k)=true by simp;omega];rfl
    rw[lo h8] at hfr;simp only[h8,decide_false,cond_false] at hfr;rw[aL1 hn hk' g0 g8 gz (gh _ (bI9 _)) hfr];rw[I5.mk.injEq];refine⟨gK fun q hq=>?_,rfl,rfl⟩;rw[←hstep q];simp only[h8,decide_false,bR7,cond_false]
theorem Xt{dd:Nat→DsD}{j:Nat}(hj:j<k):iQ dd k (24+j)=(dd j).word 2 3:=by
 have e0:decide (k=0)=false:=by simp;omega
 have e1:decide (24+j=0)=false:=by simp
 have e2:decide (24+j=8)=false:=by simp;omega
 have e3:decide (16≤24+j∧24+j<24∧8*(24+j-16)<k)=false:=by simp;omega
 have e4:decide (24≤24+j∧24+j<24+k)=true:=by simp;omega
 simp only[iQ,e0,e1,e2,e3,e4,cond_false,cond_true,show 24+j-24=j by omega]
def rG(F k q:Nat):Nat:=bif decide (24≤q∧q<24+k) then (uZ F (q-24)).word 2 3 else iQ (fun k=>aZ k 0) 64 q
theorem Lj(hn:128≤n)(F:Nat):∀ k,k≤64→TE n F k=dP n (rG F k):=by
 intro k
 induction k with
 | zero=>
  intro _;rw[TE,Xr hn 64 (bI9 _)];refine gK fun q hq=>?_;have e4:decide (24≤q∧q<24+0)=false:=by simp
  rw[rG,e4,cond_false]
 | succ k ih=>
  intro hk;have hk':k<64:=by omega
  have hlow:∀ q,q<24→rG F k q=iQ (fun k=>aZ k 0) 64 q:=fun q hq=>by
   have e4:decide (24≤q∧q<24+k)=false:=by simp;omega
   rw[rG,e4,cond_false]
  have hnext:∀ q,(bif Nat.beq q (24+k) then (uZ F k).word 2 3 else rG F k q)=rG F (k+1) q:=by
   intro q;by_cases hq:q=24+k
   ·subst hq;have e4:decide (24≤24+k∧24+k<24+(k+1))=true:=by simp
    rw[bZ8,cond_true,rG,e4,cond_true,show 24+k-24=k by omega]
   ·have e4:decide (24≤q∧q<24+(k+1))=decide (24≤q∧q<24+k):=by
     rw[bI2,decide_eq_true_eq,decide_eq_true_eq];omega
    rw[iL hq,cond_false,rG,rG,e4]
  have g0:rG F k 0=iK 1:=by rw[hlow 0 bB4];rfl
  have g8:rG F k 8=iK 2:=by rw[hlow 8 bB4];rfl
  have gm:rG F k (16+k/8)=iK (3+k/8):=by rw[hlow _ bB3,yS bB4 bB3,show decide (8*(k/8)<64)=true by simp;omega];rfl
  rw[TE,ih bB3]
  cases h1:decide (k<16) with
  | true=>
   have hd:uZ F k=jK 1:=by simp only[uZ,h1,cond_true]
   have hb:bD F k=some (jK 1):=by simp only[bD,h1,cond_true]
   rw[hb];dsimp only;rw[Xp hn hk' g0 g8 gm,←hd]
   exact gK fun q _=>hnext q
  | false=>
   cases h2:decide (F≤k) with
   | true=>
    have hd:uZ F k=dG:=by simp only[uZ,h1,h2,cond_true,cond_false]
    have hb:bD F k=some dG:=by simp only[bD,h1,h2,cond_true,cond_false]
    rw[hb];dsimp only;rw[Xp hn hk' g0 g8 gm,←hd]
    exact gK fun q _=>hnext q
   | false=>
    have hd:uZ F k=aZ k 0:=by simp only[uZ,h1,h2,cond_false]
    have hb:bD F k=none:=by simp only[bD,h1,h2,cond_false]
    rw[hb];dsimp only;refine gK fun q _=>?_;rw[←hnext q];by_cases hq:q=24+k
    ·subst hq;have e4:decide (24≤24+k∧24+k<24+k)=false:=by simp
     rw[bZ8,cond_true,hd,rG,e4,cond_false,Xt hk']
    ·rw[iL hq,cond_false]
theorem OO(hn:128≤n)(F:Nat):TE n F 64=(qo n (uZ F) 64).ws:=by
 rw[Lj hn F 64 (bI9 _),nX hn _ 64 (bI9 _)];refine gK fun q _=>?_;rw[rG];by_cases hq:24≤q∧q<24+64
 ·obtain⟨j,rfl⟩:∃ j,q=24+j:=⟨q-24,by omega⟩
  have e4:decide (24≤24+j∧24+j<24+64)=true:=by simp;omega
  rw[e4,cond_true,Xt bB3,show 24+j-24=j by omega]
 ·have e4:decide (24≤q∧q<24+64)=false:=by simp;omega
  rw[e4,cond_false];simp only[iQ,e4,show decide ((64:Nat)=0)=false from rfl,cond_false]
theorem lW.dP(h:∀ q,g q<18446744073709551616):lW (dP n g):=by
 intro x hx;obtain⟨q,_,rfl⟩:=bI7.1 hx;exact h q
theorem QV(dd:Nat→DsD)(k q:Nat):iQ dd k q<18446744073709551616:=by
 unfold iQ;refine mF (P:=(·<18446744073709551616)) bB4 (mF (P:=(·<18446744073709551616)) (DsD.word_lt _ _ _) (mF (P:=(·<18446744073709551616)) (DsD.word_lt _ _ _) (mF (P:=(·<18446744073709551616)) (DsD.word_lt _ _ _) (mF (P:=(·<18446744073709551616)) (DsD.word_lt _ _ _) bB4))))
theorem QW(F k q:Nat):rG F k q<18446744073709551616:=by
 unfold rG;exact mF (P:=(·<18446744073709551616)) (DsD.word_lt _ _ _) (QV _ _ _)
section
attribute [local irreducible] Hy St Ops DH dH
theorem gB(n a b:Int)(w:World):Fn Tryz.prog 65 [.int .i64 n,.int .i64 a,.int .i64 b].toArray w [] (fun u _=>u=.bool (PtD.dD n a b)):=by
 refine enter Tryz.func65 ?_;refine aC ?_;exact fin1 rfl
theorem OQ(w:World):Fn Tryz.prog 241 [].toArray w [] (fun u _=>u=.agg #[.int .i64 (-1),.int .i64 (-2)]):=by
 refine enter (args:=[]) Tryz.func241 ?_;refine aC ?_;intro B;exact dR rfl
structure dO(w:World)(pv gv ov:Value)(P:PtD):Prop where
 pages:aA w pv 2 (P.pages.map sS)
 ay:∃ vv mv:Nat→Value,aA w gv 5 ((List.range P.ay.length).map fun i=>[.bool (P.gs i).live,.bool (P.gs i).dying,.int .i64 (P.gs i).first,vv i,mv i])∧∀ i,i<P.ay.length→aA w (vv i) 1 ((P.gs i).aQ.map bY)∧aA w (mv i) 2 ((P.gs i).maps.map eF)
 on:aA w ov 2 (P.on.map yG)
 wf:P.Wf
theorem dO.good{w':World}{hp:Hp}{pv gv ov:Value}{P:PtD}(h:dO w pv gv ov P)(hG:Good w [] hp w'):dO w' pv gv ov P:=by
 obtain⟨h1,⟨vv,mv,h2,h3⟩,h4,h5⟩:=h;exact⟨h1.good hG,⟨vv,mv,h2.good hG,fun i hi=>⟨(h3 i hi).1.good hG,(h3 i hi).2.good hG⟩⟩,h4.good hG,h5⟩
theorem dO.open{pv gv ov:Value}{P:PtD}(h:dO w pv gv ov P)(hn:P.Len):∃ L:JS,pv=L.pv P.pages.length∧gv=L.gv P.ay.length∧ov=L.ov P.on.length∧jl w L P:=by
 obtain⟨⟨⟨p,pc,e1,hp⟩,_⟩,⟨vv,mv,⟨⟨g,gc,e2,hg⟩,_⟩,h3⟩,⟨⟨o,oc,e4,ho⟩,_⟩,h5⟩:=h;obtain⟨a,b,c,d,e⟩:=hn;obtain⟨pb,po,rfl,hp2⟩:=hp (by intro h;rw[bR9] at h;rw[h] at a;simp at a);obtain⟨gb,go,rfl,hg2⟩:=hg (by intro h;rw[bR9,List.range_eq_nil] at h;omega);obtain⟨ob,oo,rfl,ho2⟩:=ho (by intro h;rw[bR9] at h;rw[h] at d;simp at d);simp only[bH7,bO0] at e1 e2 e4;refine⟨⟨pb,po,pc,gb,go,gc,ob,oo,oc,vv,mv⟩,e1,e2,e4,⟨fun i hi=>?_,fun i hi=>?_,fun i hi=>(h3 i hi).1,fun i hi=>(h3 i hi).2,fun i hi=>?_,h5⟩⟩
 ·refine hp2 i _ ?_;rw[bJ',PtD.pg,bH8,bH9 hi];rfl
 ·exact hg2 i _ (iH _ hi)
 ·refine ho2 i _ ?_;rw[bJ',PtD.st,bH8,bH9 hi];rfl
def iw(frames aV8:Nat):PtD:=⟨(List.range frames).map fun f=>⟨bif decide (f<16) then -1 else 0,-2⟩,List.replicate 4 ⟨false,false,0,[],[]⟩,List.replicate aV8 ⟨0,0⟩⟩
theorem aL4{F C:Nat}{pv:Value}{ha:Hp}{Bg Bo tg tq:Nat}(hA:Acc 51 2 pv ha ((iw F C).pages.map sS))(hF:F≤64)(hC:C≤3)(h:Here (⟨Bg,((List.replicate 4 [Value.bool false,.bool false,.int .i64 0,.slice none 0 0,.slice none 0 0]).flatten).toArray,tg⟩::⟨Bo,((List.replicate C [Value.int .i64 0,.int .i64 0]).flatten).toArray,tq⟩::ha) w):
  dO w pv (.slice (some ⟨Bg,0,none⟩) 4 4) (.slice (some ⟨Bo,0,none⟩) C C) (iw F C):=by
 have hnil:∀ sz,aA w (.slice none 0 0) sz []:=fun sz=>⟨⟨none,0,rfl,fun h=>absurd rfl h⟩,by simp⟩
 have hg:∀ i,(iw F C).gs i=⟨false,false,0,[],[]⟩:=fun i=>by
  simp only[iw,PtD.gs,bH8,bY4];split<;>rfl
 refine⟨hA.lie (h.sub fun e he=>bI5 _ (bI5 _ he)) (by simp[iw];omega),⟨fun _=>.slice none 0 0,fun _=>.slice none 0 0,?_,fun i _=>by rw[hg i];exact⟨hnil 1,hnil 2⟩⟩,?_,?_⟩
 ·have:=iI (w:=w) (b:=Bg) (t:=tg) (cap:=4) (sz:=5) (xs:=List.replicate 4 [Value.bool false,.bool false,.int .i64 0,.slice none 0 0,.slice none 0 0]) (h _ (bI8 ..)) bD3 bB5;have e:((List.range (iw F C).ay.length).map fun i=>[Value.bool ((iw F C).gs i).live,.bool ((iw F C).gs i).dying,.int .i64 ((iw F C).gs i).first,.slice none 0 0,.slice none 0 0])=List.replicate 4 [Value.bool false,.bool false,.int .i64 0,.slice none 0 0,.slice none 0 0]:=by simp only[hg];rfl
  rw[e];simpa using this
 ·have:=iI (w:=w) (b:=Bo) (t:=tq) (cap:=C) (sz:=2) (xs:=List.replicate C [Value.int .i64 0,.int .i64 0]) (h _ (bI5 _ (bI8 ..))) bD3 bB9;simpa [iw,yG] using this
 ·refine⟨fun f hf=>?_,fun i _=>by rw[hg i];exact⟨⟨by decide,by decide⟩,by simp,by simp⟩,fun c hc=>?_⟩
  ·simp only[iw,bH7,bO0] at hf;simp only[iw,PtD.pg,bH8,bJ',bO' hf,bL5,bP1];refine⟨?_,by decide,by decide⟩;cases decide (f<16)<;>exact⟨by decide,by decide⟩
  ·simp only[iw,bZ2] at hc;simp only[iw,PtD.st,bH8,bY4,hc,if_true,bP1];exact⟨⟨by decide,by decide⟩,by decide,by decide⟩
theorem ac7(F C:Nat)(hF:F≤64)(hF1:1≤F)(hC:C≤3)(w:World):Fn Tryz.prog 94 [.int .i64 (F:Int),.int .i64 (C:Int)].toArray w [] (fun u hn=>∃ pv gv ov,u=.agg #[pv,gv,ov]∧∀ w,Here hn w→dO w pv gv ov (iw F C)):=by
 refine enter Tryz.func94 ?_;refine run ?_;intro Rb;refine drawM 5 [1] [0,2,4] [3] ?_;refine gI ?_;refine KA (m:=4) (sz:=5) (z:=.agg #[.bool false,.bool false,.int .i64 0,.slice none 0 0,.slice none 0 0]) ?_ bB3 (hcs:=by exact o9 [.bool false,.bool false,.int .i64 0,.slice none 0 0,.slice none 0 0] 4 5 rfl bB3);refine KA (m:=C) (sz:=2) (z:=.agg #[.int .i64 0,.int .i64 0]) ?_ bB3 (hcs:=by exact o9 [.int .i64 0,.int .i64 0] C 2 rfl bB3);refine sO ?_;refine kL ?_;rintro _ _ ⟨Bp,rfl,rfl⟩ _ _ ⟨Bo,rfl,rfl⟩ _ _ ⟨Bg,rfl,rfl⟩;refine uH ?_;refine jJ ?_;refine ry ?_;simp only[bI0,bI3];obtain⟨GC,hGC⟩:∃ G:Array Value,G=((List.replicate 4 [Value.bool false,.bool false,.int .i64 0,.slice none 0 0,.slice none 0 0]).flatten).toArray:=⟨_,rfl⟩
 obtain⟨OC,hOC⟩:∃ G:Array Value,G=((List.replicate C [Value.int .i64 0,.int .i64 0]).flatten).toArray:=⟨_,rfl⟩
 rw[←hGC,←hOC];refine run ?_;refine aK (σ:=Nat×Value×Hp) (fun s=>[(6,.int .i64 (s.1:Int))]) (fun s=>⟨Bp,#[s.2.1,.slice (some ⟨Bg,0,none⟩) 4 4,.slice (some ⟨Bo,0,none⟩) C C],48⟩::⟨Rb,#[.slice none 0 0,.slice none 0 0,.slice none 0 0],48⟩::⟨Bg,GC,100⟩::⟨Bo,OC,104⟩::s.2.2) (fun s=>s.1≤F∧Acc 51 2 s.2.1 s.2.2 ((iw s.1 C).pages.map sS)) (fun s=>F-s.1) (0,_,[]) ⟨by omega,Acc.nil _ _⟩ ?_;rintro⟨k,pv,ha⟩ m hm ⟨hk,hA⟩;dsimp only at hm hk hA ⊢;have hpl:(iw k C).pages.length=k:=by simp[iw]
 refine run ?_;refine ah _ rfl (fun hc=>?_) (fun hc=>?_)
 ·have hlt:k<F:=by simp at hc;omega
  have hstep:∀ (x:o8) (v':Value) (ha':Hp),x=⟨bif decide (k<16) then -1 else 0,-2⟩→Acc 51 2 v' ha' ((iw k C).pages.map sS++[sS x])→Acc 51 2 v' ha' ((iw (k+1) C).pages.map sS):=by
   rintro x v' ha' rfl h;simpa [iw,bO5] using h
  refine run ?_;intro X;refine ah _ rfl (fun hc2=>?_) (fun hc2=>?_)
  ·have hc2':decide (k<16)=true:=by simp at hc2 ⊢;omega
   refine run ?_;intro T;refine QF (c:=sS ⟨-1,-2⟩) [_,_,_,_,_,_] hA (fun v' ha' hA'=>?_) (by simp[hpl];omega) (aY (m:=2) mh rfl);obtain⟨g,gc,cur,rfl,hha,_⟩:=hA'.open bB5;simp only[bI0,bI3];refine run ?_;refine aF (k+1,_,ha') ⟨by omega,hstep _ _ _ (by rw[hc2'];rfl) hA'⟩
  ·have hc2':decide (k<16)=false:=by simp at hc2 ⊢;omega
   refine run ?_;intro T;refine QF (c:=sS ⟨0,-2⟩) [_,_,_,_,_,_] hA (fun v' ha' hA'=>?_) (by simp[hpl];omega) (aY (m:=2) mh rfl);obtain⟨g,gc,cur,rfl,hha,_⟩:=hA'.open bB5;simp only[bI0,bI3];refine run ?_;refine aF (k+1,_,ha') ⟨by omega,hstep _ _ _ (by rw[hc2'];rfl) hA'⟩
 have hge:k=F:=by simp at hc;omega
 subst hge;subst hGC hOC
 obtain⟨q,qc,hq,_⟩:∃ q qc,pv=.slice q (iw k C).pages.length qc∧True:=by
  rcases hA.2 with⟨h,_⟩ | ⟨_,g,cap,cur,rfl,_,_⟩
  ·rw[bR9] at h;rw[h] at hpl;simp at hpl;omega
  ·exact⟨_,cap,by rw[bH7],trivial⟩
 subst hq;refine run ?_;refine dR ?_;refine⟨_,_,_,rfl,fun w' hw'=>aL4 (tg:=100) (tq:=104) hA bB3 bB3 (hw'.sub ?_)⟩;intro e he;simp only[bJ3] at he ⊢;rcases he with rfl | rfl | he
 ·simp
 ·simp
 ·simp[he]
end
theorem oQ{w0:World}{mu:List Nat}{hp:Hp}{iv:Fm}{d:Nat}{ds:List (Nat×Nat)}{D:List Nat}{Y:Fm→Prop}{ty:TypeId}{pos:String}{af:Array Edge}(h:gQ Tryz.prog n w0 mu all ds l hp Y D ((i,v)::iv))(ho:all[i]?=some ⟨some d,.assign x,ty,pos,af,none⟩:=by rfl)(hx:ev (aT ds iv af.toList++l) x=some v:=by rfl):gQ Tryz.prog n w0 mu all ds l hp Y (i::D) iv:=DK ho (V8 hx) h
theorem Jg(xs:List (List Value))(hx:∀ c∈xs,c.length=1∧c.all (·.oneCell')=true)(hl:xs.length<65536):∃ v h,Own e 1 v h xs:=by
 by_cases h0:xs=[]
 ·subst h0;exact⟨_,_,Own.nil e 1⟩
 ·have hfl:∀ ys:List (List Value),(∀ c∈ys,c.length=1∧c.all (·.oneCell')=true)→ys.flatten.length=ys.length:=by
   intro ys
   induction ys with
   | nil=>intro _;rfl
   | cons y r ih=>intro h;rw[bU1,bJ9,ih (fun c hc=>h c (bI5 _ hc)),(h y (bI8 ..)).1,bL6];omega
  refine⟨.slice (some ⟨0,0,none⟩) xs.length xs.length,[⟨0,xs.flatten.toArray,e⟩],hx,.inr ⟨0,xs.length,_,rfl,rfl,⟨by rw[hfl xs hx];omega,bI9 _,by unfold maxLen;omega,by simp only[bV3];rw[hfl xs hx];omega,?_⟩⟩⟩;rw[bT1 (by simp only;rw[hfl xs hx];omega)]
theorem ac8(r:I5)(h1:r.ws.length<65536)(h2:r.left.length<65536):∃ u hn,Tu r u hn:=by
 obtain⟨v,h,hO⟩:=Jg (e:=53) (r.ws.map uV) (fun c hc=>by obtain⟨x,_,rfl⟩:=bI7.1 hc;exact⟨rfl,rfl⟩) (by simpa using h1);obtain⟨v2,h3,hO2⟩:=Jg (e:=3) (r.left.map bY) (fun c hc=>by obtain⟨x,_,rfl⟩:=bI7.1 hc;exact⟨rfl,rfl⟩) (by simpa using h2);exact⟨_,_,v,h,v2,h3,rfl,hO,hO2,aI.refl _⟩
section
attribute [local irreducible] Hy St Ops DH dH
structure fF where
 kind:Int
 aN:Int
 qU:Int
 all:Bool
 page:Int
 level:Int
 frame:Int
 mid:Int
 r:Bool
 w:Bool
 x:Bool
 af:Bool
 ng:Bool
 soft:Int
deriving DecidableEq
instance : Inhabited fF := ⟨⟨0, 0, 0, false, 0, 0, 0, 0, false, false, false, false, false, 0⟩⟩
abbrev iy(e:fF):List Value:=[.int .i64 e.kind,.int .i64 e.aN,.int .i64 e.qU,.bool e.all,.int .i64 e.page,.int .i64 e.level,.int .i64 e.frame,.int .i64 e.mid,.bool e.r,.bool e.w,.bool e.x,.bool e.af,.bool e.ng,.int .i64 e.soft]
structure jy where
 kind:Int
 aN:Int
 qU:Int
 page:Int
deriving DecidableEq
instance : Inhabited jy := ⟨⟨0, 0, 0, 0⟩⟩
abbrev lg(i:jy):List Value:=[.int .i64 i.kind,.int .i64 i.aN,.int .i64 i.qU,.int .i64 i.page]
def fF.nums(e:fF):Bool:=PtD.dD e.aN 0 15&&PtD.dD e.qU 0 15&&PtD.dD e.page 0 4095&&PtD.dD e.frame 0 4095&&PtD.dD e.mid 0 4095&&decide (e.soft=0)
def fF.bare(e:fF):Bool:=!e.r&&!e.w&&!e.x&&!e.af&&!e.ng&&decide (e.soft=0)
def xI(level page:Nat):Nat:=page-page%au level
def fF.may(e:fF):Bool:=e.nums &&
 bif decide (e.kind=1) then decide (e.level=0)
 else bif decide (e.kind=2) then decide (e.qU=0)&&e.all&&decide (e.level=0)&&decide (e.mid=0)&&!e.ng
 else bif decide (e.kind=3) then PtD.dD e.level 1 3&&decide (xI (e.level.toNat-1) e.page.toNat=e.page.toNat)&&decide (e.mid=0)&&e.bare
 else false
def jy.may(i:jy):Bool:=PtD.dD i.kind 1 6&&PtD.dD i.aN 0 15&&PtD.dD i.qU 0 15&&PtD.dD i.page 0 4095
theorem QX(p:Int)(w:World):Fn Tryz.prog 112 [.int .i64 p].toArray w [] (fun u _=>u=.bool (PtD.dD p 0 15)):=by
 refine enter Tryz.func112 ?_;refine run ?_;refine az (fun wc hG=>GG p 15 wc) ?_;refine run ?_;exact fin1 rfl
theorem aL5(level:Nat)(h:level<4)(page:Nat)(hp:page≤4095)(w:World):Fn Tryz.prog 191 [.int .i64 (level:Int),.int .i64 (page:Int)].toArray w [] (fun u _=>u=.int .i64 (xI level page:Int)):=by
 have h9:=fH h;refine enter Tryz.func191 ?_;refine run ?_;refine az (fun wc hG=>pq level h wc) ?_;refine jI bB8 (uK rfl rfl page (au level) bB8 bB8 bB3) ?_;refine run ?_;refine fin1 ?_;have hmod:=Nat.mod_le page (au level);rw[show ((page:Int)-((page%au level:Nat):Int))=((xI level page:Nat):Int) by unfold xI;omega,wrap_in bB3 (by unfold xI;omega)]
theorem ac9(level:Nat)(h0:1≤level)(h:level<4)(page:Nat)(hp:page≤4095)(w:World):Fn Tryz.prog 114 [.int .i64 (level:Int),.int .i64 (page:Int)].toArray w [] (fun u _=>u=.int .i64 (xI (level-1) page:Int)):=by
 refine enter Tryz.func114 ?_;refine run ?_;rw[show (level:Int)-1=((level-1:Nat):Int) by omega];refine az (fun wc hG=>aL5 (level-1) bB3 page hp wc) ?_;refine run ?_;exact fin1 rfl
theorem ad1(e:fF)(w:World):Fn Tryz.prog 54 [.agg (iy e).toArray].toArray w [] (fun u _=>u=.bool e.may):=by
 refine enter Tryz.func54 ?_;refine run ?_;intro B;refine aC ?_;refine az (fun wc hG=>QX e.aN wc) ?_;refine aC ?_;refine bG (fun _ wc hG=>QX e.qU wc) ?_;refine aC ?_;refine bG (fun _ wc hG=>wG e.page wc) ?_;refine aC ?_;refine bG (fun _ wc hG=>wG e.frame wc) ?_;refine aC ?_;refine bG (fun _ wc hG=>wG e.mid wc) ?_;refine aC ?_
 have hnn:(!PtD.dD e.aN 0 15||!PtD.dD e.qU 0 15||!PtD.dD e.page 0 4095||!PtD.dD e.frame 0 4095||!PtD.dD e.mid 0 4095||!decide (e.soft=0))=!e.nums:=by
  unfold fF.nums;simp only[bW3]
 refine ah _ rfl (fun hn=>?_) (fun hn=>?_)
 ·refine run ?_;refine fin1 ?_;rw[hnn] at hn;have hn':e.nums=false:=by simpa using hn
  simp[fF.may,hn']
 ·rw[hnn] at hn;have hn':e.nums=true:=by simpa using hn
  clear hnn;have hb:=hn';simp only[fF.nums,bH6,decide_eq_true_eq] at hb;have hpz:=nJ hb.1.1.1.2;refine run ?_;refine ah _ rfl (fun hk=>?_) (fun hk=>?_)
  ·refine run ?_;refine fin1 ?_;simp[fF.may,hn',hk]
  refine run ?_;refine ah _ rfl (fun hk2=>?_) (fun hk2=>?_)
  ·refine aC ?_;refine fin1 ?_;simp[fF.may,hn',hk,hk2]
  refine run ?_;refine ah _ rfl (fun hk3=>?_) (fun hk3=>?_)
  ·refine aC ?_;refine gU 29 ?_;refine bg ?_
   refine eX (b:=decide (1≤e.level)&&decide (e.level≤3)) (want:=true) (v:=.int .i64 (xI (e.level.toNat-1) e.page.toNat:Int)) (fun hg wc hG=>by
    simp[jd] at hg;have h5:=ac9 e.level.toNat bB3 bB3 e.page.toNat hpz.2 wc;rw[hpz.1,show ((e.level.toNat:Nat):Int)=e.level by omega] at h5
    exact h5) ?_
   refine bg ?_;refine run ?_;refine fin1 ?_
   have hz:decide (((xI (e.level.toNat-1) e.page.toNat:Nat):Int)=e.page)=decide (xI (e.level.toNat-1) e.page.toNat=e.page.toNat):=by
    rw[bI2,decide_eq_true_eq,decide_eq_true_eq];have:=hpz.1;omega
   rw[hz];simp only[fF.may,hn',hk3,show decide (e.kind=1)=false by simpa using hk,show decide (e.kind=2)=false by simpa using hk2,cond_false,cond_true,bI6,PtD.dD,fF.bare,aW,iF];cases e.r<;>cases e.w<;>cases e.x<;>cases e.af<;>cases e.ng<;>simp
  ·refine run ?_;refine fin1 ?_;simp[fF.may,hn',hk,hk2,hk3]
theorem ad2(i:jy)(w:World):Fn Tryz.prog 56 [.agg (lg i).toArray].toArray w [] (fun u _=>u=.bool i.may):=by
 refine enter Tryz.func56 ?_;refine run ?_;intro B;refine aC ?_;refine bG (fun _ wc hG=>QX i.aN wc) ?_;refine aC ?_;refine bG (fun _ wc hG=>QX i.qU wc) ?_;refine aC ?_;refine bG (fun _ wc hG=>wG i.page wc) ?_;refine aC ?_;refine fin1 ?_;simp[jy.may,PtD.dD,bP3]
end
theorem ad3(a b:fF):aW (iy a) (iy b)=decide (a=b):=by
 obtain⟨a1,a2,a3,a4,a5,a6,a7,a8,a9,a10,a11,a12,a13,a14⟩:=a;obtain⟨b1,b2,b3,b4,b5,b6,b7,b8,b9,b10,b11,b12,b13,b14⟩:=b;rw[bI2,decide_eq_true_eq];simp[aW,iF]
theorem aV9(a b:jy):aW (lg a) (lg b)=decide (a=b):=by
 obtain⟨a1,a2,a3,a4⟩:=a;obtain⟨b1,b2,b3,b4⟩:=b;rw[bI2,decide_eq_true_eq];simp[aW,iF]
def Aw(es:List fF)(k:Nat):Bool:=(es.getD k default).may&&!(es.take k).any fun t=>decide (t=es.getD k default)
def dQ(es:List fF)(ds:List jy):Bool:=((List.range es.length).all fun k=>Aw es k)&&ds.all jy.may&&decide (es.length≤8)&&decide (ds.length≤8)
theorem Ll{α:Type}[Inhabited α][DecidableEq α](l:List α)(k:Nat)(hk:k<l.length):decide (gV (fun t=>decide (t=l.getD k default)) l=(k:Int))=!(l.take k).any (fun t=>decide (t=l.getD k default)):=by
 cases h:(l.take k).any (fun t=>decide (t=l.getD k default)) with
 | false=>
  rw[fG hk bB5 fun j hj=>?_]
  ·simp
  ·rw[bS8] at h
   have h1:=h (l.getD j default) (by
    rw[bQ7]
    exact⟨j,by omega,by simp[show j<l.length by omega]⟩)
   simpa using h1
 | true=>
  obtain⟨x,hx,hxe⟩:=bM8.1 h;obtain⟨j,hj,rfl⟩:=bQ7.1 hx;have hj1:j<l.length:=by omega
  have hje:decide (l.getD j default=l.getD k default)=true:=by
   rw[bH8,bH9 hj1];exact hxe
  obtain⟨j0,h0,h1,h2⟩:=Am (fun t=>decide (t=l.getD k default)) l j hje;rw[fG (k:=j0) bB3 h1 h2];simp;omega
theorem Lm{p:Nat→Bool}(h:∀ j,j<n→p j=true):(List.range n).all p=true:=bH'.2 fun j hj=>h j (bJ1.1 hj)
theorem ad4{p:Nat→Bool}(hk:k<n)(h:p k=false):(List.range n).all p=false:=by
 cases hc:(List.range n).all p with
 | false=>rfl
 | true=>rw[bH'.1 hc k (bJ1.2 hk)] at h;cases h
theorem QY{es:List fF}{ds:List jy}(hk:k<es.length)(h:Aw es k=false):dQ es ds=false:=by
 unfold dQ;rw[ad4 hk h];rfl
theorem ad5{es:List fF}{ds:List jy}(hk:k<ds.length)(h:(ds.getD k default).may=false):dQ es ds=false:=by
 have:ds.all jy.may=false:=by
  cases hc:ds.all jy.may with
  | false=>rfl
  | true=>
   rw[bH8,bH9 hk] at h;have:=bH'.1 hc _ (bX7 hk);rw[bP1] at h;rw[this] at h;cases h
 unfold dQ;rw[this];simp
theorem Xu{α:Type}[Inhabited α]{l:List α}{p:α→Bool}(h:∀ j,j<l.length→p (l.getD j default)=true):l.all p=true:=by
 refine bH'.2 fun x hx=>?_;obtain⟨j,hj,rfl⟩:=bT0 hx;have:=h j hj;rwa [bH8,bH9 hj] at this
section
attribute [local irreducible] Hy St Ops DH dH
theorem ay5(a:fF)(xs:List fF)(v:Value)(h:aA w v 14 (xs.map iy)):
  Fn Tryz.prog 55 [v,.agg (iy a).toArray].toArray w [] (fun u _=>u=.int .i64 (gV (fun t=>decide (t=a)) xs)):=by
 obtain⟨q,cap,rfl,hne,hle⟩:=h.opened;refine enter Tryz.func55 ?_;refine run ?_;intro B;refine run ?_;refine aK (σ:=Nat) (fun k=>[(5,.int .i64 (k:Int))]) (fun _=>[⟨B,(iy a).toArray,80⟩]) (fun k=>k≤xs.length∧∀ j,j<k→decide (xs.getD j default=a)=false) (fun k=>xs.length-k) 0 ⟨bI1 _,fun j hj=>absurd hj bB3⟩ ?_;rintro k m rfl ⟨hk,hno⟩;refine run ?_;refine ah _ rfl (fun hc=>?_) (fun hc=>?_)
 ·have hlt:k<xs.length:=by simpa using hc
  obtain⟨b,o,rfl⟩:=hne bB7;have hr:=h.row hlt;refine run ?_;refine dA ?_;refine dI ?_;refine run ?_;rw[ad3];refine ah _ rfl (fun hp=>?_) (fun hp=>?_)
  ·refine run ?_;refine fin1 ?_;rw[fG hlt hp hno]
  ·refine run ?_;refine aF (k+1) ⟨hlt,fun j hj=>?_⟩;rcases bJ0.1 hj with hj | rfl
   ·exact hno j hj
   ·exact hp
 ·have hge:k=xs.length:=by simp at hc;omega
  subst hge;refine run ?_;refine fin1 ?_;rw[dV hno]
theorem ay6(es:List fF)(ds:List jy)(v u:Value)(h:aA w v 14 (es.map iy))(hd:aA w u 4 (ds.map lg)):
  Fn Tryz.prog 29 [.agg #[v,u]].toArray w [] (fun r _=>r=.bool (dQ es ds)):=by
 obtain⟨q,cap,rfl,hne,hle⟩:=h.opened;obtain⟨q2,cap2,rfl,hne2,hle2⟩:=hd.opened;refine enter Tryz.func29 ?_;refine run ?_;intro B;refine run ?_;refine aK (σ:=Nat) (fun k=>[(3,.int .i64 (k:Int))]) (fun _=>[⟨B,#[.slice q es.length cap,.slice q2 ds.length cap2],72⟩]) (fun k=>k≤es.length∧∀ j,j<k→Aw es j=true) (fun k=>es.length-k) 0 ⟨bI1 _,fun j hj=>absurd hj bB3⟩ ?_;rintro k m rfl ⟨hk,hno⟩;refine run ?_;refine ah _ rfl (fun hc=>?_) (fun hc=>?_)
 ·have hlt:k<es.length:=by simpa using hc
  obtain⟨b,o,rfl⟩:=hne bB7;have hr:=h.row hlt;refine run ?_;refine dA ?_;refine dI ?_;refine fB (fun wc hG=>ad1 (es.getD k default) wc) ?_;refine bg ?_;refine eX (fun hg wc hG=>ay5 (es.getD k default) es _ (h.good hG)) ?_;refine bg ?_;refine run ?_
  have he:(!(es.getD k default).may||!decide (gV (fun t=>decide (t=es.getD k default)) es=(k:Int)))=!Aw es k:=by
   rw[Ll es k hlt];unfold Aw;rw[bW3]
  rw[he];refine ah _ rfl (fun hp=>?_) (fun hp=>?_)
  ·refine run ?_;refine fin1 ?_;rw[QY hlt bE8]
  ·refine run ?_;refine aF (k+1) ⟨hlt,fun j hj=>?_⟩;rcases bJ0.1 hj with hj | rfl
   ·exact hno j hj
   ·simpa using hp
 ·have hge:k=es.length:=by simp at hc;omega
  subst hge;refine run ?_;refine aK (σ:=Nat) (fun k=>[(4,.int .i64 (k:Int))]) (fun _=>[⟨B,#[.slice q es.length cap,.slice q2 ds.length cap2],72⟩]) (fun k=>k≤ds.length∧∀ j,j<k→(ds.getD j default).may=true) (fun k=>ds.length-k) 0 ⟨bI1 _,fun j hj=>absurd hj bB3⟩ ?_;rintro k m rfl ⟨hk,aL6⟩;refine run ?_;refine ah _ rfl (fun hc=>?_) (fun hc=>?_)
  ·have hlt:k<ds.length:=by simpa using hc
   obtain⟨b,o,rfl⟩:=hne2 bB7;have hr:=hd.row hlt;refine run ?_;refine az (fun wc hG=>ad2 (ds.getD k default) wc) ?_;refine run ?_;refine ah _ rfl (fun hp=>?_) (fun hp=>?_)
   ·refine run ?_;refine fin1 ?_;rw[ad5 hlt bE8]
   ·refine run ?_;refine aF (k+1) ⟨hlt,fun j hj=>?_⟩;rcases bJ0.1 hj with hj | rfl
    ·exact aL6 j hj
    ·simpa using hp
  ·have hge:k=ds.length:=by simp at hc;omega
   subst hge;refine aC ?_;refine fin1 ?_;unfold dQ;rw[Lm hno,Xu aL6,show decide ((es.length:Int)≤8)=decide (es.length≤8) by (rw[bI2,decide_eq_true_eq,decide_eq_true_eq];omega),show decide ((ds.length:Int)≤8)=decide (ds.length≤8) by (rw[bI2,decide_eq_true_eq,decide_eq_true_eq];omega)];rfl
structure uo where
 es:List fF
 ds:List jy
 ep:Option Addr
 ec:Nat
 dp:Option Addr
 dc:Nat
instance : Inhabited uo := ⟨⟨[], [], none, 0, none, 0⟩⟩
abbrev uo.ev(t:uo):Value:=.slice t.ep t.es.length t.ec
abbrev uo.dv(t:uo):Value:=.slice t.dp t.ds.length t.dc
abbrev TF(t:uo):List Value:=[t.ev,t.dv]
structure Xv(w:World)(v:Value)(ts:List uo):Prop where
 rows:aA w v 2 (ts.map TF)
 en:∀ t∈ts,aA w t.ev 14 (t.es.map iy)
 iv:∀ t∈ts,aA w t.dv 4 (t.ds.map lg)
theorem Xv.good{w':World}{hp:Hp}{ts:List uo}(h:Xv w v ts)(hG:Good w [] hp w'):Xv w' v ts:=⟨h.rows.good hG,fun t ht=>(h.en t ht).good hG,fun t ht=>(h.iv t ht).good hG⟩
theorem getD_mem{α:Type}[Inhabited α]{l:List α}(h:k<l.length):l.getD k default∈l:=by
 rw[bH8,bH9 h];exact bX7 h
end
structure zL where
 x0:Nat
 x1:Nat
 x2:Nat
 x3:Nat
 x4:Nat
 x5:Nat
 x6:Nat
 x7:Nat
 pc:Nat
 Lp:Nat
 BD:Nat
 Lr:Nat
 elr:Nat
 esr:Nat
 far:Nat
deriving DecidableEq
def jA:zL:=⟨0,0,0,0,0,0,0,0,0,0,0,0,0,0,0⟩
instance : Inhabited zL := ⟨jA⟩
abbrev kN(r:zL):List Value:=[.int .u64 (r.x0:Int),.int .u64 (r.x1:Int),.int .u64 (r.x2:Int),.int .u64 (r.x3:Int),.int .u64 (r.x4:Int),.int .u64 (r.x5:Int),.int .u64 (r.x6:Int),.int .u64 (r.x7:Int),.int .u64 (r.pc:Int),.int .u64 (r.Lp:Int),.int .u64 (r.BD:Int),.int .u64 (r.Lr:Int),.int .u64 (r.elr:Int),.int .u64 (r.esr:Int),.int .u64 (r.far:Int)]
theorem OT(a b:zL):aW (kN a) (kN b)=decide (a=b):=by
 obtain⟨a0,a1,a2,a3,a4,a5,a6,a7,a8,a9,a10,a11,a12,a13,a14⟩:=a;obtain⟨b0,b1,b2,b3,b4,b5,b6,b7,b8,b9,b10,b11,b12,b13,b14⟩:=b;rw[bI2,decide_eq_true_eq];simp[aW,iF,bY6]
structure Az where
 r:zL
 on:Int
deriving DecidableEq
instance : Inhabited Az := ⟨⟨jA, 0⟩⟩
abbrev wR(c:Az):List Value:=[.int .u64 (c.r.x0:Int),.int .u64 (c.r.x1:Int),.int .u64 (c.r.x2:Int),.int .u64 (c.r.x3:Int),.int .u64 (c.r.x4:Int),.int .u64 (c.r.x5:Int),.int .u64 (c.r.x6:Int),.int .u64 (c.r.x7:Int),.int .u64 (c.r.pc:Int),.int .u64 (c.r.Lp:Int),.int .u64 (c.r.BD:Int),.int .u64 (c.r.Lr:Int),.int .u64 (c.r.elr:Int),.int .u64 (c.r.esr:Int),.int .u64 (c.r.far:Int),.int .i64 c.on]
theorem aV'(a b:Az):aW (wR a) (wR b)=decide (a=b):=by
 obtain⟨⟨a0,a1,a2,a3,a4,a5,a6,a7,a8,a9,a10,a11,a12,a13,a14⟩,x⟩:=a;obtain⟨⟨b0,b1,b2,b3,b4,b5,b6,b7,b8,b9,b10,b11,b12,b13,b14⟩,y⟩:=b;rw[bI2,decide_eq_true_eq];simp[aW,iF,and_assoc,bY6]
structure jv where
 r:zL
 vm:Int
 vc:Int
 t:uo
instance : Inhabited jv := ⟨⟨jA, 0, 0, default⟩⟩
abbrev qY(c:jv):List Value:=[.int .u64 (c.r.x0:Int),.int .u64 (c.r.x1:Int),.int .u64 (c.r.x2:Int),.int .u64 (c.r.x3:Int),.int .u64 (c.r.x4:Int),.int .u64 (c.r.x5:Int),.int .u64 (c.r.x6:Int),.int .u64 (c.r.x7:Int),.int .u64 (c.r.pc:Int),.int .u64 (c.r.Lp:Int),.int .u64 (c.r.BD:Int),.int .u64 (c.r.Lr:Int),.int .u64 (c.r.elr:Int),.int .u64 (c.r.esr:Int),.int .u64 (c.r.far:Int),.int .i64 c.vm,.int .i64 c.vc,c.t.ev,c.t.dv]
def jv.core(c:jv):zL×Int×Int×List fF×List jy:=(c.r,c.vm,c.vc,c.t.es,c.t.ds)
structure AA(w:World)(v:Value)(cs:List jv):Prop where
 rows:aA w v 19 (cs.map qY)
 en:∀ c∈cs,aA w c.t.ev 14 (c.t.es.map iy)
 iv:∀ c∈cs,aA w c.t.dv 4 (c.t.ds.map lg)
theorem AA.good{w':World}{hp:Hp}{cs:List jv}(h:AA w v cs)(hG:Good w [] hp w'):AA w' v cs:=⟨h.rows.good hG,fun t ht=>(h.en t ht).good hG,fun t ht=>(h.iv t ht).good hG⟩
structure eG where
 live:Bool
 dying:Bool
 aN:Int
 fs:List Int
 fp:Option Addr
 fc:Nat
 fr:List Int
 rp:Option Addr
 rc:Nat
 vs:List Az
 vp:Option Addr
 vk:Nat
instance : Inhabited eG := ⟨⟨false, false, 0, [], none, 0, [], none, 0, [], none, 0⟩⟩
abbrev eG.fv(m:eG):Value:=.slice m.fp m.fs.length m.fc
abbrev eG.rv(m:eG):Value:=.slice m.rp m.fr.length m.rc
abbrev eG.vv(m:eG):Value:=.slice m.vp m.vs.length m.vk
abbrev mW(m:eG):List Value:=[.bool m.live,.bool m.dying,.int .i64 m.aN,m.fv,m.rv,m.vv]
def eG.core(m:eG):Bool×Bool×Int×List Int×List Int×List Az:=(m.live,m.dying,m.aN,m.fs,m.fr,m.vs)
structure yT(w:World)(v:Value)(ms:List eG):Prop where
 rows:aA w v 6 (ms.map mW)
 fs:∀ m∈ms,aA w m.fv 1 (m.fs.map bY)
 fr:∀ m∈ms,aA w m.rv 1 (m.fr.map bY)
 vs:∀ m∈ms,aA w m.vv 16 (m.vs.map wR)
theorem yT.good{w':World}{hp:Hp}{cs:List eG}(h:yT w v cs)(hG:Good w [] hp w'):yT w' v cs:=⟨h.rows.good hG,fun t ht=>(h.fs t ht).good hG,fun t ht=>(h.fr t ht).good hG,fun t ht=>(h.vs t ht).good hG⟩
structure Et(w:World)(wv cv vv rv:Value)(ws:List Nat)(cs:List jv)(vs:List eG)(rs:List zL):Prop where
 Df:lW ws
 ws:aA w wv 1 (ws.map uV)
 cs:AA w cv cs
 vs:yT w vv vs
 rs:aA w rv 15 (rs.map kN)
theorem Et.good{w':World}{hp:Hp}{wv cv vv rv:Value}{ws:List Nat}{cs:List jv}{vs:List eG}{rs:List zL}(h:Et w wv cv vv rv ws cs vs rs)(hG:Good w [] hp w'):Et w' wv cv vv rv ws cs vs rs:=⟨h.Df,h.ws.good hG,h.cs.good hG,h.vs.good hG,h.rs.good hG⟩
def TG:jv:=⟨jA,0,0,⟨[],[],none,0,none,0⟩⟩
def vm0:eG:=⟨false,false,0,[],none,0,[],none,0,[],none,0⟩
theorem gW(w:World)(sz:Nat):aA w (.slice none 0 0) sz []:=⟨⟨none,0,rfl,fun h=>absurd rfl h⟩,by simp⟩
theorem AA.zero{C:Nat}(h:w.heap[b]?=some (.cells ((List.replicate C (qY TG)).flatten).toArray t (0,0)))(hC:C≤1000):AA w (.slice (some ⟨b,0,none⟩) C C) (List.replicate C TG):=by
 refine⟨?_,fun c hc=>?_,fun c hc=>?_⟩
 ·have:=iI (w:=w) (b:=b) (t:=t) (cap:=C) (sz:=19) (xs:=List.replicate C (qY TG)) h bD3 bB9;simpa using this
 ·rw[bP9 hc];exact gW _ _
 ·rw[bP9 hc];exact gW _ _
theorem yT.zero{C:Nat}(h:w.heap[b]?=some (.cells ((List.replicate C (mW vm0)).flatten).toArray t (0,0)))(hC:C≤1000):yT w (.slice (some ⟨b,0,none⟩) C C) (List.replicate C vm0):=by
 refine⟨?_,fun c hc=>?_,fun c hc=>?_,fun c hc=>?_⟩
 ·have:=iI (w:=w) (b:=b) (t:=t) (cap:=C) (sz:=6) (xs:=List.replicate C (mW vm0)) h bD3 bB9;simpa using this
 ·rw[bP9 hc];exact gW _ _
 ·rw[bP9 hc];exact gW _ _
 ·rw[bP9 hc];exact gW _ _
theorem ad6{C:Nat}(h:w.heap[b]?=some (.cells ((List.replicate C (kN jA)).flatten).toArray t (0,0)))(hC:C≤1000):aA w (.slice (some ⟨b,0,none⟩) C C) 15 ((List.replicate C jA).map kN):=by
 have:=iI (w:=w) (b:=b) (t:=t) (cap:=C) (sz:=15) (xs:=List.replicate C (kN jA)) h bD3 bB9;simpa using this
theorem GR{α β:Type}[Inhabited α]{f:α→β}{xs ys:List α}(h:xs.map f=ys.map f)(hk:k<xs.length):f (xs.getD k default)=f (ys.getD k default):=by
 have hl:xs.length=ys.length:=by simpa using congrArg List.length h
 have h5:=congrArg (fun l=>l[k]?) h;simp only[bJ',bH9 hk,bH9 (show k<ys.length by omega),bL5,bK0] at h5;simp only[bH8,bH9 hk,bH9 (show k<ys.length by omega),bP1];exact h5
section
attribute [local irreducible] Hy St Ops DH dH jg iP gQ DS gX
theorem OU(xs:List jy)(u v:Value)(hu:aA w u 4 (xs.map lg))(hv:aA w v 4 (xs.map lg)):Fn Tryz.prog 347 [u,v].toArray w [] (fun r _=>r=.bool true):=by
 obtain⟨q,cap,rfl,hne,hle⟩:=hu.opened;obtain⟨q2,cap2,rfl,hne2,_⟩:=hv.opened;refine enter Tryz.func347 ?_;refine run ?_;refine ah _ rfl (fun hc=>absurd hc bB5) (fun hc=>?_);refine run ?_;refine aK (σ:=Nat) (fun k=>[(5,.int .i64 (k:Int))]) (fun _=>[]) (fun k=>k≤xs.length) (fun k=>xs.length-k) 0 (bI1 _) ?_;rintro k m hm hk;refine run ?_;refine ah _ rfl (fun hc=>?_) (fun hc=>?_)
 ·have hlt:k<xs.length:=by simp at hc;omega
  obtain⟨b,o,rfl⟩:=hne bB7;obtain⟨b2,o2,rfl⟩:=hne2 bB7;have h1:=hu.row hlt;have h2:=hv.row hlt;refine run ?_;refine dA ?_;refine dI ?_;refine run ?_;rw[aV9];refine ah _ rfl (fun hp=>?_) (fun hp=>?_)
  ·simp at hp
  ·refine run ?_;exact aF (k+1) hlt
 ·refine run ?_;exact fin1 rfl
theorem Ls(xs:List fF)(u v:Value)(hu:aA w u 14 (xs.map iy))(hv:aA w v 14 (xs.map iy)):Fn Tryz.prog 346 [u,v].toArray w [] (fun r _=>r=.bool true):=by
 obtain⟨q,cap,rfl,hne,hle⟩:=hu.opened;obtain⟨q2,cap2,rfl,hne2,_⟩:=hv.opened;refine enter Tryz.func346 ?_;refine run ?_;refine ah _ rfl (fun hc=>absurd hc bB5) (fun hc=>?_);refine run ?_;refine aK (σ:=Nat) (fun k=>[(5,.int .i64 (k:Int))]) (fun _=>[]) (fun k=>k≤xs.length) (fun k=>xs.length-k) 0 (bI1 _) ?_;rintro k m hm hk;refine run ?_;refine ah _ rfl (fun hc=>?_) (fun hc=>?_)
 ·have hlt:k<xs.length:=by simp at hc;omega
  obtain⟨b,o,rfl⟩:=hne bB7;obtain⟨b2,o2,rfl⟩:=hne2 bB7;have h1:=hu.row hlt;have h2:=hv.row hlt;refine run ?_;refine dA ?_;refine dI ?_;refine run ?_;rw[ad3];refine ah _ rfl (fun hp=>?_) (fun hp=>?_)
  ·simp at hp
  ·refine run ?_;exact aF (k+1) hlt
 ·refine run ?_;exact fin1 rfl
theorem Xw(xs:List zL)(u v:Value)(hu:aA w u 15 (xs.map kN))(hv:aA w v 15 (xs.map kN)):Fn Tryz.prog 182 [u,v].toArray w [] (fun r _=>r=.bool true):=by
 obtain⟨q,cap,rfl,hne,hle⟩:=hu.opened;obtain⟨q2,cap2,rfl,hne2,_⟩:=hv.opened;refine enter Tryz.func182 ?_;refine run ?_;refine ah _ rfl (fun hc=>absurd hc bB5) (fun hc=>?_);refine run ?_;refine aK (σ:=Nat) (fun k=>[(5,.int .i64 (k:Int))]) (fun _=>[]) (fun k=>k≤xs.length) (fun k=>xs.length-k) 0 (bI1 _) ?_;rintro k m hm hk;refine run ?_;refine ah _ rfl (fun hc=>?_) (fun hc=>?_)
 ·have hlt:k<xs.length:=by simp at hc;omega
  obtain⟨b,o,rfl⟩:=hne bB7;obtain⟨b2,o2,rfl⟩:=hne2 bB7;have h1:=hu.row hlt;have h2:=hv.row hlt;refine run ?_;refine dA ?_;refine dI ?_;refine run ?_;rw[OT];refine ah _ rfl (fun hp=>?_) (fun hp=>?_)
  ·simp at hp
  ·refine run ?_;exact aF (k+1) hlt
 ·refine run ?_;exact fin1 rfl
theorem TI(xs:List Az)(u v:Value)(hu:aA w u 16 (xs.map wR))(hv:aA w v 16 (xs.map wR)):Fn Tryz.prog 328 [u,v].toArray w [] (fun r _=>r=.bool true):=by
 obtain⟨q,cap,rfl,hne,hle⟩:=hu.opened;obtain⟨q2,cap2,rfl,hne2,_⟩:=hv.opened;refine enter Tryz.func328 ?_;refine run ?_;refine ah _ rfl (fun hc=>absurd hc bB5) (fun hc=>?_);refine run ?_;refine aK (σ:=Nat) (fun k=>[(5,.int .i64 (k:Int))]) (fun _=>[]) (fun k=>k≤xs.length) (fun k=>xs.length-k) 0 (bI1 _) ?_;rintro k m hm hk;refine run ?_;refine ah _ rfl (fun hc=>?_) (fun hc=>?_)
 ·have hlt:k<xs.length:=by simp at hc;omega
  obtain⟨b,o,rfl⟩:=hne bB7;obtain⟨b2,o2,rfl⟩:=hne2 bB7;have h1:=hu.row hlt;have h2:=hv.row hlt;refine run ?_;refine dA ?_;refine dI ?_;refine run ?_;rw[aV'];refine ah _ rfl (fun hp=>?_) (fun hp=>?_)
  ·simp at hp
  ·refine run ?_;exact aF (k+1) hlt
 ·refine run ?_;exact fin1 rfl
theorem ad7(a b:uo)(he:a.es=b.es)(hd:a.ds=b.ds)(h1:aA w a.ev 14 (a.es.map iy))(h2:aA w a.dv 4 (a.ds.map lg))(h3:aA w b.ev 14 (b.es.map iy))(h4:aA w b.dv 4 (b.ds.map lg)):Fn Tryz.prog 326 [.agg (TF a).toArray,.agg (TF b).toArray].toArray w [] (fun r _=>r=.bool true):=by
 obtain⟨es,ds,ep,ec,dp,dc⟩:=a;obtain⟨es2,ds2,ep2,ec2,dp2,dc2⟩:=b;dsimp only at he hd;subst he hd;refine enter Tryz.func326 ?_;refine run ?_;intro B C;refine aC ?_;refine az (fun wc hG=>Ls es _ _ (h1.good hG) (h3.good hG)) ?_;refine aC ?_;refine bG (fun _ wc hG=>OU ds _ _ (h2.good hG) (h4.good hG)) ?_;refine aC ?_;exact fin1 rfl
theorem ad8(a b:jv)(h:a.core=b.core)(h1:aA w a.t.ev 14 (a.t.es.map iy))(h2:aA w a.t.dv 4 (a.t.ds.map lg))(h3:aA w b.t.ev 14 (b.t.es.map iy))(h4:aA w b.t.dv 4 (b.t.ds.map lg)):Fn Tryz.prog 275 [.agg (qY a).toArray,.agg (qY b).toArray].toArray w [] (fun r _=>r=.bool true):=by
 simp only[jv.core,Prod.mk.injEq] at h;obtain⟨e1,e2,e3,he,hd⟩:=h;refine enter Tryz.func275 ?_;refine run ?_;intro B C;refine aC ?_;refine bG (fun _ wc hG=>ad7 a.t b.t he hd (h1.good hG) (h2.good hG) (h3.good hG) (h4.good hG)) ?_;refine aC ?_;refine fin1 ?_;have hr:aW (kN a.r) (kN b.r)=true:=by rw[OT,e1];simp
 simp only[hr,e2,e3];simp
theorem Xx(xs ys:List jv)(u v:Value)(hcm:xs.map jv.core=ys.map jv.core)(h1:AA w u xs)(h2:AA w v ys):Fn Tryz.prog 180 [u,v].toArray w [] (fun r _=>r=.bool true):=by
 have hl:xs.length=ys.length:=by simpa using congrArg List.length hcm
 obtain⟨q,cap,rfl,hne,hle⟩:=h1.rows.opened;obtain⟨q2,cap2,rfl,hne2,_⟩:=h2.rows.opened;refine enter Tryz.func180 ?_;refine run ?_;refine ah _ rfl (fun hc=>absurd hc (by simp[hl])) (fun hc=>?_);refine run ?_;refine aK (σ:=Nat) (fun k=>[(5,.int .i64 (k:Int))]) (fun _=>[]) (fun k=>k≤xs.length) (fun k=>xs.length-k) 0 (bI1 _) ?_;rintro k m hm hk;refine run ?_;refine ah _ rfl (fun hc=>?_) (fun hc=>?_)
 ·have hlt:k<xs.length:=by simp at hc;omega
  obtain⟨b,o,rfl⟩:=hne bB7;obtain⟨b2,o2,rfl⟩:=hne2 (by intro e;rw[e] at hl;simp only[bS0] at hl;omega);have hr1:=h1.rows.row hlt;have hr2:=h2.rows.row (show k<ys.length by omega);have hcc:=GR hcm hlt;have p0x:=h1.en _ (getD_mem hlt);have q0x:=h2.en _ (getD_mem (show k<ys.length by omega));have p1x:=h1.iv _ (getD_mem hlt);have q1x:=h2.iv _ (getD_mem (show k<ys.length by omega));generalize xs.getD k default=a at *;generalize ys.getD k default=c at *;refine run ?_;refine dA ?_;refine dI ?_;refine fB (fun wc hG=>ad8 a c hcc (p0x.good hG) (p1x.good hG) (q0x.good hG) (q1x.good hG)) ?_;refine dI ?_;refine run ?_;refine ah _ rfl (fun hp=>?_) (fun hp=>?_)
  ·simp at hp
  ·refine run ?_;exact aF (k+1) hlt
 ·refine run ?_;exact fin1 rfl
theorem ay7(a b:eG)(h:a.core=b.core)(h1:aA w a.fv 1 (a.fs.map bY))(h2:aA w a.rv 1 (a.fr.map bY))(h3:aA w a.vv 16 (a.vs.map wR))(g1:aA w b.fv 1 (b.fs.map bY))(g2:aA w b.rv 1 (b.fr.map bY))(g3:aA w b.vv 16 (b.vs.map wR)):Fn Tryz.prog 276 [.agg (mW a).toArray,.agg (mW b).toArray].toArray w [] (fun r _=>r=.bool true):=by
 simp only[eG.core,Prod.mk.injEq] at h;obtain⟨e1,e2,e3,e4,e5,e6⟩:=h;rw[←e4] at g1;rw[←e5] at g2;rw[←e6] at g3;refine enter Tryz.func276 ?_;refine run ?_;intro B C;refine aC ?_;refine bG (fun _ wc hG=>BC a.fs _ _ (h1.good hG) (g1.good hG)) ?_;refine aC ?_;refine bG (fun _ wc hG=>BC a.fr _ _ (h2.good hG) (g2.good hG)) ?_;refine aC ?_;refine bG (fun _ wc hG=>TI a.vs _ _ (h3.good hG) (g3.good hG)) ?_;refine aC ?_;refine fin1 ?_;simp[e1,e2,e3]
theorem ad9(xs ys:List eG)(u v:Value)(hcm:xs.map eG.core=ys.map eG.core)(h1:yT w u xs)(h2:yT w v ys):Fn Tryz.prog 181 [u,v].toArray w [] (fun r _=>r=.bool true):=by
 have hl:xs.length=ys.length:=by simpa using congrArg List.length hcm
 obtain⟨q,cap,rfl,hne,hle⟩:=h1.rows.opened;obtain⟨q2,cap2,rfl,hne2,_⟩:=h2.rows.opened;refine enter Tryz.func181 ?_;refine run ?_;refine ah _ rfl (fun hc=>absurd hc (by simp[hl])) (fun hc=>?_);refine run ?_;refine aK (σ:=Nat) (fun k=>[(5,.int .i64 (k:Int))]) (fun _=>[]) (fun k=>k≤xs.length) (fun k=>xs.length-k) 0 (bI1 _) ?_;rintro k m hm hk;refine run ?_;refine ah _ rfl (fun hc=>?_) (fun hc=>?_)
 ·have hlt:k<xs.length:=by simp at hc;omega
  obtain⟨b,o,rfl⟩:=hne bB7;obtain⟨b2,o2,rfl⟩:=hne2 (by intro e;rw[e] at hl;simp only[bS0] at hl;omega);have hr1:=h1.rows.row hlt;have hr2:=h2.rows.row (show k<ys.length by omega);have hcc:=GR hcm hlt;have p0x:=h1.fs _ (getD_mem hlt);have q0x:=h2.fs _ (getD_mem (show k<ys.length by omega));have p1x:=h1.fr _ (getD_mem hlt);have q1x:=h2.fr _ (getD_mem (show k<ys.length by omega));have p2x:=h1.vs _ (getD_mem hlt);have q2x:=h2.vs _ (getD_mem (show k<ys.length by omega));generalize xs.getD k default=a at *;generalize ys.getD k default=c at *;refine run ?_;refine dA ?_;refine dI ?_;refine fB (fun wc hG=>ay7 a c hcc (p0x.good hG) (p1x.good hG) (p2x.good hG) (q0x.good hG) (q1x.good hG) (q2x.good hG)) ?_;refine dI ?_;refine run ?_;refine ah _ rfl (fun hp=>?_) (fun hp=>?_)
  ·simp at hp
  ·refine run ?_;exact aF (k+1) hlt
 ·refine run ?_;exact fin1 rfl
theorem QZ(ws:List Nat)(c1 c2:List jv)(m1 m2:List eG)(rs:List zL)(wv1 wv2 cv1 AL mv1 mv2 rv1 rv2:Value)(hc:c1.map jv.core=c2.map jv.core)(hm:m1.map eG.core=m2.map eG.core)(hw1:aA w wv1 1 (ws.map uV))(hw2:aA w wv2 1 (ws.map uV))(hc1:AA w cv1 c1)(hc2:AA w AL c2)(hm1:yT w mv1 m1)(hm2:yT w mv2 m2)(hr1:aA w rv1 15 (rs.map kN))(hr2:aA w rv2 15 (rs.map kN)):
  Fn Tryz.prog 100 [.agg #[wv1,cv1,mv1,rv1],.agg #[wv2,AL,mv2,rv2]].toArray w [] (fun r _=>r=.bool true):=by
 have aW4:=hw1;have aW5:=hw2;have hc1':=hc1;have hc2':=hc2;have aW6:=hm1;have aW7:=hm2;have hr1':=hr1;have hr2':=hr2;obtain⟨_,_,rfl,_⟩:=hw1.opened;obtain⟨_,_,rfl,_⟩:=hw2.opened;obtain⟨_,_,rfl,_⟩:=hc1.rows.opened;obtain⟨_,_,rfl,_⟩:=hc2.rows.opened;obtain⟨_,_,rfl,_⟩:=hm1.rows.opened;obtain⟨_,_,rfl,_⟩:=hm2.rows.opened;obtain⟨_,_,rfl,_⟩:=hr1.opened;obtain⟨_,_,rfl,_⟩:=hr2.opened;refine enter Tryz.func100 ?_;refine run ?_;intro B C;refine aC ?_;refine az (fun wc hG=>ab9 ws _ _ (aW4.good hG) (aW5.good hG)) ?_;refine aC ?_;refine bG (fun _ wc hG=>Xx c1 c2 _ _ hc (hc1'.good hG) (hc2'.good hG)) ?_;refine aC ?_;refine bG (fun _ wc hG=>ad9 m1 m2 _ _ hm (aW6.good hG) (aW7.good hG)) ?_;refine aC ?_;refine bG (fun _ wc hG=>Xw rs _ _ (hr1'.good hG) (hr2'.good hG)) ?_;refine aC ?_;refine fin1 rfl
theorem yU(f soft:Int)(w:World):Fn Tryz.prog 166 [.int .i64 f,.int .i64 soft].toArray w [] (fun u _=>u=uj (aZ f soft)):=by
 refine enter Tryz.func166 ?_;refine run ?_;intro B C;refine run ?_;exact dR (cs:=#[.int .i64 2,.int .i64 f,.bool true,.bool true,.bool true,.bool true,.bool false,.int .i64 soft,.int .i64 0]) rfl
theorem yV(f soft:Int)(w:World):Fn Tryz.prog 50 [.int .i64 f,.int .i64 soft].toArray w [] (fun u _=>u=uj (aZ f soft)):=by
 refine enter Tryz.func50 ?_;refine run ?_;intro B;refine run ?_;exact dR (cs:=#[.int .i64 2,.int .i64 f,.bool true,.bool true,.bool true,.bool true,.bool false,.int .i64 soft,.int .i64 0]) rfl
theorem ay8(own pG f:Int)(ho:own≤1000)(h1:-1≤own)(w:World):Fn Tryz.prog 51 [.agg #[.int .i64 own,.int .i64 pG],.int .i64 f].toArray w [] (fun u _=>u=uj (kW own pG f)):=by
 refine enter Tryz.func51 ?_;refine run ?_;intro B C;refine aC ?_;refine ah _ rfl (fun hc=>?_) (fun hc=>?_)
 ·refine run ?_;refine az (fun wc hG=>yV f 0 wc) ?_;refine run ?_;rw[show kW own pG f=aZ f 0 by unfold kW;rw[hc,cond_true]];exact dR (cs:=#[.int .i64 (aZ f 0).kind,.int .i64 (aZ f 0).frame,.bool (aZ f 0).r,.bool (aZ f 0).w,.bool (aZ f 0).x,.bool (aZ f 0).af,.bool (aZ f 0).ng,.int .i64 (aZ f 0).soft,.int .i64 (aZ f 0).note]) rfl
 refine run ?_;refine ah _ rfl (fun hc2=>?_) (fun hc2=>?_)
 ·refine run ?_;refine az (fun wc hG=>yV f 1 wc) ?_;refine run ?_;rw[show kW own pG f=aZ f 1 by unfold kW;rw[hc,cond_false,hc2,cond_true]];exact dR (cs:=#[.int .i64 (aZ f 1).kind,.int .i64 (aZ f 1).frame,.bool (aZ f 1).r,.bool (aZ f 1).w,.bool (aZ f 1).x,.bool (aZ f 1).af,.bool (aZ f 1).ng,.int .i64 (aZ f 1).soft,.int .i64 (aZ f 1).note]) rfl
 refine run ?_;refine ah _ rfl (fun hc3=>?_) (fun hc3=>?_)
 ·refine run ?_;refine az (fun wc hG=>yV f 2 wc) ?_;refine run ?_;rw[show kW own pG f=aZ f 2 by unfold kW;rw[hc,cond_false,hc2,cond_false,hc3,cond_true]];exact dR (cs:=#[.int .i64 (aZ f 2).kind,.int .i64 (aZ f 2).frame,.bool (aZ f 2).r,.bool (aZ f 2).w,.bool (aZ f 2).x,.bool (aZ f 2).af,.bool (aZ f 2).ng,.int .i64 (aZ f 2).soft,.int .i64 (aZ f 2).note]) rfl
 refine run ?_;refine ah _ rfl (fun hc4=>?_) (fun hc4=>?_)
 ·refine run ?_;rw[show kW own pG f=jK 1 by unfold kW;rw[hc,cond_false,hc2,cond_false,hc3,cond_false,hc4,cond_true]];exact dR (cs:=#[.int .i64 0,.int .i64 0,.bool false,.bool false,.bool false,.bool false,.bool false,.int .i64 0,.int .i64 1]) rfl
 refine run ?_;rw[show kW own pG f=jK (1+own) by unfold kW;rw[hc,cond_false,hc2,cond_false,hc3,cond_false,hc4,cond_false]];exact dR (cs:=#[.int .i64 0,.int .i64 0,.bool false,.bool false,.bool false,.bool false,.bool false,.int .i64 0,.int .i64 (1+own)]) rfl
def dm(pages:List o8)(k:Nat):DsD:=bif decide (k<pages.length) then kW (pages.getD k default).own (pages.getD k default).wit k else dG
theorem yX(hk:k<64){s:Int}(h0:0≤s)(h1:s≤15):(aZ (k:Int) s).may 2 3=true:=by
 simp[DsD.may,aZ,PtD.dD,h0,h1,au,lV,bV'];apply decide_eq_true;show (k:Int)≤4095;omega
theorem Lu{own pG:Int}(hk:k<64)(h0:-1≤own)(h1:own≤14):(kW own pG k).may 2 3=true:=by
 unfold kW;refine mF (P:=fun d=>DsD.may 2 3 d=true) (yX hk bB4 bB4) (mF (P:=fun d=>DsD.may 2 3 d=true) (yX hk bB4 bB4) (mF (P:=fun d=>DsD.may 2 3 d=true) (yX hk bB4 bB4) (mF (P:=fun d=>DsD.may 2 3 d=true) bB4 (Gz bB3 bB3))))
theorem OV{pages:List o8}(qH:∀ a∈pages,-1≤a.own∧a.own≤14)(hk:k<64):(dm pages k).may 2 3=true:=by
 unfold dm
 cases h:decide (k<pages.length) with
 | false=>exact uX 2 3
 | true=>
  have:=qH _ (getD_mem (by simpa using h));exact Lu hk this.1 this.2
theorem GU(F:Nat)(hF1:16≤F)(hF:F≤64)(pages:List o8)(qH:∀ a∈pages,-1≤a.own∧a.own≤14){pv:Value}(h:aA w pv 2 (pages.map sS)):Fn Tryz.prog 26 [.int .i64 (F:Int),pv].toArray w [] (fun u hn=>Xj (qo (F*8) (dm pages) 64).ws u hn):=by
 obtain⟨q,cap,rfl,hne,hle⟩:=h.opened;refine enter Tryz.func26 ?_;refine run ?_;intro R;rw[show (F:Int)*8=((F*8:Nat):Int) by omega];refine make (m:=F*8) (fun Z=>?_) bB3;refine run ?_;intro M A;refine run ?_;have Xy:128≤F*8:=by omega
 have hM0:Own 53 1 (.slice (some ⟨Z,0,none⟩) (F*8) (F*8)) [⟨Z,madeCells (Value.int .u64 0).cells (F*8*1),53⟩] ((dP (F*8) (iQ (dm pages) 0)).map uV):=by
  have:=Xo Z (F*8) bB3;rw[Ar] at this;exact this
 have hL0:Own 3 1 (.slice (some ⟨A,0,none⟩) 15 15) [⟨A,#[.int .i64 1,.int .i64 2,.int .i64 3,.int .i64 4,.int .i64 5,.int .i64 6,.int .i64 7,.int .i64 8,.int .i64 9,.int .i64 10,.int .i64 11,.int .i64 12,.int .i64 13,.int .i64 14,.int .i64 15],3⟩] ((leftB 0).map bY):=I7 A 15 _ rfl rfl bD6;refine aK (σ:=Nat×Option Addr×Nat×Hp×Option Addr×Nat×Hp) (fun s=>[(7,.int .i64 (s.1:Int)),(6,.slice s.2.2.2.2.1 (leftB s.1).length s.2.2.2.2.2.1)]) (fun s=>⟨M,#[.slice s.2.1 (F*8) s.2.2.1],24⟩::⟨R,#[.slice none 0 0],24⟩::(s.2.2.2.2.2.2++s.2.2.2.1)) (fun s=>s.1≤64∧Own 53 1 (.slice s.2.1 (F*8) s.2.2.1) s.2.2.2.1 ((dP (F*8) (iQ (dm pages) s.1)).map uV)∧Own 3 1 (.slice s.2.2.2.2.1 (leftB s.1).length s.2.2.2.2.2.1) s.2.2.2.2.2.2 ((leftB s.1).map bY)) (fun s=>64-s.1) (0,some ⟨Z,0,none⟩,F*8,_,some ⟨A,0,none⟩,15,_) ⟨(by decide:0≤64),hM0,hL0⟩ ?_ (hh:=by (exact ak));rintro⟨k,mq,mc,hm,fq,fc,hf⟩ m hmm ⟨hk,hM,hL⟩;dsimp only at hmm hk hM hL ⊢;refine run ?_;refine ah _ rfl (fun hc=>?_) (fun hc=>?_)
 ·have hlt:k<64:=by simp at hc;omega
  have hn:(dP (F*8) (iQ (dm pages) k)).length=F*8:=eU _ _;have hw64:lW (dP (F*8) (iQ (dm pages) k)):=lW.dP (QV _ _);refine run ?_
  have hll:(leftB k).length<1000:=by
   have:∀ k,k<65→(leftB k).length<1000:=by decide +kernel
   exact this k bB3
  obtain⟨q',c',eq',hcl,hq'⟩:=hL.QS;injection eq' with e1 e2 e3
  subst e1 e3;have hstep:=nX Xy (dm pages) (k+1) bB3;rw[qo,nX Xy (dm pages) k bB3] at hstep;dsimp only at hstep;have hTk:=QT hw64 0 (leftB k) k (aZ k 0);refine Ag 11 [0,1,2,3,4] [5,10] [6,7,8,9] [12,13] [11] ?_;refine gI ?_;refine Eo (fun wc hx hG=>yV k 0 wc) ?_;refine gI ?_;refine jZ (R:=fun u hn=>Tu (rD (dP (F*8) (iQ (dm pages) k)) 0 (leftB k) k (aZ k 0)) u hn) (fun wc hG=>ax5 _ hw64 (hM.lie (fun b hb=>hG.here b bG2) (by simp[hn];omega)) _ (hL.lie (fun b hb=>hG.here b bG2) bB9) ⟨_,_,rfl,hcl⟩ 0 k bB3 (aZ k 0) (yX hlt bB4 bB4) (by rw[hn];omega) bB3) (ac8 _ (by have:=hTk.2.1;omega) (by have:=hTk.2.2;omega)) ?_;refine sO ?_;refine kL ?_;generalize rD (dP (F*8) (iQ (dm pages) k)) 0 (leftB k) k (aZ k 0)=T at hTk hstep;obtain⟨tw,tl,te⟩:=T;obtain⟨aL8,hTl,hTf⟩:=hTk;dsimp only at aL8 hTl hTf hstep;rw[I5.mk.injEq] at hstep;obtain⟨hs1,hs2,_⟩:=hstep;rintro _ _ ⟨X,rfl,rfl⟩ u hn2 ⟨v2,h2,vl2,hl2,rfl,hO2,hL2,hle2⟩;dsimp only at hO2 hL2;obtain⟨q2',c2',e2⟩:=hO2.opened;rw[bH7] at e2;subst e2;refine yD ?_;refine dX ?_;refine dX ?_;refine dX ?_;refine jJ ?_;refine oQ ?_;refine oQ ?_;refine jJ ?_;simp only[DN,bI0,bI3,bI'];refine WV ?_;refine di ?_;refine kV ?_;refine aS (⟨X,#[.slice q2' tw.length c2'],24⟩::⟨M,#[.slice mq (F*8) mc],24⟩::⟨R,#[.slice none 0 0],24⟩::(h2++hl2)) (cnt1 hle2) ?_;refine run ?_;intro D;refine sF (σ:=DsD) (fun _=>[]) (fun d=>⟨D,#[.int .i64 (d).kind,.int .i64 (d).frame,.bool (d).r,.bool (d).w,.bool (d).x,.bool (d).af,.bool (d).ng,.int .i64 (d).soft,.int .i64 (d).note],95⟩::⟨X,#[.slice q2' tw.length c2'],24⟩::⟨M,#[.slice mq (F*8) mc],24⟩::⟨R,#[.slice none 0 0],24⟩::(h2++hl2)) (fun d=>d=dm pages k) ?_ ?_
  ·refine ah _ rfl (fun hc2=>?_) (fun hc2=>?_)
   ·have hlp:k<pages.length:=by simpa using hc2
    obtain⟨b3,o3,rfl⟩:=hne (by intro e;rw[e] at hlp;simp at hlp);have hr:=h.row hlp;have hpk:=qH _ (getD_mem hlp);have hd:dm pages k=kW (pages.getD k default).own (pages.getD k default).wit k:=by simp only[dm,hlp,decide_true,cond_true]
    generalize pages.getD k default=a at hr hpk hd;refine run ?_;refine az (fun wc hG=>ay8 a.own a.wit k bB3 hpk.1 wc) ?_;refine run ?_;exact kZ _ hd.symm
   ·have hlp:decide (k<pages.length)=false:=by simpa using hc2
    have hd:dm pages k=dG:=by simp only[dm,hlp,cond_false]
    refine run ?_;exact kZ dG hd.symm
  rintro d hd;have hdm:d.may 2 3=true:=by rw[hd];exact OV qH hlt
  rw[←hd] at hs1;clear hd;refine run ?_;refine bH (fun wc hG=>ax0 tw aL8 (hO2.lie (fun b hb=>hG.here b bG2) bB6) 0 k bB3 3 bB4 d hdm bB3) ?_;rintro u hn3 ⟨v3,h3,rfl,hO3,hle3⟩;rw[hs1] at hO3;obtain⟨q3,c3,e3⟩:=hO3.opened;rw[bH7,eU] at e3;subst e3;rw[hs2] at hL2;obtain⟨q4,c4,e4⟩:=hL2.opened;rw[bH7] at e4;subst e4;refine aS (⟨D,#[.int .i64 (d).kind,.int .i64 (d).frame,.bool (d).r,.bool (d).w,.bool (d).x,.bool (d).af,.bool (d).ng,.int .i64 (d).soft,.int .i64 (d).note],95⟩::⟨X,#[.slice q2' tw.length c2'],24⟩::⟨M,#[.slice mq (F*8) mc],24⟩::⟨R,#[.slice none 0 0],24⟩::(h3++hl2)) (cnt1 hle3) ?_;refine run ?_;refine aF (k+1,q3,c3,h3,q4,c4,hl2) ⟨hlt,hO3,hL2⟩ (hm:=by dsimp only;omega) (h2:=by (exact ak))
 have aW8:k=64:=by simp at hc;omega
 subst aW8;refine run ?_;rw[nX Xy (dm pages) 64 (bI9 _)];exact dR (cs:=#[.slice mq (F*8) mc]) ⟨_,hm,rfl,hM,by (exact ak)⟩
theorem OW{F C:Nat}(hF1:16≤F)(k:Nat):dm (iw F C).pages k=uZ F k:=by
 unfold dm uZ;have hl:(iw F C).pages.length=F:=by simp[iw]
 rw[hl];by_cases hF:k<F
 ·have e1:decide (k<F)=true:=by simpa using hF
  have e2:decide (F≤k)=false:=by simp;omega
  have e3:(iw F C).pages.getD k default=⟨bif decide (k<16) then -1 else 0,-2⟩:=by
   simp[iw,bH8,bO' hF]
  rw[e1,e2,e3,cond_true,cond_false];cases decide (k<16)<;>rfl
 ·have e1:decide (k<F)=false:=by simpa using hF
  have e2:decide (F≤k)=true:=by simp;omega
  have e3:decide (k<16)=false:=by simp;omega
  rw[e1,e2,e3,cond_false,cond_true,cond_false]
theorem OX{dd dd':Nat→DsD}(h:∀ k,dd k=dd' k):∀ j,qo n dd j=qo n dd' j:=by
 intro j
 induction j with
 | zero=>rfl
 | succ j ih=>rw[qo,qo,ih,h j]
theorem LC{F C:Nat}(hF1:16≤F):(qo (F*8) (dm (iw F C).pages) 64).ws=dP (F*8) (rG F 64):=by
 rw[OX (OW hF1),←OO bB3 F,Lj bB3 F 64 (bI9 _)]
theorem Xz{F C:Nat}:∀ a∈(iw F C).pages,-1≤a.own∧a.own≤14:=by
 intro a ha;obtain⟨k,_,rfl⟩:=bI7.1 ha;dsimp only;cases decide (k<16)<;>decide
end
section
section
variable {n : Nat} {w0 : World} {mu : List Nat} {l : Fm} {hp : Hp} {ty : TypeId} {pos : String} {af : Array Edge} {dd : Option Nat} {gg : Option (Nat × Bool)}
theorem XA{m s:Nat}{ps:List (Nat×Operand)}{vs:List (Nat×Value)}{z:Value}{out out':Array Value}(ht:lk Tb.ar t=some (m,e,s))(hz:lk Tb.zs t=some z)(hv:Fh l ps=some vs)(hf:Instr.fill (fun i=>some (i*s,s)) z.cells vs=some out)(hn:out=out'):Hy Tryz.prog n w0 mu l hp ⟨dd,.build t ps.toArray,ty,pos,af,gg⟩ (.agg out'):=by
 subst hn;obtain⟨hu,hs⟩:=aB.gar ht
 exact bQ fun a w hk _=>by
  have e:(ps.toArray.map fun x=>(x.1,a.eval x.2))=vs.toArray:=by rw[←hk.Fh hv];simp
  simp only[execOp,Instr.build,Sem.run_bind,pK (aB.NH hz) w,Result.andThen_ok,run_underlying hu w,run_sizeOf hs w,e];simp[hf]
theorem Eu{m:Nat}{y:Operand}{cs:Array Value}{k:IntKind}{i:Int}(ht:lk Tb.ar t=some (m,e,1))(hsc:mem Tb.sc e=true)(hx:ev l x=some (.agg cs))(hy:ev l y=some (.int k i))(h0:0≤i)(h1:i<m)(hn:cs[i.toNat]?=some v){ty2:TypeId}:Hy Tryz.prog n w0 mu l hp ⟨dd,.index t x y,ty2,pos,af,gg⟩ v:=by
 obtain⟨hu,hs⟩:=aB.gar ht;have hg:=aB.gsc hsc
 exact bQ fun a w hk _=>by
  simp only[execOp,hk.ev hx,hk.ev hy];simp[Instr.index,run_underlying hu w,asIntOf,h0,h1,run_sizeOf hs w,part,oI hg w,hn]
end
end
section
attribute [local irreducible] Hy St Ops DH dH jg iP gQ DS gX lJ
theorem LD(w:World):Fn Tryz.prog 121 [].toArray w [] (fun u _=>u=.agg #[.int .i64 1,.int .i64 1,.int .i64 1,.int .i64 8]):=by
 refine enter Tryz.func121 ?_;refine run ?_;intro B;refine run ?_;refine jI bB8 (XA (out:=#[.int .i64 1,.int .i64 1,.int .i64 1,.int .i64 8]) rfl rfl rfl bB8 rfl) ?_;refine run ?_;exact dR (cs:=#[.int .i64 1,.int .i64 1,.int .i64 1,.int .i64 8]) rfl
theorem XC:∀ k:Nat,k<4→(#[.int .i64 1,.int .i64 1,.int .i64 1,.int .i64 8]:Array Value)[k]?=some (.int .i64 (if k=3 then 8 else 1)):=by
 intro k hk;have:k=0∨k=1∨k=2∨k=3:=by omega
 rcases this with rfl | rfl | rfl | rfl<;>rfl
theorem ay9(f own pG:Int)(h1:-1≤own)(h2:own≤1000)(w:World):Fn Tryz.prog 206 [.int .i64 f,.agg #[.int .i64 own,.int .i64 pG]].toArray w [] (fun u _=>u=uj (kW own pG f)):=by
 refine enter Tryz.func206 ?_;refine run ?_;intro B C;refine aC ?_;refine ah _ rfl (fun hc=>?_) (fun hc=>?_)
 ·refine run ?_;refine az (fun wc hG=>yU f 0 wc) ?_;refine run ?_;rw[show kW own pG f=aZ f 0 by unfold kW;rw[hc,cond_true]];exact dR (cs:=#[.int .i64 (aZ f 0).kind,.int .i64 (aZ f 0).frame,.bool (aZ f 0).r,.bool (aZ f 0).w,.bool (aZ f 0).x,.bool (aZ f 0).af,.bool (aZ f 0).ng,.int .i64 (aZ f 0).soft,.int .i64 (aZ f 0).note]) rfl
 refine run ?_;refine ah _ rfl (fun hc2=>?_) (fun hc2=>?_)
 ·refine run ?_;refine az (fun wc hG=>yU f 1 wc) ?_;refine run ?_;rw[show kW own pG f=aZ f 1 by unfold kW;rw[hc,cond_false,hc2,cond_true]];exact dR (cs:=#[.int .i64 (aZ f 1).kind,.int .i64 (aZ f 1).frame,.bool (aZ f 1).r,.bool (aZ f 1).w,.bool (aZ f 1).x,.bool (aZ f 1).af,.bool (aZ f 1).ng,.int .i64 (aZ f 1).soft,.int .i64 (aZ f 1).note]) rfl
 refine run ?_;refine ah _ rfl (fun hc3=>?_) (fun hc3=>?_)
 ·refine run ?_;refine az (fun wc hG=>yU f 2 wc) ?_;refine run ?_;rw[show kW own pG f=aZ f 2 by unfold kW;rw[hc,cond_false,hc2,cond_false,hc3,cond_true]];exact dR (cs:=#[.int .i64 (aZ f 2).kind,.int .i64 (aZ f 2).frame,.bool (aZ f 2).r,.bool (aZ f 2).w,.bool (aZ f 2).x,.bool (aZ f 2).af,.bool (aZ f 2).ng,.int .i64 (aZ f 2).soft,.int .i64 (aZ f 2).note]) rfl
 have hne:=of_decide_eq_false hc2;refine run ?_;refine ah _ rfl (fun hc4=>?_) (fun hc4=>?_)
 ·have hp:0<own:=of_decide_eq_true hc4;refine run ?_;rw[show kW own pG f=jK (1+own) by unfold kW;rw[hc,cond_false,hc2,cond_false,hc3,cond_false,decide_eq_false bB3,cond_false]];exact dR (cs:=#[.int .i64 0,.int .i64 0,.bool false,.bool false,.bool false,.bool false,.bool false,.int .i64 0,.int .i64 (1+own)]) rfl
 have hp:¬ 0<own:=of_decide_eq_false hc4;refine run ?_;rw[show kW own pG f=jK 1 by unfold kW;rw[hc,cond_false,hc2,cond_false,hc3,cond_false,decide_eq_true bB3,cond_true]];exact dR (cs:=#[.int .i64 0,.int .i64 0,.bool false,.bool false,.bool false,.bool false,.bool false,.int .i64 0,.int .i64 1]) rfl
def kF(pages:List o8)(lv tb at_:Nat):DsD:=
 bif decide (lv=3) then dm pages (tb*8+at_) else bif decide (lv=2) then jV (3+(at_:Int)) else bif decide (at_=0) then jV ((lv:Int)+1) else dG
theorem TJ(X:Nat){pv gv ov:Value}(pages:List o8)(h:aA w pv 2 (pages.map sS))(qH:∀ a∈pages,-1≤a.own∧a.own≤14)(lv tb at_:Nat)(hl:lv<4)(ht:tb<8)(ha:at_<8):Fn Tryz.prog 123 [.pointer (some ⟨X,0,none⟩),.agg #[pv,gv,ov],.int .i64 (lv:Int),.int .i64 (tb:Int),.int .i64 (at_:Int)].toArray w [] (fun u _=>u=uj (kF pages lv tb at_)):=by
 have h':=h;obtain⟨q,cap,rfl,hne,hle⟩:=h.opened;refine enter Tryz.func123 ?_;refine run ?_;intro P D;refine ah _ rfl (fun hc=>?_) (fun hc=>?_)
 ·have hl3:lv<3:=by simp at hc;omega
  refine run ?_;refine az (fun wc hG=>LD wc) ?_;refine run ?_;refine aK (σ:=Nat) (fun k=>[(18,.int .i64 (k:Int)),(11,.int .i64 ((min k (lv+1):Nat):Int))]) (fun _=>⟨D,#[.int .i64 0,.int .i64 0,.bool false,.bool false,.bool false,.bool false,.bool false,.int .i64 0,.int .i64 0],95⟩::[⟨P,#[.slice q pages.length cap,gv,ov],48⟩]) (fun k=>k≤4) (fun k=>4-k) 0 (bI1 _) ?_;rintro k m hm hk;refine run ?_;refine ah _ rfl (fun hc2=>?_) (fun hc2=>?_)
  ·have hk3:k<4:=by simp at hc2;omega
   refine run ?_;refine jI bB8 (Eu rfl rfl rfl rfl bB3 bB3 (XC k hk3)) ?_;refine run ?_;refine ah _ rfl (fun hc3=>?_) (fun hc3=>?_)
   ·have hkl:k≤lv:=by simp at hc3;omega
    rw[if_neg (by omega:¬ k=3),show min k (lv+1)=k by omega];refine run ?_;exact aF (k+1) hk3 (h1:=by rw[show min (k+1) (lv+1)=k+1 by omega];(repeat (first | exact True.intro | (refine And.intro bC1 ?_))))
   ·have hkl:lv<k:=by simp at hc3;omega
    refine run ?_;exact aF (k+1) hk3 (h1:=by rw[show min (k+1) (lv+1)=min k (lv+1) by omega];(repeat (first | exact True.intro | (refine And.intro bC1 ?_))))
  ·have hk4:k=4:=by simp at hc2;omega
   subst hk4;rw[show min 4 (lv+1)=lv+1 by omega];refine run ?_;refine ah _ rfl (fun hc3=>?_) (fun hc3=>?_)
   ·have h2:lv=2:=by simp at hc3;omega
    subst h2;rw[show ((2+1:Nat):Int)=3 from rfl];refine run ?_;exact dR (cs:=#[.int .i64 1,.int .i64 (3+(at_:Int)),.bool false,.bool false,.bool false,.bool false,.bool false,.int .i64 0,.int .i64 0]) rfl
   ·have h2:lv≠2:=by simp at hc3;omega
    refine run ?_;refine ah _ rfl (fun hc4=>?_) (fun hc4=>?_)
    ·have h0:at_=0:=by simp at hc4;omega
     have hfd:kF pages lv tb at_=jV ((lv+1:Nat):Int):=by unfold kF;rw[decide_eq_false bB3,decide_eq_false h2,decide_eq_true h0];simp[jV]
     rw[hfd];refine run ?_;exact dR (cs:=#[.int .i64 1,.int .i64 ((lv+1:Nat):Int),.bool false,.bool false,.bool false,.bool false,.bool false,.int .i64 0,.int .i64 0]) rfl
    ·have h0:at_≠0:=by simp at hc4;omega
     have hfd:kF pages lv tb at_=dG:=by unfold kF;rw[decide_eq_false bB3,decide_eq_false h2,decide_eq_false h0];rfl
     rw[hfd];refine run ?_;exact dR (cs:=#[.int .i64 0,.int .i64 0,.bool false,.bool false,.bool false,.bool false,.bool false,.int .i64 0,.int .i64 0]) rfl
 have hl3:lv=3:=by simp at hc;omega
 subst hl3;refine run ?_;refine ah _ rfl (fun hc2=>?_) (fun hc2=>?_)
 ·have hfd:kF pages 3 tb at_=dG:=by
   have:¬ tb*8+at_<pages.length:=by simp at hc2;omega
   unfold kF dm;rw[decide_eq_false this];rfl
  rw[hfd];refine run ?_;exact dR (cs:=#[.int .i64 0,.int .i64 0,.bool false,.bool false,.bool false,.bool false,.bool false,.int .i64 0,.int .i64 0]) rfl
 have hlt:tb*8+at_<pages.length:=by simp at hc2;omega
 obtain⟨b,o,rfl⟩:=hne bC';have hr:=h.row hlt;have hpp:=qH _ (getD_mem hlt)
 have hfd:kF pages 3 tb at_=kW (pages.getD (tb*8+at_) default).own (pages.getD (tb*8+at_) default).wit ((tb*8+at_:Nat):Int):=by
  unfold kF dm;rw[decide_eq_true hlt];rfl
 rw[hfd];generalize pages.getD (tb*8+at_) default=pg at hr hpp ⊢;rw[show (tb:Int)*8+(at_:Int)=((tb*8+at_:Nat):Int) by omega];refine run ?_;refine az (fun wc hG=>ay9 _ pg.own pg.wit hpp.1 bB3 wc) ?_;refine run ?_;generalize kW pg.own pg.wit ((tb*8+at_:Nat):Int)=d;exact dR (cs:=#[.int .i64 d.kind,.int .i64 d.frame,.bool d.r,.bool d.w,.bool d.x,.bool d.af,.bool d.ng,.int .i64 d.soft,.int .i64 d.note]) rfl
end
section
def EoC(P:Program)(n:Nat)(w0:World)(mu:List Nat)(all:Array Oper)(lf:Fm)(hp:Hp)(o:Oper)(R:RT):Prop:=
 (∀ a,Knows n lf a→Region.wanted o (yielded all a.tmps)=true)∧∀ a w,Knows n lf a→Good w0 mu hp w→∀ (K:Act→World→Prop) (Q:Exit→Act→World→Prop),(∀ v h' w',R v h'→Good w0 mu h' w'→K (a.put o.dst v) w')→o.wp P a w K Q
def GV(P:Program)(n:Nat)(w0:World)(mu:List Nat)(all:Array Oper)(ds:List (Nat×Nat))(l:Fm)(h0 hb:Hp)(t0:Nat)(X:Fm→Fm→Hp→Prop):List (Nat×Bool)→Fm→Fm→Hp→Prop
 | [],aX,bz,h=>X aX bz h
 | (i,false)::r,aX,bz,h=>∃ o,all[i]?=some o∧((o.dst.isSome=true∧∃ R:RT,BV P n w0 mu all (aT ds (bz++aX) o.after.toList++l) h o R∧∀ v hn,R v hn→GV P n w0 mu all ds l h0 hb t0 X r aX ((i,v)::bz) (hn++h)) ∨
   (o.dst=none∧∃ h',HyS P n w0 mu (aT ds (bz++aX) o.after.toList++l) h o h'∧aI h0 h'∧GV P n w0 mu all ds l h0 hb t0 X r aX bz h') ∨
   (o.dst.isSome=true∧∃ R:RT,EoC P n w0 mu all (aT ds (bz++aX) o.after.toList++l) h o R∧∀ v h',R v h'→aI h0 h'∧((i=t0∨Region.waitsFor .any all i t0=true)∨aI hb h')∧GV P n w0 mu all ds l h0 hb t0 X r aX ((i,v)::bz) h'))
 | (i,true)::r,aX,bz,h=>∃ o v,all[i]?=some o∧Fj P n w0 mu (aT ds (bz++aX) o.after.toList++l) [] o v∧GV P n w0 mu all ds l h0 hb t0 X r ((i,v)::aX) bz h
def XD(all:Array Oper):List Nat→List Nat→Bool
 | _,[]=>true
 | seen,x::r=>seen.any (fun y=>Region.waitsFor .any all x y)&&XD all (x::seen) r
def Ew(all:Array Oper):List (Nat×Bool)→Bool
 | []=>true
 | (c,d)::r=>(d||XD all [c] (r.map (·.1)))&&Ew all r
theorem TK:∀ {r seen:List Nat},XD all seen r=true→∀ x∈r,∃ y,(y∈seen∨y∈r)∧Region.waitsFor .any all x y=true:=by
 intro r
 induction r with
 | nil=>intro seen _ x hx;cases hx
 | cons z r ih=>
  intro seen h x hx;simp only[XD,bH6] at h;rcases bJ3.1 hx with rfl | hx
  ·obtain⟨y,hy,h2⟩:=bM8.1 h.1;exact⟨y,.inl hy,h2⟩
  ·obtain⟨y,hy,h2⟩:=ih h.2 x hx;rcases hy with hy | hy
   ·rcases bJ3.1 hy with rfl | hy
    ·exact⟨_,.inr (bI8 ..),h2⟩
    ·exact⟨y,.inl hy,h2⟩
   ·exact⟨y,.inr (bI5 _ hy),h2⟩
theorem XE{c:Nat}{r:List (Nat×Bool)}(h:XD all [c] (r.map (·.1))=true):∀ x∈r.map (·.1),∃ y,(y∈[c]∨y∈r.map (·.1))∧Region.waitsFor .any all x y=true:=TK h
theorem GX{listed:Array Bool}(h:leftOf k listed=0)(hi:i<k)(inv:HeadInv .any all k listed)(hk:k≤all.size):listed.getD i true=true:=by
 cases hc:listed.getD i true with
 | true=>rfl
 | false=>
  exfalso;have:i∈(List.range k).filter fun i=>!listed.getD i true:=bN'.2 ⟨bJ1.2 hi,by simp only[hc,bL1]⟩;have h2:=bQ6 this;unfold leftOf at h;omega
section
variable {P : Program} {n : Nat} {w0 : World} {mu : List Nat} {l : Fm} {h0 hp : Hp} {Q : Exit → Fm → Hp → Prop} {all : Array Oper} {k t0 : Nat} {ds : List (Nat × Nat)}
structure SOk(P:Program)(n:Nat)(w0:World)(mu:List Nat)(all:Array Oper)(ds:List (Nat×Nat))(l:Fm)(h0 hp:Hp)(t0 k:Nat)(aX bz:Fm):Prop where
 so:∀ i v,lk aX i=some v→i<k∧∃ o dw,all[i]?=some o∧(∀ j u,look dw j=some u→lk bz j=some u∨lk aX j=some u)∧∀ hx,wU P n w0 mu all (aT ds dw o.after.toList++l) (bif Region.waitsFor .any all t0 i then hx++hp else hx++h0) o v
 uq:Uq aX
theorem ao4{aX bz:Fm}(hne:∀ u,(i,u)∉bz)(h:SOk P n w0 mu all ds l h0 hp t0 k aX bz):SOk P n w0 mu all ds l h0 hp t0 k aX ((i,v)::bz):=⟨fun j u hu=>by
 obtain⟨h1,o,dw,h2,h3,h4⟩:=h.1 j u hu
 exact⟨h1,o,dw,h2,fun a b hab=>(h3 a b hab).imp (fun h=>by rw[bZ,if_neg (fun e=>by subst e;exact hne _ (jC h))];exact h) id,h4⟩,h.2⟩
theorem XF{aX bz:Fm}{o:Oper}(h:SOk P n w0 mu all ds l h0 hp t0 k aX bz)(hi:i<k)(hn:lk aX i=none)(ho:all[i]?=some o)(hy:Fj P n w0 mu (aT ds (bz++aX) o.after.toList++l) [] o v):SOk P n w0 mu all ds l h0 hp t0 k ((i,v)::aX) bz:=by
 have hmo:∀ j u,lk aX j=some u→lk ((i,v)::aX) j=some u:=fun j u hu=>by
  rw[bZ,if_neg (fun e=>by subst e;rw[hn] at hu;cases hu)];exact hu
 refine⟨fun j u hu=>?_,fun j u hu=>?_⟩
 ·rw[bZ] at hu;by_cases hij:i=j
  ·subst hij;rw[if_pos rfl] at hu;cases hu;refine⟨hi,o,bz++aX,ho,fun a b hab=>?_,fun hx=>WX hy⟩;rw[jD,Om] at hab
   cases hE:lk bz a with
   | some x=>rw[hE] at hab;cases hab;exact .inl rfl
   | none=>rw[hE] at hab;exact .inr (hmo _ _ hab)
  ·rw[if_neg hij] at hu;obtain⟨h1,o',dw,h2,h3,h4⟩:=h.1 j u hu;exact⟨h1,o',dw,h2,fun a b hab=>(h3 a b hab).imp id (hmo a b),h4⟩
 ·rcases bJ3.1 hu with hu | hu
  ·cases hu;rw[bZ,if_pos rfl]
  ·exact hmo _ _ (h.2 j u hu)
theorem TL{aX bz:Fm}{h:Hp}{listed:Array Bool}{a:Act}(hm:uP n w0 mu all l aX bz h listed a w)(hun:listed.getD i true=false)(hn:lk aX i=none):uP n w0 mu all l ((i,v)::aX) bz h listed a w:=
 ⟨hm.size,hm.defers,hm.has,hm.good,fun j u hj hl d hd=>by
  by_cases hij:i=j
  ·subst hij;rw[getD_both hun] at hl;cases hl
  ·rw[bZ,if_neg hij] at hj;exact hm.wY j u hj hl d hd,hm.qI⟩
def Jh(ops:Array Oper)(n k t0:Nat)(S:List Nat)(C:List (Nat×Bool)):Bool:=
 uN ops k n&&pM ops&&uO k S (C.map (·.1))&&Ew ops C&&ug ops k&&(List.range k).all fun i=>(bF ops i).isSome||Nat.beq i t0||Region.waitsFor .any ops i t0
theorem OY (hds : ∀ k d, lk ds k = some d → bF all k = some d) {g : Nat} {Q' : Exit → Act → World → Prop} {X : Fm → Fm → Hp → Prop} (hk : k ≤ all.size) (hd : uN all k n = true) (hf : bW l (dstsOf all k) = true) (hback : pM all = true) (hle0 : aI h0 hp)
    (Ac : ∀ i, i < k → bF all i = none → i = t0 ∨ Region.waitsFor .any all i t0 = true)
    (htail : ∀ aX bz h listed, HeadInv .any all k listed → (∀ i, i < k → listed.getD i true = true) → X aX bz h → ∀ a w, uP n w0 mu all l aX bz h listed a w → (∀ i v, (i, v) ∈ bz → i < k) → (∀ i v, lk aX i = some v → i < k) → Uq aX → wpAny P .any all Q' g listed a w)
    (oC : ∀ listed, HeadInv .any all k listed → ∀ i, i < k → listed.getD i true = false → ∀ t, k ≤ t → t ∉ Region.ready .any all listed) :
    ∀ f r aX bz h listed a w, leftOf k listed = f → HeadInv .any all k listed → uP n w0 mu all l aX bz h listed a w → SOk P n w0 mu all ds l h0 hp t0 k aX bz → (∀ i v, (i, v) ∈ bz → i < k) → (∀ i ∈ r.map (·.1), i < k ∧ listed.getD i true = false ∧ lk aX i = none) → (r.map (·.1)).Nodup → Ew all r = true → (∀ i, i < k → listed.getD i true = false → (∃ v, lk aX i = some v) ∨ i ∈ r.map (·.1)) →
      aI h0 h → (listed.getD t0 false = false → aI hp h) → GV P n w0 mu all ds l h0 hp t0 X r aX bz h → wpAny P .any all Q' (f + g) listed a w := by
  intro f
  induction f with
  | zero =>
    intro r
    induction r with
    | nil =>
      intro aX bz h listed a w hlf inv hm hS hEk hr hnd fD hcov hle wP hD;rw [bK2]
      exact htail aX bz h listed inv (fun i hi => GX hlf hi inv hk) hD a w hm hEk (fun i v hv => (hS.1 i v hv).1) hS.2
    | cons p r ihr =>
      intro aX bz h listed a w hlf inv hm hS hEk hr hnd fD hcov hle wP hD;have h1 := hr p.1 (bI8 ..);rw [GX hlf h1.1 inv hk] at h1
      exact absurd h1.2.1 bB4
  | succ f ih =>
    have STEP : ∀ r aX bz h listed a w, leftOf k listed = f + 1 → HeadInv .any all k listed → uP n w0 mu all l aX bz h listed a w → SOk P n w0 mu all ds l h0 hp t0 k aX bz → (∀ i v, (i, v) ∈ bz → i < k) → (∀ i ∈ r.map (·.1), i < k ∧ listed.getD i true = false ∧ lk aX i = none) → (r.map (·.1)).Nodup → Ew all r = true → (∀ i, i < k → listed.getD i true = false → (∃ v, lk aX i = some v) ∨ i ∈ r.map (·.1)) →
      aI h0 h → (listed.getD t0 false = false → aI hp h) → GV P n w0 mu all ds l h0 hp t0 X r aX bz h → (∀ p r', r = p :: r' → p.2 = false) → wpAny P .any all Q' (f + 1 + g) listed a w := by
     intro r aX bz h listed a w hlf inv hm hS hEk hr hnd fD hcov hle wP hD aW9;rw [show f + 1 + g = (f + g) + 1 by omega]
     have hex : ∃ i, i < k ∧ listed.getD i true = false := by
       have h2 : 0 < leftOf k listed := by omega
       obtain ⟨i, hi⟩ := bS5 h2;rw [bN'] at hi;exact ⟨i, bJ1.1 hi.1, by simpa using hi.2⟩
     obtain ⟨i0, su, hi0⟩ := hex;refine ⟨fun hnil => ?_, fun i hi => ?_⟩
     · exfalso
       obtain ⟨i, ⟨hik, hil⟩, hmin⟩ := exists_least (p := fun i => i < k ∧ listed.getD i true = false) ⟨i0, su, hi0⟩
       have hr : i ∈ Region.ready .any all listed := by
         rw [mem_ready];have hs : i < all.size := by omega
         refine ⟨hil, all[i], by simp [hs], fun e he hb => ?_⟩;have hb2 := bH'.1 hback i (bJ1.2 hs);simp only [bO3 hs] at hb2;have hb3 := (bN2.1 hb2) e he;simp only [hb, bK1, bL3, bX4] at hb3
         cases hc : listed.getD e.on false with
         | true => rfl
         | false =>
           have h5 := hmin e.on ⟨by omega, getD_in (by rw [inv.size]; omega) hc⟩;omega
       rw [hnil] at hr; cases hr
     · have hik : i < k := by
         rcases bQ3 i k with h | h
         · exact h
         · exact absurd hi (oC listed inv i0 su hi0 i h)
       obtain ⟨hun, o, ho, hall⟩ := mem_ready.1 hi;have hsz : i < listed.size := by rw [inv.size]; omega
       have uG : listed.getD i false = false := getD_both hun;have hleft : leftOf k (listed.setIfInBounds i true) = f := by have := pO hik (by rw [inv.size]; omega) hun; omega
       have hwl : ∀ t, Region.waitsFor .any all i t = true → listed.getD t false = true := fun t ht => by
         obtain ⟨oj, h6, e, he, hb, heq⟩ := Region.waitsFor_spec ht;rw [ho] at h6; cases h6;rw [← heq]; exact hall e he hb
       unfold wpOp;simp only [ho]
       cases CW : lk aX i with
       | some v =>
         obtain ⟨_, o', dw, ho', hmo, hy⟩ := hS.1 i v CW;rw [ho] at ho'; cases ho';have hkn := nI (o := o) hds hm (dw := dw) hmo hall;have hir : i ∉ r.map (·.1) := fun hm' => by rw [(hr i hm').2.2] at CW; cases CW
         have hnext : ∀ w', Good w0 mu h w' → wpAny P .any all Q' (f + g) (listed.setIfInBounds i true) (a.put o.dst v) w' := fun w' hG' => by
           refine ih r aX bz h _ _ _ hleft (inv.set hi hik) (qg hm ho hik hun hsz hd hf hG' (fun j u hu => (hS.1 j u hu).1) hEk (.inl ⟨CW, rfl⟩)) hS hEk (fun j hj => ?_) hnd fD (fun j hj hl => ?_) hle (fun ht => ?_) hD
           · have hji : i ≠ j := fun e => hir (e ▸ hj)
             exact ⟨(hr j hj).1, by rw [getD_set_ne true hji]; exact (hr j hj).2.1, (hr j hj).2.2⟩
           · refine hcov j hj ?_
             by_cases hji : i = j
             · subst hji; simp [hsz] at hl
             · rwa [getD_set_ne true hji] at hl
           · refine wP ?_
             by_cases hji : i = t0
             · subst hji; exact uG
             · rwa [getD_set_ne false hji] at ht
         obtain ⟨hx, h3, kK⟩ : ∃ hx, wU P n w0 mu all (aT ds dw o.after.toList ++ l) hx o v ∧ hx.Perm h := by
           cases hwt : Region.waitsFor .any all t0 i with
           | true =>
             have ht0 : listed.getD t0 false = false := by
               cases hc : listed.getD t0 false with
               | false => rfl
               | true =>
                 obtain ⟨oj, h6, e, he, hb, heq⟩ := Region.waitsFor_spec hwt;have := inv.closed t0 oj h6 hc e he hb;rw [heq, uG] at this; cases this
             obtain ⟨x, hxp⟩ := (wP ht0).perm;have h4 := hy x;rw [hwt] at h4
             exact ⟨x ++ hp, h4, bJ5.trans hxp⟩
           | false =>
             obtain ⟨x, hxp⟩ := hle.perm;have h4 := hy x;rw [hwt] at h4;exact ⟨x ++ h0, h4, bJ5.trans hxp⟩
         have hgd : Good w0 mu hx w := hm.good.perm kK;replace hnext : ∀ w', Good w0 mu hx w' → wpAny P .any all Q' (f + g) (listed.setIfInBounds i true) (a.put o.dst v) w' := fun w' hG' => hnext w' (hG'.perm kK.symm);unfold wU at h3
         cases hg : o.guard with
         | none =>
           rw [hg] at h3;rw [if_pos (by simp [Region.wanted, hg])]
           exact .inl (h3 a w hkn hgd _ _ hnext)
         | some jw =>
           obtain ⟨j, want⟩ := jw;rw [hg] at h3;obtain ⟨dj, c0, b, u, hj, hb, hdj, hy, hvv⟩ := h3;have hw := jL hkn hg hj hb hdj
           cases hc : (c0 && jd b want) with
           | true =>
             rw [hc] at hw hvv;rw [if_pos hw];rw [bH6] at hc;rw [show v = u from hvv] at hnext
             exact .inl (hy hc.1 hc.2 a w hkn hgd _ _ hnext)
           | false =>
             rw [hc] at hw hvv;rw [if_neg (by rw [hw]; decide)];rw [show v = undef from hvv] at hnext
             exact hnext w hgd
       | none =>
         have hir : i ∈ r.map (·.1) := by
           rcases hcov i hik hun with ⟨v, hv⟩ | h
           · rw [CW] at hv; cases hv
           · exact h
         cases r with
         | nil => cases hir
         | cons c r =>
           obtain ⟨c, cb⟩ := c;obtain rfl : cb = false := aW9 _ _ rfl;simp only [Ew, bL3, bH6] at fD
           have hic : i = c := by
             rcases bJ3.1 hir with h | h
             · exact h
             · exfalso
               obtain ⟨p, h1, h3⟩ := XE fD.1 i h
               have h1' : p ∈ (((c, false) :: r).map (·.1)) := by
                 rcases h1 with h1 | h1
                 · rw [bN3.1 h1]; exact bI8 ..
                 · exact bI5 _ h1
               have := (hr p h1').2.1; have h5 := hwl p h3;rw [getD_both this] at h5; cases h5
           subst hic;rw [bL9, bO4] at hnd;have Ad : Ew all r = true := fD.2
           have hr' : ∀ j ∈ r.map (·.1), j < k ∧ (listed.setIfInBounds i true).getD j true = false ∧ lk aX j = none := fun j hj => by
             have h1 := hr j (bI5 _ hj);have hji : i ≠ j := fun e => hnd.1 (e ▸ hj);exact ⟨h1.1, by rw [getD_set_ne true hji]; exact h1.2.1, h1.2.2⟩
           have wV : ∀ j, j < k → (listed.setIfInBounds i true).getD j true = false → (∃ v, lk aX j = some v) ∨ j ∈ r.map (·.1) := fun j hj hl => by
             by_cases hji : i = j
             · subst hji; simp [hsz] at hl
             · rw [getD_set_ne true hji] at hl
               rcases hcov j hj hl with h | h
               · exact .inl h
               · exact .inr ((bJ3.1 h).resolve_left (bP0 hji))
           have hkn := nI (o := o) hds hm (dw := bz ++ aX) (fun j u hu => by
             rw [jD, Om] at hu
             cases hE : lk bz j with
             | some v => rw [hE] at hu; exact .inl hu
             | none => rw [hE] at hu; exact .inr hu) hall
           unfold GV at hD;obtain ⟨o', ho', hD⟩ := hD;rw [ho] at ho'; cases ho';rcases hD with ⟨hds', R, ⟨hg, hE⟩, hD⟩ | ⟨hdn, h', ⟨hg, _, hSt⟩, hle', hD⟩ | ⟨hds', R, ⟨hg, hE⟩, hD⟩
           · rw [if_pos (hg _ hkn)]
             refine .inl (hE a w [] hkn (by simpa using hm.good) _ _ fun v hn w' hR hG' => ?_);rw [bI3] at hG';have hlen : ∀ x : Hp, aI x h → aI x (hn ++ h) := fun x hx => dh fun b => by have := hx.cnt b; rw [eH]; omega
             refine ih r aX ((i, v) :: bz) (hn ++ h) _ _ _ hleft (inv.set hi hik) (qg hm ho hik hun hsz hd hf hG' (fun j u hu => (hS.1 j u hu).1) hEk (.inr ⟨CW, rfl⟩)) (ao4 (fun u hu => by have := (hm.qI i u hu).1; rw [uG] at this; cases this) hS) (fun j u hu => ?_) hr' hnd.2 Ad wV (hlen _ hle) (fun ht => hlen _ (wP ?_)) (hD v hn hR)
             · rcases bJ3.1 hu with hu | hu
               · cases hu; exact hik
               · exact hEk j u hu
             · by_cases hji : i = t0
               · subst hji; exact uG
               · rwa [getD_set_ne false hji] at ht
           · rw [if_pos (by simp [Region.wanted, hg])]
             refine .inl (hSt a w hkn hm.good _ _ fun w' hG' => ?_)
             have hmc : uP n w0 mu all l aX bz h' (listed.setIfInBounds i true) a w' := by
               refine ⟨hm.size, hm.defers, hm.has, hG', fun j u hj hl d hdj => ?_, fun j u hj => ⟨getD_set_true (hm.qI j u hj).1, (hm.qI j u hj).2⟩⟩;have hji : i ≠ j := fun e => by subst e; rw [CW] at hj; cases hj
               exact hm.wY j u hj (by rwa [getD_set_ne false hji] at hl) d hdj
             refine ih r aX bz h' _ _ _ hleft (inv.set hi hik) hmc hS hEk hr' hnd.2 Ad wV hle' (fun ht => ?_) hD;exfalso;rcases Ac i hik (by simp [bF, ho, hdn]) with e | e
             · subst e
               rw [show (listed.setIfInBounds i true).getD i false = true by simp [hsz]] at ht; cases ht
             · have := getD_set_true (i := i) (hwl t0 e)
               rw [this] at ht; cases ht
           · rw [if_pos (hg _ hkn)]
             refine .inl (hE a w hkn hm.good _ _ fun v h' w' hR hG' => ?_);obtain ⟨hle', hit, hD'⟩ := hD v h' hR;refine ih r aX ((i, v) :: bz) h' _ _ _ hleft (inv.set hi hik) (qg hm ho hik hun hsz hd hf hG' (fun j u hu => (hS.1 j u hu).1) hEk (.inr ⟨CW, rfl⟩)) (ao4 (fun u hu => by have := (hm.qI i u hu).1; rw [uG] at this; cases this) hS) (fun j u hu => ?_) hr' hnd.2 Ad wV hle' (fun ht => ?_) hD'
             · rcases bJ3.1 hu with hu | hu
               · cases hu; exact hik
               · exact hEk j u hu
             · rcases hit with (e | e) | e
               · exfalso
                 subst e;rw [show (listed.setIfInBounds i true).getD i false = true by simp [hsz]] at ht; cases ht
               · exfalso
                 have := getD_set_true (i := i) (hwl t0 e);rw [this] at ht; cases ht
               · exact e
    intro r0
    induction r0 with
    | cons p r0 ihr =>
      obtain ⟨i, db⟩ := p
      cases db with
      | true =>
        intro aX bz h listed a w hlf inv hm hS hEk hr hnd fD hcov hle wP hD;obtain ⟨o, v, ho, hy, hD⟩ := hD;have hri := hr i (bI8 ..);have hnd' := bO4.1 hnd
        exact ihr ((i, v) :: aX) bz h listed a w hlf inv (TL hm hri.2.1 hri.2.2) (XF hS hri.1 hri.2.2 ho hy) hEk (fun j hj => by
          have h1 := hr j (bI5 _ hj);have hji : i ≠ j := fun e => hnd'.1 (e ▸ hj);exact ⟨h1.1, h1.2.1, by rw [bZ, if_neg hji]; exact h1.2.2⟩) hnd'.2 (by simpa [Ew] using fD) (fun j hj hl => by
          by_cases hji : i = j
          · subst hji; exact .inl ⟨v, by rw [bZ, if_pos rfl]⟩
          · rcases hcov j hj hl with ⟨u, hu⟩ | h
            · exact .inl ⟨u, by rw [bZ, if_neg hji]; exact hu⟩
            · exact .inr ((bJ3.1 h).resolve_left (bP0 hji))) hle wP hD
      | false =>
        intro aX bz h listed a w hlf inv hm hS hEk hr hnd fD hcov hle wP hD
        exact STEP ((i, false) :: r0) aX bz h listed a w hlf inv hm hS hEk hr hnd fD hcov hle wP hD (fun p r e => by cases e; rfl)
    | nil =>
      intro aX bz h listed a w hlf inv hm hS hEk hr hnd fD hcov hle wP hD;exact STEP [] aX bz h listed a w hlf inv hm hS hEk hr hnd fD hcov hle wP hD (fun p r e => by cases e)
theorem TM{ops:List Oper}(k t0:Nat)(S:List Nat)(C:List (Nat×Bool))(h0:Hp)(hB:Jh ops.toArray n k t0 S C=true)(hf:bW l (dstsOf ops.toArray k)=true)(hle0:aI h0 hp)(hds:dB ops 0=ds)
  (h:DS P n w0 mu ops.toArray ds l h0 hp t0 (fun ay'=>GV P n w0 mu ops.toArray ds l h0 hp t0 (fun aX bz hc=>Ops P n w0 mu ops.toArray (ops.drop k) (bV ds (bz++aX)++l) hc Q) C ay' [] hp) S []):lT P n w0 mu ops.toArray l hp Q:=by
 intro a w hk hG;simp only[Jh,bH6] at hB;obtain⟨⟨⟨⟨⟨hd,hback⟩,uQ⟩,fD⟩,jm⟩,Ac⟩:=hB;simp only[uO,bH6,decide_eq_true_eq] at uQ;obtain⟨⟨hnd,hlt⟩,hcov⟩:=uQ;have hlt':∀ i∈S++C.map (·.1),i<k:=fun i hi=>by have:=bH'.1 hlt i hi;simpa using this
 rw[bM3] at hnd;obtain⟨Iu,Oq,hSC⟩:=hnd;obtain⟨aX,hX,VY,yw,hsS⟩:=Oo S [] Iu (fun _ _=>rfl) (fun _ _ h=>by cases h) h (fun i v hv=>by cases hv);simp only[lk,reduceCtorEq,exists_false,or_false] at yw
 have hks:k≤ops.toArray.size:=by
  simp only[ug,bJ7,bH6,decide_eq_true_eq] at jm;rcases jm with h | h<;>omega
 have ru:∀ i d,lk ds i=some d→bF ops.toArray i=some d:=fun i d h=>by rw[←hds] at h;have:=(lN ops 0 i d h).2;simpa [bF] using this
 have inv0:HeadInv .any ops.toArray k (Array.replicate ops.toArray.size false):=
  ⟨by simp,fun j oj _ hl=>bC0,fun t _ ht=>getD_in bG3 (getD_replicate_false _ _)⟩
 have IU:∀ i,i<k→(Array.replicate ops.toArray.size false).getD i true=false:=fun i hi=>getD_in bH4 (getD_replicate_false _ _)
 have hleft:leftOf k (Array.replicate ops.toArray.size false)=k:=by
  unfold leftOf;rw[bP'.2]
  ·simp
  ·intro i hi;simp only[IU i bE6,bL1]
 have key:=OY ru (P:=P) (n:=n) (w0:=w0) (mu:=mu) (l:=l) (hp:=hp) (h0:=h0) (all:=ops.toArray) (k:=k) (t0:=t0) (g:=ops.toArray.size-k) (Q':=QQ n w0 mu Q) (X:=fun aX bz hc=>Ops P n w0 mu ops.toArray (ops.drop k) (bV ds (bz++aX)++l) hc Q) hks hd hf hback hle0
  (fun i hi hdn=>by
   have:=bH'.1 Ac i (bJ1.2 hi);rw[hdn] at this;simp only[bW7,bL3,bJ7] at this;rcases this with h | h
   ·exact .inl (bO8 h)
   ·exact .inr h)
  (fun aX bz h listed inv hall hX a w hmid hEk hSk VY=>by
   have xE:Knows n (bV ds (bz++aX)++l) a:=by
    refine⟨hmid.size,hmid.defers,fun t v ht=>?_⟩;rcases fV ht with ht | ⟨_,ht⟩
    ·obtain⟨j,h1,h2⟩:=jX (iY ht);rcases bK4.1 h1 with h1 | h1
     ·exact (hmid.qI j v h1).2 t (ru _ _ h2)
     ·have hj:=VY j v h1;have hjk:=hSk j v hj;refine hmid.wY j v hj ?_ t (ru _ _ h2);have h5:=hall j hjk
      cases hcc:listed.getD j false with
      | true=>rfl
      | false=>rw[getD_in bC4 hcc] at h5;cases h5
    ·exact hmid.has t v ht
   have hfin:=hX a w xE hmid.good;simp only[ug,bJ7,bH6,decide_eq_true_eq] at jm;rcases jm with KI | ⟨⟨⟨xy,hs⟩,hc⟩,hseq⟩
   ·have e0:ops.drop k=[]:=bM0 (by simp at KI;omega);rw[e0] at hfin;rw[show ops.toArray.size-k=0 by omega];refine⟨?_,hfin⟩;rw[bM9];intro i hi;obtain⟨hun,o,ho,_⟩:=mem_ready.1 hi;have hi':i<k:=by rw[KI];exact (bK5.1 ho).1
    rw[hall i hi'] at hun;cases hun
   ·have hl:listed=(Array.replicate k true)++(Array.replicate (ops.toArray.size-k) false):=by
     apply Array.ext
     ·simp[inv.size];simp at xy;omega
     ·intro i h1 h2;by_cases hi:i<k
      ·have:=hall i hi;simp[h1] at this;rw[bT8 bE6];simpa using this
      ·have h3:=inv.tail i bB3 bE2;simp[h1] at h3;rw[bT5 bB9];simpa using h3
    have hdl:(ops.drop k).length=ops.toArray.size-k:=by simp
    rw[←hdl]
    exact wpAny_of_seq (ops.drop k) k listed a w (fun j=>by simp) bF7 hfin)
  (fun listed inv i hi hun t ht=>by
   simp only[ug,bJ7,bH6,decide_eq_true_eq] at jm;rcases jm with h | ⟨⟨⟨xy,hs⟩,hc⟩,hseq⟩
   ·intro hr;obtain⟨_,o,ho,_⟩:=mem_ready.1 hr;have:=(bK5.1 ho).1;omega
   ·exact tail_waits hs hc xy inv _ i rfl hi hun t ht)
  k C aX [] hp _ a { w with drawn:=w.drawn+1 } hleft inv0 ⟨hk.size,hk.defers,hk.has,hG.drawn _,fun i v _ hl=>bC0,fun i v hv=>by cases hv⟩ ⟨fun i v hv=>⟨hlt' i (bJ2 _ ((yw i).1 ⟨v,hv⟩)),by
   obtain⟨o,dw,h1,h2,h3⟩:=hsS i v hv
   exact⟨o,dw,h1,fun j u hu=>.inr (h2 j u bD4),h3⟩⟩,VY⟩ (fun i v hv=>by cases hv)
  (fun i hi=>⟨hlt' i (bI4 _ hi),IU i (hlt' i (bI4 _ hi)),by
   cases hv:lk aX i with
   | none=>rfl
   | some v=>exact absurd rfl (hSC i ((yw i).1 ⟨v,hv⟩) i hi)⟩) Oq fD
  (fun i hi _=>by
   have:=gY (bH'.1 hcov i (bJ1.2 hi));rcases bK4.1 this with h | h
   ·exact .inl ((yw i).2 h)
   ·exact .inr h) hle0 (fun _=>aI.refl _) hX
 have e:k+(ops.toArray.size-k)=ops.toArray.size:=by omega
 rw[e] at key;exact key
end
section
variable {n : Nat} {w0 : World} {mu : List Nat} {l : Fm} {h0 hp hc : Hp} {Q : Exit → Fm → Hp → Prop} {all : Array Oper} {aX iv bz : Fm} {k t0 i d : Nat} {ds : List (Nat × Nat)} {r : List (Nat × Bool)} {Y : Fm → Fm → Hp → Prop} {op : Op} {ty : TypeId} {pos : String} {af : Array Edge} {v : Value}
theorem ve{id:Nat}{ops tl:List Oper}(k t0:Nat)(S:List Nat)(C:List (Nat×Bool))(h0:Hp)(h:DS Tryz.prog n w0 mu ops.toArray ds l h0 hp t0 (fun ay'=>GV Tryz.prog n w0 mu ops.toArray ds l h0 hp t0 (fun aX bz hc=>Ops Tryz.prog n w0 mu ops.toArray tl (bV ds (bz++aX)++l) hc Q) C ay' [] hp) S [])
  (hle0:aI h0 hp:=by (exact ak)) (hds:dB ops 0=ds:=by (simp only[dB,Nat.reduceAdd,bK2];rfl)) (htl:ops.drop k=tl:=by (simp only[bL2,bL',List.drop_nil];rfl)) (hm:Tryz.prog.follows .mixedOrders=true:=by kernel_rfl) (hB:Jh ops.toArray n k t0 S C=true:=by decide +kernel) (hf:bW l (dstsOf ops.toArray k)=true:=by rfl):St Tryz.prog n w0 mu (.region id ops.toArray true) l hp Q:=
 xx hm (TM k t0 S C h0 hB hf hle0 hds bH2)
theorem Ji(h:Y aX bz hc):GV Tryz.prog n w0 mu all ds l h0 hp t0 Y [] aX bz hc:=h
theorem xC(h:gX Tryz.prog n w0 mu all ds l h0 aX (fun SX hc'=>GV Tryz.prog n w0 mu all ds l h0 hp t0 Y r aX SX hc') [i] bz hc):GV Tryz.prog n w0 mu all ds l h0 hp t0 Y ((i,false)::r) aX bz hc:=by
 obtain⟨o,ho,h⟩:=h;refine⟨o,ho,?_⟩;rcases h with⟨h1,R,h2,h3⟩ | ⟨h1,h',h2,h3,h4⟩
 ·exact .inl ⟨h1,R,h2,h3⟩
 ·exact .inr (.inl ⟨h1,h',h2,h3,h4⟩)
theorem xD(h:gQ Tryz.prog n w0 mu all ds l [] (fun rq=>∃ v,rq=(i,v)::(bz++aX)∧GV Tryz.prog n w0 mu all ds l h0 hp t0 Y r ((i,v)::aX) bz hc) [i] (bz++aX)):GV Tryz.prog n w0 mu all ds l h0 hp t0 Y ((i,true)::r) aX bz hc:=by
 obtain⟨o,v,ho,hy,v',e,h⟩:=h;cases e;exact⟨o,v,ho,hy,h⟩
end
section
variable {P : Program} {T : Tab} {n : Nat} {w0 : World} {mu : List Nat} {l : Fm} {hp : Hp} {ty : TypeId} {pos : String} {af : Array Edge} {Q : Exit → Fm → Hp → Prop} {all : Array Oper} {rest : List Oper}
theorem OZ(ok:bC P T){d sz jr m c o:Nat}{y:Operand}{z:Value}{news:List Value}(hx:ev l x=some (.slice none 0 0))(hy:ev l y=some (.slice (some ⟨a,o,none⟩) m c))(ht:lk T.sl t=some (e,sz))
  (hz:lk T.zs e=some z) (hzs:z.cells.size=sz) (hb:lk T.eb e=some jr) (hm:0<m) (hl:news.length=m*sz) (hnews:lI w0 mu hp a o news) (h63:m≤1048576) (h48:m*jr≤281474976710656):EoC P n w0 mu all l hp ⟨some d,.call { callee:=.builtin .append,args:=#[x,y],argTypes:=#[t,t] },ty,pos,af,none⟩ (fun v h'=>∃ g cap cur,Row g cap cur sz m news∧v=.slice (some ⟨g,0,none⟩) m cap∧h'=⟨g,cur,e⟩::hp):=by
 refine⟨fun a _=>by simp[Region.wanted],fun ac w hk hG K Q' hK=>?_⟩;obtain⟨hu,hsz⟩:=ok.zJ ht;have hbb:=bH'.1 ok.eb _ (jC hb);simp only[beq_iff_eq] at hbb;obtain⟨i,hi,hiz,his,hib⟩:=sD hsz hbb (ok.NH hz);subst his hib;have hr:=run_append_nil (P:=P) w t ty e i z hu hi hiz ⟨a,o,none⟩ m c news hl (fun j u hj=>by rw[Addr.add_mid];exact hnews w hG j u hj) hm bB3 h48;unfold Oper.wp execOp;simp only[resolve,invoke,builtin,Sem.run_bind,Sem.run_pure,Result.andThen_ok,bP5,bL9,bO9,hk.ev hx,hk.ev hy,hr];have hrow:=CQ (w:=w) (z:=z) (sz:=i.size) (k:=0) (m:=m) (old:=0) (e:=e) (xs:=[]) (news:=news) hzs bB5 hl bE';simp only[bK2,bI3,Array.empty_append] at hrow;have hG':=(hG.drawn (w.drawn+1)).alloc (news.toArray++Builtin.zeroCells z.cells (grownCap w m 0 e-m)) e;exact hK _ _ _ ⟨_,_,_,hrow,rfl,rfl⟩ hG'
theorem O0(ok:bC P T){d sz jr m c o g cap:Nat}{cur:Array Value}{y:Operand}{z:Value}{xs news:List Value}{hp':Hp}(hx:ev l x=some (.slice (some ⟨g,0,none⟩) k cap))(hy:ev l y=some (.slice (some ⟨a,o,none⟩) m c))(ht:lk T.sl t=some (e,sz))
  (hz:lk T.zs e=some z) (hzs:z.cells.size=sz) (hb:lk T.eb e=some jr) (hperm:(⟨g,cur,e⟩::hp').Perm hp) (hown:Row g cap cur sz k xs) (hl:news.length=m*sz) (hnews:lI w0 mu hp a o news) (h1:news.all (·.oneCell')=true) (h63:k+m≤1048576) (h48:(k+m+(k+m)/4+192)*jr≤281474976710656):EoC P n w0 mu all l hp ⟨some d,.call { callee:=.builtin .append,args:=#[x,y],argTypes:=#[t,t] },ty,pos,af,none⟩ (fun v h'=>∃ g cap cur,Row g cap cur sz (k+m) (xs++news)∧v=.slice (some ⟨g,0,none⟩) (k+m) cap∧h'=⟨g,cur,e⟩::hp'):=by
 refine⟨fun a _=>by simp[Region.wanted],fun ac w hk hG K Q' hK=>?_⟩;obtain⟨hu,hsz⟩:=ok.zJ ht;have hbb:=bH'.1 ok.eb _ (jC hb);simp only[beq_iff_eq] at hbb;obtain⟨i,hi,hiz,his,hib⟩:=sD hsz hbb (ok.NH hz);subst his hib;have hG':=hG.perm hperm;have hg:=hG'.here _ (bI8 ..);have hn:∀ j u,news[j]?=some u→w.cell? ((⟨a,o,none⟩:Addr).add j)=some u:=fun j u hj=>by rw[Addr.add_mid];exact hnews w hG j u hj
 by_cases hroom:k+m≤cap
 ·have hfit:k*i.size+news.length≤cur.size:=by rw[hl,hown.size,←bR0];exact bK8 _ hroom
  have hr:=run_append_room (P:=P) w t ty e i hu hi g k cap cur hg ⟨a,o,none⟩ m c news hl hn (fun u hu=>bH'.1 h1 u hu) hroom hfit;unfold Oper.wp execOp;simp only[resolve,invoke,builtin,Sem.run_bind,Sem.run_pure,Result.andThen_ok,bP5,bL9,bO9,hk.ev hx,hk.ev hy,hr];refine hK _ _ _ ⟨_,_,_,⟨?_,hroom,hown.max,?_,?_⟩,rfl,rfl⟩ (hG'.row _)
  ·rw[bJ9,hown.len,hl,bR0]
  ·have:=hown.size;simp only[bV3,bJ9,bK',bN9,bU6];omega
  ·rw[hown.take,show (k+m)*i.size=(xs++news).length by rw[bJ9,hown.len,hl,bR0]];exact bY2
 ·have holds:∀ j u,xs[j]?=some u→w.cell? ((⟨g,0,none⟩:Addr).add j)=some u:=by
   intro j u hj;rw[Addr.add_mid,cell_of_block hg];rw[←hown.take,bM7] at hj;split at hj
   ·simpa using hj
   ·cases hj
  have hr:=run_append_grow (P:=P) w t ty e i z hu hi hiz ⟨g,0,none⟩ k cap xs hown.len holds ⟨a,o,none⟩ m c news hl hn bB3 bB3 (growslice_fits_wide bB3 h48);unfold Oper.wp execOp;simp only[resolve,invoke,builtin,Sem.run_bind,Sem.run_pure,Result.andThen_ok,bP5,bL9,bO9,hk.ev hx,hk.ev hy,hr];have hG2:=((hG'.sub (hp':=hp') (List.sublist_cons_self _ _)).drawn (w.drawn+1)).alloc (xs.toArray++news.toArray++Builtin.zeroCells z.cells (grownCap w (k+m) cap e-(k+m))) e;have hrow:=CQ (w:=w) (k:=k) (m:=m) (old:=cap) (e:=e) hzs hown.len hl bE';exact hK _ _ _ ⟨_,_,_,hrow,rfl,rfl⟩ hG2
end
theorem ae0{P:Program}{w0:World}{mu:List Nat}{hp:Hp}{o:Oper}{R R':RT}(h:EoC P n w0 mu all l hp o R)(hr:∀ v h',R v h'→∃ h2,R' v h2∧h2.Perm h'):EoC P n w0 mu all l hp o R':=
 ⟨h.1,fun a w hk hG K Q hK=>h.2 a w hk hG K Q fun v h' w' hR hG'=>by
  obtain⟨h2,h3,h4⟩:=hr v h' hR
  exact hK v h2 w' h3 (hG'.perm h4)⟩
section
variable {n : Nat} {w0 : World} {mu : List Nat} {l : Fm} {h0 hp hc : Hp} {all : Array Oper} {ds : List (Nat × Nat)} {t0 : Nat} {aX bz : Fm} {Y : Fm → Fm → Hp → Prop} {i d : Nat} {r : List (Nat × Bool)} {ty : TypeId} {pos : String} {af : Array Edge}
theorem XG{sz jr cc:Nat}{y:Operand}{z:Value}{c:List Value}{ha hp':Hp}{xs:List (List Value)}(hA:Acc e sz v ha xs)(hnews:lI w0 mu hc a 0 c)(h63:xs.length<1000000)(hperm:(ha++hp').Perm hc)(hle:aI h0 hp')
  (h:∀ v' ha',Acc e sz v' ha' (xs++[c])→GV Tryz.prog n w0 mu all ds l h0 hp t0 Y r aX ((i,v')::bz) (ha'++hp')) (ho:all[i]?=some ⟨some d,.call { callee:=.builtin .append,args:=#[x,y],argTypes:=#[t,t] },ty,pos,af,none⟩:=by rfl) (hit:(i=t0∨Region.waitsFor .any all i t0=true)∨aI hp hp':=by exact .inl (.inl rfl))
  (hx:ev (aT ds (bz++aX) af.toList++l) x=some v:=by rfl) (hy:ev (aT ds (bz++aX) af.toList++l) y=some (.slice (some ⟨a,0,none⟩) 1 cc):=by rfl) (ht:lk Tb.sl t=some (e,sz):=by rfl)
  (hz:lk Tb.zs e=some z:=by rfl) (hzs:z.cells.size=sz:=by rfl) (hb:lk Tb.eb e=some jr:=by rfl) (hby:Nat.ble jr 4096=true:=by rfl) (hl:c.length=sz:=by rfl) (h1:c.all (·.oneCell')=true:=by rfl):GV Tryz.prog n w0 mu all ds l h0 hp t0 Y ((i,false)::r) aX bz hc:=by
 have wO:jr≤4096:=bM2 hby
 have hall:∀ c'∈xs++[c],c'.length=sz∧c'.all (·.oneCell')=true:=by
  intro c' hc';rcases bK4.1 hc' with hc' | hc'
  ·exact hA.1 c' hc'
  ·obtain rfl:=bN3.1 hc';exact⟨hl,h1⟩
 rcases hA.2 with⟨rfl,rfl,rfl⟩ | ⟨hne,g,cap,cur,rfl,rfl,hrow⟩
 ·refine⟨_,ho,.inr (.inr ⟨rfl,fun v h'=>∃ g cap cur,Row g cap cur sz 1 c∧v=.slice (some ⟨g,0,none⟩) 1 cap∧h'=⟨g,cur,e⟩::hp',ae0 (OZ aB hx hy ht hz hzs hb bB3 bF1 hnews bB3 bB3) ?_,?_⟩)⟩
  ·rintro _ _ ⟨g,cap,cur,hr,rfl,rfl⟩;exact⟨_,⟨g,cap,cur,hr,rfl,rfl⟩,(hperm.cons _:(⟨g,cur,e⟩::([]++hp')).Perm (⟨g,cur,e⟩::hc))⟩
  rintro _ _ ⟨g,cap,cur,hr,rfl,rfl⟩;refine⟨?_,hit.imp id fun h2=>dh fun b=>?_,?_⟩
  ·refine dh fun b=>?_;have:=hle.cnt b;rw[bJ];omega
  ·have:=h2.cnt b;show _≤pW b (⟨g,cur,e⟩::hp');rw[bJ];omega
  ·exact h (.slice (some ⟨g,0,none⟩) 1 cap) [⟨g,cur,e⟩] ⟨hall,.inr ⟨by simp,g,cap,cur,rfl,rfl,by simpa using hr⟩⟩
 ·refine⟨_,ho,.inr (.inr ⟨rfl,_,O0 aB hx hy ht hz hzs hb hperm hrow bF1 hnews h1 bB3 ?_,?_⟩)⟩
  ·have h2:(xs.length+1+(xs.length+1)/4+192)≤2000000:=by omega
   calc _≤2000000*jr:=bK8 _ h2
    _≤2000000*4096:=bS' _ wO
    _≤_:=by decide
  rintro _ _ ⟨g,cap,cur,hr,rfl,rfl⟩;refine⟨?_,hit.imp id fun h2=>dh fun b=>?_,?_⟩
  ·refine dh fun b=>?_;have:=hle.cnt b;show _≤pW b (⟨g,cur,e⟩::hp');rw[bJ];omega
  ·have:=h2.cnt b;show _≤pW b (⟨g,cur,e⟩::hp');rw[bJ];omega
  ·exact h (.slice (some ⟨g,0,none⟩) (xs.length+1) cap) [⟨g,cur,e⟩] ⟨hall,.inr ⟨by simp,g,cap,cur,by simp,rfl,by simpa using hr⟩⟩
end
end
section
attribute [local irreducible] Hy St Ops DH dH jg iP gQ DS gX lJ
def rH(ws:List Nat)(pages:List o8)(lv tb at_:Nat):Bool:=decide (ws.getD ((lv+tb)*8+at_) 0=(kF pages lv tb at_).word 2 lv)
def kR(lv:Nat):Nat:=if lv=3 then 8 else 1
def Ey(ws:List Nat)(pages:List o8):Bool:=(List.range 4).all fun lv=>(List.range (kR lv)).all fun tb=>(List.range 8).all fun at_=>rH ws pages lv tb at_
theorem Ez{ws:List Nat}{pages:List o8}(h:∀ lv,lv<4→∀ tb,tb<kR lv→∀ a,a<8→rH ws pages lv tb a=true):Ey ws pages=true:=
 bH'.2 fun lv hl=>bH'.2 fun tb ht=>bH'.2 fun a ha=>h lv (bJ1.1 hl) tb (bJ1.1 ht) a (bJ1.1 ha)
theorem LG{ws:List Nat}{pages:List o8}(h:Ey ws pages=true){lv tb:Nat}(hl:lv<4)(ht:tb<kR lv)(ha:a<8):rH ws pages lv tb a=true:=
 bH'.1 (bH'.1 (bH'.1 h lv (bJ1.2 hl)) tb (bJ1.2 ht)) a (bJ1.2 ha)
theorem LH{ws:List Nat}{pages:List o8}{lv tb:Nat}(hl:lv<4)(ht:tb<kR lv)(ha:a<8)(h:rH ws pages lv tb a=false):Ey ws pages=false:=by
 cases hh:Ey ws pages with
 | false=>rfl
 | true=>have:=LG hh hl ht ha;rw[h] at this;cases this
theorem O1{pages:List o8}(qH:∀ a∈pages,-1≤a.own∧a.own≤14){lv tb at_:Nat}(hl:lv<4)(ht:tb<8)(ha:at_<8):(kF pages lv tb at_).may 2 lv=true:=by
 unfold kF;by_cases e3:lv=3
 ·subst e3;simp only[decide_true,cond_true];unfold dm
  cases hd:decide (tb*8+at_<pages.length) with
  | false=>exact uX _ _
  | true=>
   have:=qH _ (getD_mem (of_decide_eq_true hd));exact Lu bB3 this.1 this.2
 ·rw[decide_eq_false e3,cond_false];by_cases e2:lv=2
  ·rw[decide_eq_true e2,cond_true];exact yL bB3 bB3 bB3
  ·rw[decide_eq_false e2,cond_false]
   cases decide (at_=0) with
   | true=>exact yL bB3 bB3 bB3
   | false=>exact uX _ _
theorem XH{X:Nat}{wv:Value}{ws:List Nat}(h0:w.rangeAt X 0 [wv])(hs:aA w wv 1 (ws.map uV))(hF:16≤ws.length/8){pv gv ov:Value}(pages:List o8)(hp:aA w pv 2 (pages.map sS))(qH:∀ a∈pages,-1≤a.own∧a.own≤14):Fn Tryz.prog 61 [.pointer (some ⟨X,0,none⟩),.agg #[pv,gv,ov]].toArray w [] (fun u _=>u=.bool (Ey ws pages)):=by
 have h0':=aj h0;obtain⟨q,cap,rfl,hne,_⟩:=hs.opened;obtain⟨b,o,rfl⟩:=hne (by intro e;rw[e] at hF;simp at hF);refine enter Tryz.func61 ?_;refine run ?_;intro Q;refine az (fun wc hG=>LD wc) ?_;refine run ?_;refine aK (σ:=Nat) (fun k=>[(13,.int .i64 (k:Int)),(5,.int .i64 ((if k=4 then 11 else k:Nat):Int))]) (fun _=>[⟨Q,#[pv,gv,ov],48⟩]) (fun k=>k≤4∧∀ lv,lv<k→∀ tb,tb<kR lv→∀ a,a<8→rH ws pages lv tb a=true) (fun k=>4-k) 0 ⟨bI1 _,fun lv hl=>absurd hl (bL0 _)⟩ ?_;rintro k m hm ⟨hk,hK⟩;refine run ?_;refine ah _ rfl (fun hc=>?_) (fun hc=>?_)
 rotate_left
 ·have hk4:k=4:=by simp at hc;omega
  subst hk4;refine run ?_;refine fin1 ?_;rw[Ez hK]
 have hk3:k<4:=by simp at hc;omega
 rw[if_neg (by omega:¬ k=4)];refine run ?_;refine jI bB8 (Eu rfl rfl rfl rfl bB3 bB3 (XC k hk3)) ?_;rw[show (if k=3 then (8:Int) else 1)=((kR k:Nat):Int) by unfold kR;split<;>rfl];have hN8:kR k≤8:=by unfold kR;split<;>decide
 refine run ?_;refine aK (σ:=Nat) (fun t=>[(18,.int .i64 (t:Int)),(5,.int .i64 ((k+t:Nat):Int))]) (fun _=>[⟨Q,#[pv,gv,ov],48⟩]) (fun t=>t≤kR k∧∀ tb,tb<t→∀ a,a<8→rH ws pages k tb a=true) (fun t=>kR k-t) 0 ⟨bI1 _,fun tb ht=>absurd ht (bL0 _)⟩ ?_;rintro t m2 hm2 ⟨ht,hT⟩;refine run ?_;refine ah _ rfl (fun hc2=>?_) (fun hc2=>?_)
 rotate_left
 ·have hte:t=kR k:=by simp at hc2;omega
  subst hte;refine run ?_;refine aF (k+1) ⟨hk3,fun lv hl=>?_⟩ (h1:=?_)
  ·by_cases e:lv=k
   ·subst e;exact hT
   ·exact hK lv bB3
  ·rw[show (if k+1=4 then 11 else k+1)=k+kR k by unfold kR;split<;>split<;>omega]
   (repeat (first | exact True.intro | (refine And.intro bC1 ?_)))
 have ht8:t<kR k:=by simp at hc2;omega
 refine run ?_;refine aK (σ:=Nat) (fun a=>[(21,.int .i64 (a:Int))]) (fun _=>[⟨Q,#[pv,gv,ov],48⟩]) (fun a=>a≤8∧∀ a',a'<a→rH ws pages k t a'=true) (fun a=>8-a) 0 ⟨bI1 _,fun a ha=>absurd ha (bL0 _)⟩ ?_;rintro a m3 Q3 ⟨ha,hA⟩;refine run ?_;refine ah _ rfl (fun hc3=>?_) (fun hc3=>?_)
 rotate_left
 ·have hae:a=8:=by simp at hc3;omega
  subst hae;refine run ?_;refine aF (t+1) ⟨ht8,fun tb hl=>?_⟩;by_cases e:tb=t
  ·subst e;exact hA
  ·exact hT tb bB3
 have ha8:a<8:=by simp at hc3;omega
 have hkt:k+t≤10:=by unfold kR at ht8;split at ht8<;>omega
 have hlt:(k+t)*8+a<ws.length:=by omega
 have hr:=aj (hs.row hlt);simp only[bK3] at hr;have hmay:=O1 (lv:=k) (tb:=t) (at_:=a) qH hk3 bB3 ha8;refine run ?_;refine az (fun wc hG=>TJ X pages (hp.good hG) qH k t a hk3 bB3 ha8) ?_;refine run ?_;refine az (fun wc hG=>I8 2 (.inr rfl) k hk3 (kF pages k t a) wc) ?_;rw[hmay,cond_true,cond_true];refine run ?_
 have hWe:rH ws pages k t a=decide (((ws.getD ((k+t)*8+a) default:Nat):Int)=(((kF pages k t a).word 2 k:Nat):Int)):=by
  unfold rH;rw[bI2];simp only[decide_eq_true_eq];exact bY6.symm
 refine ah _ rfl (fun hc4=>?_) (fun hc4=>?_)
 ·rw[←hWe] at hc4;have hf:rH ws pages k t a=false:=by simpa using hc4
  rw[LH hk3 ht8 ha8 hf];refine run ?_;exact fin1 rfl
 ·rw[←hWe] at hc4;have hf:rH ws pages k t a=true:=by simpa using hc4
  refine run ?_;refine aF (a+1) ⟨ha8,fun a' hl=>?_⟩;by_cases e:a'=a
  ·subst e;exact hf
  ·exact hA a' bB3
end
section
open Go.ChangeShapes Go.WideShapes Go.ChangeAt Go.RowKit
theorem iM(h:okW (.i .u64) v=true):∃ a:Nat,v=.int .u64 (a:Int)∧a<18446744073709551616:=by
 cases v<;>simp only[okW,bH6,decide_eq_true_eq,bO6] at h;obtain⟨rfl,h⟩:=h;rename_i n;simp only[Lit.wf,bH6,decide_eq_true_eq] at h;have h0:0≤n:=Int.le_trans bB4 h.1;have h1:n≤18446744073709551615:=Int.le_trans h.2 bB4;exact⟨n.toNat,by rw[Int.toNat_of_nonneg h0],by omega⟩
theorem XI{cs:List Value}(h:jB [.i .i64,.i .i64,.i .i64,.b,.i .i64,.i .i64,.i .i64,.i .i64,.b,.b,.b,.b,.b,.i .i64] cs=true):∃ e:fF,cs=iy e∧True:=by
 obtain⟨_,_,rfl,h0,r0⟩:=aH h;obtain⟨_,_,rfl,h1,r1⟩:=aH r0;obtain⟨_,_,rfl,h2,r2⟩:=aH r1;obtain⟨_,_,rfl,h3,r3⟩:=aH r2;obtain⟨_,_,rfl,h4,r4⟩:=aH r3;obtain⟨_,_,rfl,h5,r5⟩:=aH r4;obtain⟨_,_,rfl,h6,r6⟩:=aH r5;obtain⟨_,_,rfl,h7,r7⟩:=aH r6;obtain⟨_,_,rfl,h8,r8⟩:=aH r7;obtain⟨_,_,rfl,h9,r9⟩:=aH r8;obtain⟨_,_,rfl,h10,r10⟩:=aH r9;obtain⟨_,_,rfl,h11,r11⟩:=aH r10;obtain⟨_,_,rfl,h12,r12⟩:=aH r11;obtain⟨_,_,rfl,h13,r13⟩:=aH r12;obtain⟨a0,rfl,_⟩:=kP h0;obtain⟨a1,rfl,_⟩:=kP h1;obtain⟨a2,rfl,_⟩:=kP h2;obtain⟨a3,rfl⟩:=BA h3;obtain⟨a4,rfl,_⟩:=kP h4;obtain⟨a5,rfl,_⟩:=kP h5;obtain⟨a6,rfl,_⟩:=kP h6;obtain⟨a7,rfl,_⟩:=kP h7;obtain⟨a8,rfl⟩:=BA h8;obtain⟨a9,rfl⟩:=BA h9;obtain⟨a10,rfl⟩:=BA h10;obtain⟨a11,rfl⟩:=BA h11;obtain⟨a12,rfl⟩:=BA h12;obtain⟨a13,rfl,_⟩:=kP h13;obtain rfl:=kM r13;exact⟨⟨a0,a1,a2,a3,a4,a5,a6,a7,a8,a9,a10,a11,a12,a13⟩,rfl,trivial⟩
theorem XJ{cs:List Value}(h:jB [.i .i64,.i .i64,.i .i64,.i .i64] cs=true):∃ e:jy,cs=lg e∧True:=by
 obtain⟨_,_,rfl,h0,r0⟩:=aH h;obtain⟨_,_,rfl,h1,r1⟩:=aH r0;obtain⟨_,_,rfl,h2,r2⟩:=aH r1;obtain⟨_,_,rfl,h3,r3⟩:=aH r2;obtain⟨a0,rfl,_⟩:=kP h0;obtain⟨a1,rfl,_⟩:=kP h1;obtain⟨a2,rfl,_⟩:=kP h2;obtain⟨a3,rfl,_⟩:=kP h3;obtain rfl:=kM r3;exact⟨⟨a0,a1,a2,a3⟩,rfl,trivial⟩
def zL.Fits(r:zL):Prop:=r.x0<18446744073709551616∧r.x1<18446744073709551616∧r.x2<18446744073709551616∧r.x3<18446744073709551616∧r.x4<18446744073709551616∧r.x5<18446744073709551616∧r.x6<18446744073709551616∧r.x7<18446744073709551616∧r.pc<18446744073709551616∧r.Lp<18446744073709551616∧r.BD<18446744073709551616∧r.Lr<18446744073709551616∧r.elr<18446744073709551616∧r.esr<18446744073709551616∧r.far<18446744073709551616
theorem Q4{cs:List Value}(h:jB [.i .u64,.i .u64,.i .u64,.i .u64,.i .u64,.i .u64,.i .u64,.i .u64,.i .u64,.i .u64,.i .u64,.i .u64,.i .u64,.i .u64,.i .u64] cs=true):∃ r:zL,cs=kN r∧r.Fits:=by
 obtain⟨_,_,rfl,h0,r0⟩:=aH h;obtain⟨_,_,rfl,h1,r1⟩:=aH r0;obtain⟨_,_,rfl,h2,r2⟩:=aH r1;obtain⟨_,_,rfl,h3,r3⟩:=aH r2;obtain⟨_,_,rfl,h4,r4⟩:=aH r3;obtain⟨_,_,rfl,h5,r5⟩:=aH r4;obtain⟨_,_,rfl,h6,r6⟩:=aH r5;obtain⟨_,_,rfl,h7,r7⟩:=aH r6;obtain⟨_,_,rfl,h8,r8⟩:=aH r7;obtain⟨_,_,rfl,h9,r9⟩:=aH r8;obtain⟨_,_,rfl,h10,r10⟩:=aH r9;obtain⟨_,_,rfl,h11,r11⟩:=aH r10;obtain⟨_,_,rfl,h12,r12⟩:=aH r11;obtain⟨_,_,rfl,h13,r13⟩:=aH r12;obtain⟨_,_,rfl,h14,r14⟩:=aH r13;obtain⟨a0,rfl,b0⟩:=iM h0;obtain⟨a1,rfl,b1⟩:=iM h1;obtain⟨a2,rfl,b2⟩:=iM h2;obtain⟨a3,rfl,b3⟩:=iM h3;obtain⟨a4,rfl,b4⟩:=iM h4;obtain⟨a5,rfl,b5⟩:=iM h5;obtain⟨a6,rfl,b6⟩:=iM h6;obtain⟨a7,rfl,b7⟩:=iM h7;obtain⟨a8,rfl,b8⟩:=iM h8;obtain⟨a9,rfl,b9⟩:=iM h9;obtain⟨a10,rfl,b10⟩:=iM h10;obtain⟨a11,rfl,b11⟩:=iM h11;obtain⟨a12,rfl,b12⟩:=iM h12;obtain⟨a13,rfl,b13⟩:=iM h13;obtain⟨a14,rfl,b14⟩:=iM h14;obtain rfl:=kM r14;exact⟨⟨a0,a1,a2,a3,a4,a5,a6,a7,a8,a9,a10,a11,a12,a13,a14⟩,rfl,b0,b1,b2,b3,b4,b5,b6,b7,b8,b9,b10,b11,b12,b13,b14⟩
theorem Q5{cs:List Value}(h:jB [.b] cs=true):∃ b,cs=[.bool b]:=by
 obtain⟨_,_,rfl,h1,r⟩:=aH h;obtain⟨a,rfl⟩:=BA h1;obtain rfl:=kM r;exact⟨a,rfl⟩
section
variable {H : Type} {enc : TypeId × Value → H} {w : World} {base : Nat} {spare : Nat → Bool} {held : Bool}
theorem O3{cs:List Value}{x:DataW H×List MemPlace}(h:DataW.trod enc Tryz.prog w base spare held fuel 22 cs=some x)(hz:FI Tryz.prog 22 x.1):∃ v,∃ xs:List Nat,cs=[v]∧aA w v 1 (xs.map uV)∧(∀ a∈xs,a<18446744073709551616)∧xs.length≤reachBytes:=
 nD (ks:=[.i .u64]) Tryz.underlying22 bC3 bC3 bB4 bC3 (fun cs h=>by
  obtain⟨_,_,rfl,h1,h⟩:=aH h;obtain rfl:=kM h;obtain⟨a,rfl,ha⟩:=iM h1
  exact⟨a,rfl,ha⟩) h hz
theorem EC{cs:List Value}{x:DataW H×List MemPlace}(h:DataW.trod enc Tryz.prog w base spare held fuel 59 cs=some x)(hz:FI Tryz.prog 59 x.1):∃ v,∃ xs:List Int,cs=[v]∧aA w v 1 (xs.map bY)∧(∀ a∈xs,I64 a)∧xs.length≤reachBytes:=
 nD (ks:=[.i .i64]) Tryz.underlying59 bC3 bC3 bB4 bC3 (fun cs h=>by
  obtain⟨_,_,rfl,h1,h⟩:=aH h;obtain rfl:=kM h;obtain⟨a,rfl,ha⟩:=kP h1
  exact⟨a,rfl,ha⟩) h hz
theorem ED{t e:TypeId}{p:Option Addr}{c:Nat}{x:DataW H×List MemPlace}(ht:Tryz.prog.underlying t=some (.slice e))(h:DataW.trod enc Tryz.prog w base spare held fuel t [.slice p n c]=some x):n≤c:=by
 rcases Go.Deep.open_slice ht h with⟨hc,_⟩ | ⟨a,len,cap,m,k,D,Pl,hc,hb,hl,hm,hmm,hxx,hx⟩
 ·injection hc with hc
  injection hc with _ h1 h2
  omega
 ·injection hc with hc
  injection hc with _ h1 h2
  omega
theorem open_entries{cs:List Value}{x:DataW H×List MemPlace}(h:DataW.trod enc Tryz.prog w base spare held fuel 69 cs=some x)(hz:FI Tryz.prog 69 x.1):∃ v,∃ xs:List fF,cs=[v]∧aA w v 14 (xs.map iy)∧(∀ a∈xs,True)∧xs.length≤reachBytes:=
 nD (f:=iy) (q:=fun _=>True) (ks:=[.i .i64,.i .i64,.i .i64,.b,.i .i64,.i .i64,.i .i64,.i .i64,.b,.b,.b,.b,.b,.i .i64]) Tryz.underlying69 bC3 (aB.zO (t:=80) (s:=14) rfl) bB4 bC3 (fun cs hc=>XI hc) h hz
theorem LJ{cs:List Value}{x:DataW H×List MemPlace}(h:DataW.trod enc Tryz.prog w base spare held fuel 70 cs=some x)(hz:FI Tryz.prog 70 x.1):∃ v,∃ xs:List jy,cs=[v]∧aA w v 4 (xs.map lg)∧(∀ a∈xs,True)∧xs.length≤reachBytes:=
 nD (f:=lg) (q:=fun _=>True) (ks:=[.i .i64,.i .i64,.i .i64,.i .i64]) Tryz.underlying70 bC3 (aB.zO (t:=127) (s:=4) rfl) bB4 bC3 (fun cs hc=>XJ hc) h hz
theorem XK{cs:List Value}{x:DataW H×List MemPlace}(h:DataW.trod enc Tryz.prog w base spare held fuel 72 cs=some x)(hz:FI Tryz.prog 72 x.1):∃ t:uo,cs=TF t∧(aA w t.ev 14 (t.es.map iy)∧aA w t.dv 4 (t.ds.map lg)∧t.es.length≤t.ec∧t.es.length≤reachBytes∧t.ds.length≤reachBytes):=by
 obtain⟨hl,n,hf⟩:=lU Tryz.underlying72 h hz;rw[jE (show fK Tryz.prog 72=some 2 from aB.zO rfl)] at hl
 match cs,hl with
 | [c0,c1],_=>
  have c1s:Tryz.prog.cellsOf 69=1:=by kernel_rfl
  have c2s:Tryz.prog.cellsOf 70=1:=by kernel_rfl
  obtain⟨_,h0,z0⟩:=hf 0 _ rfl;obtain⟨_,h1,z1⟩:=hf 1 _ rfl;simp only[bU0,bT2,bT3,c1s,c2s,bL',bL2,bL7,bN0] at h0 h1 z0 z1;obtain⟨v0,es,e0,s0,_,l0⟩:=open_entries h0 z0;obtain⟨v1,ds,e1,s1,_,l1⟩:=LJ h1 z1;cases e0;cases e1;obtain⟨p0,k0,rfl,_,_⟩:=s0.opened;obtain⟨p1,k1,rfl,_,_⟩:=s1.opened;exact⟨⟨es,ds,p0,k0,p1,k1⟩,rfl,s0,s1,ED Tryz.underlying69 h0,l0,l1⟩
theorem O4{cs:List Value}{x:DataW H×List MemPlace}(h:DataW.trod enc Tryz.prog w base spare held fuel 27 cs=some x)(hz:FI Tryz.prog 27 x.1):∃ v,∃ xs:List zL,cs=[v]∧aA w v 15 (xs.map kN)∧(∀ a∈xs,a.Fits)∧xs.length≤reachBytes:=
 nD (f:=kN) (q:=zL.Fits) (ks:=[.i .u64,.i .u64,.i .u64,.i .u64,.i .u64,.i .u64,.i .u64,.i .u64,.i .u64,.i .u64,.i .u64,.i .u64,.i .u64,.i .u64,.i .u64]) Tryz.underlying27 bC3 (aB.zO (t:=68) (s:=15) rfl) bB4 bC3 (fun cs hc=>Q4 hc) h hz
end
end
def lX(ws:List Nat)(root:Int)(q:Nat):Option (List jQ):=
 let W:=aO ws root q 3
 bif !W.ok then none else bif decide (W.d.kind=2) then some [⟨(q:Int),W.d.frame+((q%au W.lv:Nat):Int)⟩] else some []
def dL(ws:List Nat)(root:Int)(q:Nat):Nat→Option (List jQ)
 | 0=>some []
 | n+1=>match dL ws root q n with
  | none=>none
  | some xs=>match lX ws root (q+n) with
   | none=>none
   | some ys=>some (xs++ys)
theorem wI(ws:List Nat)(root:Int)(q m:Nat):∀ n,dL ws root q (m+n)=match dL ws root q m with
  | none=>none
  | some xs=>match dL ws root (q+m) n with
   | none=>none
   | some ys=>some (xs++ys):=by
 intro n
 induction n with
 | zero=>
  rw[bL4]
  cases dL ws root q m with
  | none=>rfl
  | some xs=>simp[dL]
 | succ n ih=>
  rw[←bV2,dL,ih,dL]
  cases dL ws root q m with
  | none=>rfl
  | some xs=>
   dsimp only
   cases dL ws root (q+m) n with
   | none=>rfl
   | some ys=>
    dsimp only;rw[←bV2]
    cases lX ws root (q+m+n) with
    | none=>rfl
    | some zs=>simp
theorem LK{ws:List Nat}{root:Int}{q:Nat}(h:lX ws root (q+k)=none)(hk:k<n):dL ws root q n=none:=by
 have e:n=k+(1+(n-k-1)):=by omega
 rw[e,wI]
 cases dL ws root q k with
 | none=>rfl
 | some xs=>
  dsimp only;rw[wI];have:dL ws root (q+k) 1=none:=by rw[dL,dL,bL4,h]
  rw[this]
def rJ(q:Nat)(f:Int):Nat→List jQ
 | 0=>[]
 | n+1=>rJ q f n++[⟨((q+n:Nat):Int),f+(n:Int)⟩]
theorem yY(q:Nat)(f:Int)(n:Nat):(rJ q f n).length=n:=by
 induction n with
 | zero=>rfl
 | succ n ih=>rw[rJ,bJ9,ih];rfl
theorem LM{ws:List Nat}{root:Int}{q:Nat}{W:qQ}(hok:W.ok=true)(hk:W.d.kind=2)(hq:q%au W.lv=0):∀ n,n≤au W.lv→(∀ j,j<n→aO ws root (q+j) 3=W)→dL ws root q n=some (rJ q W.d.frame n):=by
 intro n
 induction n with
 | zero=>intro _ _;rfl
 | succ n ih=>
  intro hn h;rw[dL,ih bB3 (fun j hj=>h j bB3)]
  have hp:lX ws root (q+n)=some [⟨((q+n:Nat):Int),W.d.frame+(n:Int)⟩]:=by
   unfold lX;rw[h n bB3]
   have hm:(q+n)%au W.lv=n:=by
    rw[Nat.add_mod,hq,bK2,Nat.mod_mod,Nat.mod_eq_of_lt bB3]
   simp only[hok,hk,decide_true,bK1,cond_false,cond_true,hm]
  rw[hp];rfl
theorem XL{ws:List Nat}{root:Int}{q:Nat}{W:qQ}(hok:W.ok=true)(hk:W.d.kind≠2):∀ n,(∀ j,j<n→aO ws root (q+j) 3=W)→dL ws root q n=some []:=by
 intro n
 induction n with
 | zero=>intro _;rfl
 | succ n ih=>
  intro h;rw[dL,ih (fun j hj=>h j bB3)]
  have hp:lX ws root (q+n)=some []:=by
   unfold lX;rw[h n bB3];simp[hok,hk]
  rw[hp];rfl
def BF(ws:List Nat)(root f:Int)(level page:Nat):Prop:=
 ∃ fs d,fs.length=level∧∀ j,j<8*au level→aO ws root (page+j) 3=bT ws (page+j) 3 (4-level) level f fs d
theorem O5{j:Nat}(hl:level<4)(hp:page%(8*au level)=0)(hi:i<8)(hj:j<au level):mg level (page+(i*au level+j))=i:=by
 have hc:=fH hl;unfold mg;rw[bP6];have e:2 ^ lV level=au level:=by unfold au;rw[Nat.one_shiftLeft]
 rw[e];generalize au level=c at hc hp hj;obtain⟨m,hm⟩:=bR8 hp;have h0:8*c*m=c*(8*m):=by rw[bQ4 8 c,Nat.mul_assoc]
 have h2:page+(i*c+j)=j+c*(8*m+i):=by
  rw[hm,h0,Nat.mul_add,bQ4 i c];generalize c*(8*m)=u;generalize c*i=v;omega
 have h1:(page+(i*c+j))/c=8*m+i:=by
  rw[h2,Nat.add_mul_div_left _ _ bB3,Nat.div_eq_of_lt hj,bK2]
 rw[h1];omega
theorem yZ{ws:List Nat}{root f:Int}{fs:List Int}{d0:DsD}(hl:level<4)(hp:page%(8*au level)=0)(hi:i<8)(hf:bK ws.length f=true)
  (h:∀ j,j<8*au level→aO ws root (page+j) 3=bT ws (page+j) 3 (4-level) level f fs d0) {j:Nat} (hj:j<au level):
  aO ws root (page+i*au level+j) 3=bif !decide ((gJ ws (f.toNat*8+i) level).kind=1)||decide (level=3) then ⟨fs++[f],gJ ws (f.toNat*8+i) level,true⟩
   else bT ws (page+i*au level+j) 3 (3-level) (level+1) (gJ ws (f.toNat*8+i) level).frame (fs++[f]) (gJ ws (f.toNat*8+i) level):=by
 have hij:i*au level+j<8*au level:=by
  have:i*au level≤7*au level:=bK8 _ bB3;omega
 have h1:=h (i*au level+j) hij;have hx:=O5 hl hp hi hj;rw[show 4-level=(3-level)+1 by omega,bT,hf,cond_true] at h1;unfold jh at h1;rw[hx] at h1;rw[bV2];exact h1
theorem kG(h:level<3):au level=8*au (level+1):=by
 obtain rfl | rfl | rfl:level=0∨level=1∨level=2:=by omega
 all_goals decide
theorem xJ{ws:List Nat}{root f:Int}(hl:level<3)(hp:page%(8*au level)=0)(hi:i<8)(hf:bK ws.length f=true)(h:BF ws root f level page)(hk:(gJ ws (f.toNat*8+i) level).kind=1):BF ws root (gJ ws (f.toNat*8+i) level).frame (level+1) (page+i*au level):=by
 obtain⟨fs,d0,hfs,h⟩:=h;refine⟨fs++[f],gJ ws (f.toNat*8+i) level,by simp[hfs],fun j hj=>?_⟩;rw[←kG hl] at hj;rw[yZ bB3 hp hi hf h hj];have h3:decide (level=3)=false:=decide_eq_false bB3;simp only[hk,h3,decide_true,bK1,bU3,cond_false];rw[show 4-(level+1)=3-level by omega]
theorem TN{ws:List Nat}{root f:Int}(hl:level<4)(hp:page%(8*au level)=0)(hi:i<8)(hf:bK ws.length f=true)(h:BF ws root f level page):
  ((gJ ws (f.toNat*8+i) level).kind=2→dL ws root (page+i*au level) (au level)=some (rJ (page+i*au level) (gJ ws (f.toNat*8+i) level).frame (au level))) ∧
  ((gJ ws (f.toNat*8+i) level).kind=0→dL ws root (page+i*au level) (au level)=some []):=by
 obtain⟨fs,d0,hfs,h⟩:=h;have hlv:(⟨fs++[f],gJ ws (f.toNat*8+i) level,true⟩:qQ).lv=level:=by simp[qQ.lv,hfs]
 have hw:(gJ ws (f.toNat*8+i) level).kind≠1→∀ j,j<au level→aO ws root (page+i*au level+j) 3=⟨fs++[f],gJ ws (f.toNat*8+i) level,true⟩:=fun hk j hj=>by
  rw[yZ hl hp hi hf h hj];simp[hk]
 refine⟨fun hk=>?_,fun hk=>?_⟩
 ·refine LM (W:=⟨fs++[f],gJ ws (f.toNat*8+i) level,true⟩) rfl hk ?_ (au level) (by rw[hlv];exact bI9 _) (hw (by rw[hk];decide));rw[hlv];have h8:page%au level=0:=bT4 (bX8 ⟨8,bQ4 _ _⟩ (bR8 hp));rw[Nat.add_mod,h8,Nat.mul_mod_left];rfl
 ·exact XL (W:=⟨fs++[f],gJ ws (f.toNat*8+i) level,true⟩) rfl (by show (gJ ws (f.toNat*8+i) level).kind≠2;rw[hk];decide) (au level) (hw (by rw[hk];decide))
theorem qy(ws:List Nat)(root:Int):BF ws root root 0 0:=⟨[],dG,rfl,fun j _=>rfl⟩
theorem O6{ws:List Nat}{root f:Int}(hl:level<4)(h:BF ws root f level page)(hf:bK ws.length f=false):dL ws root page (8*au level)=none:=by
 obtain⟨fs,d0,hfs,h⟩:=h;have hc:=fH hl;refine LK (k:=0) ?_ bB3;unfold lX;rw[h 0 bB3,show 4-level=(3-level)+1 by omega,bT,hf];rfl
section
structure JU where
 r:zL
 vm:Int
 vc:Int
 es:List fF
 ds:List jy
deriving Inhabited
structure kJ where
 live:Bool
 dying:Bool
 aN:Int
 fs:List Int
 fr:List Int
 vs:List Az
deriving Inhabited
structure HyD where
 ws:List Nat
 cs:List JU
 vs:List kJ
 rs:List zL
deriving Inhabited
def jv.u(c:jv):JU:=⟨c.r,c.vm,c.vc,c.t.es,c.t.ds⟩
def eG.u(m:eG):kJ:=⟨m.live,m.dying,m.aN,m.fs,m.fr,m.vs⟩
def qM(ws:List Nat)(root mid:Int):Int:=(iE ws root mid.toNat).d.soft
structure Zp where
 mid:Int
 eu:Int
 soft:Int
deriving Inhabited
abbrev Q7(m:Zp):List Value:=[.int .i64 m.mid,.int .i64 m.eu,.int .i64 m.soft]
def kJ.root(v:kJ):Int:=v.fs.getD 0 0
def kJ.has(v:kJ):Bool:=v.live&&decide (0<v.fs.length)
namespace HyD
variable (H : HyD)
def cu(c:Nat):JU:=H.cs.getD c default
def vu(i:Nat):kJ:=H.vs.getD i default
def wZ(i:Nat):List jQ:=bif (H.vu i).has then ((dL H.ws (H.vu i).root 0 4096).getD []).filter (fun m=>decide (m.mid≤15)) else []
def msA(i:Nat):List Zp:=(H.wZ i).map fun m=>⟨m.mid,m.eu,qM H.ws (H.vu i).root m.mid⟩
def pG(f s:Int):Int:=match PtD.idx (fun i=>(H.msA i).any fun m=>decide (m.eu=f)&&decide (m.soft=s)) [0,1,2,3] 0 with
 | some i=>(i:Int)+1
 | none=>0
def mG(f:Nat):o8:=
 let g:=iE H.ws 0 f
 bif !decide (g.e=0) then ⟨-1,-2⟩ else bif decide (g.d.kind=2)&&decide (g.d.soft=0) then ⟨0,-2⟩
 else bif decide (g.d.kind=2)&&decide (g.d.soft=1) then (bif decide (0<H.pG f 2) then ⟨0,H.pG f 2⟩ else ⟨0,-1⟩)
 else bif decide (g.d.kind=2)&&decide (g.d.soft=2) then (bif decide (0<H.pG f 1) then ⟨H.pG f 1,0⟩ else ⟨-1,-2⟩)
 else bif decide (g.d.kind=0)&&decide (1<g.d.note)&&decide (g.d.note≤5) then ⟨g.d.note-1,-2⟩ else ⟨-1,-2⟩
def bU(i:Nat):Vg:=bif (H.vu i).live then ⟨true,(H.vu i).dying,bif decide (0<(H.vu i).fs.length) then (H.vu i).root else 0,(H.vu i).vs.map Az.on,H.wZ i⟩ else ⟨false,(H.vu i).dying,0,[],[]⟩
def aG:PtD:=⟨(List.range (H.ws.length/8)).map H.mG,(List.range 4).map H.bU,H.cs.map fun c=>⟨c.vm,c.vc⟩⟩
def iq:Bool:=fJ H.ws.length&&decide (24≤H.ws.length/8)&&(decide (1≤H.cs.length)&&decide (H.cs.length≤3))&&decide (H.rs.length=H.cs.length)&&decide (H.vs.length=4)
def Vj(c:Az):Bool:=decide (c.on= -1)||decide (c.r=jA)
def Vk(i:Nat):Bool:=
 bif (H.vu i).live then (H.vu i).vs.all Vj&&PtD.dD (H.vu i).aN 1 15&&!(H.vs.take i).any fun o=>o.live&&decide (o.aN=(H.vu i).aN)
 else decide ((H.vu i).vs=[])&&decide ((H.vu i).fs=[])&&decide ((H.vu i).fr=[])&&decide ((H.vu i).aN=0)
def cpQ(c:Nat):Bool:=!decide ((H.cu c).vm=0)||decide (H.rs.getD c default=jA)
def quiet:Bool:=allB H.cs.length H.cpQ&&allB 4 H.Vk
end HyD
def BG(P:PtD)(n:Int)(f:Nat):Int:=bif !decide ((P.pg f).own=n) then 2 else bif decide ((P.pg f).wit=0) then 1 else 0
def vg(P:PtD)(n:Int)(mid:Nat)(d:DsD):Bool:=
 decide (d.frame<(P.pages.length:Int))&&(decide (d=aZ d.frame (BG P n d.frame.toNat))&&(P.gs (n-1).toNat).maps.any fun m=>decide (m.mid=(mid:Int))&&decide (m.eu=d.frame))
def mX(ws:List Nat)(may:Nat→DsD→Bool)(go:List Int→Int→Nat→Option (List Int))(f:Int)(level page:Nat)(k:Nat)(seen:List Int):Option (List Int):=
 let d:=gJ ws (f.toNat*8+k) level
 bif decide (d.kind=1) then (bif decide (15<page+k*au level) then none else go seen d.frame (page+k*au level))
 else bif !decide (ws.getD (f.toNat*8+k) 0=0)&&(!decide (d.kind=2)||!decide (level=3)||!may (page+k) d) then none else some seen
def dJ(ws:List Nat)(may:Nat→DsD→Bool)(go:List Int→Int→Nat→Option (List Int))(f:Int)(level page:Nat):Nat→List Int→Option (List Int)
 | 0,seen=>some seen
 | k+1,seen=>match dJ ws may go f level page k seen with
  | none=>none
  | some s=>mX ws may go f level page k s
def dM(ws:List Nat)(may:Nat→DsD→Bool):Nat→List Int→Int→Nat→Nat→Option (List Int)
 | 0,_,_,_,_=>none
 | k+1,seen,f,level,page=>bif !bK ws.length f||seen.any (fun t=>decide (t=f)) then none
  else dJ ws may (fun s f' p=>dM ws may k s f' (level+1) p) f level page 8 (seen++[f])
def GY(ws:List Nat)(f:Int):Bool:=allB 8 fun k=>decide (ws.getD (f.toNat*8+k) 0=0)
def xK(ws:List Nat)(fs seen fr:List Int)(k:Nat):Bool:=
 fs.any (fun t=>decide (t=fr.getD k 0))&&!seen.any (fun t=>decide (t=fr.getD k 0))&&(decide (k=0)||decide (fr.getD (k-1) 0<fr.getD k 0))&&GY ws (fr.getD k 0)
namespace HyD
variable (H : HyD)
def EE(i:Nat)(page:Nat)(d:DsD):Bool:=decide (page≤15)&&vg H.aG ((i:Int)+1) page d
def nY(i:Nat):Bool:=
 bif !(H.vu i).live then true else
 decide ((H.vu i).fs.length=5)&&allB 5 (fun k=>decide ((H.vu i).fs.getD k 0=(H.vu i).root+(k:Int))) &&
 match dM H.ws (H.EE i) 4 [] (H.vu i).root 0 0 with
 | none=>false
 | some seen=>decide (seen.length+(H.vu i).fr.length=5)&&allB (H.vu i).fr.length (xK H.ws (H.vu i).fs seen (H.vu i).fr)&&seen.all fun f=>(H.vu i).fs.any fun t=>decide (t=f)
def EF(aN:Int):Option Int:=bif decide (aN=0) then some 0 else match PtD.idx (fun v:kJ=>v.live&&decide (v.aN=aN)) H.vs 0 with
 | some i=>some (H.vu i).root
 | none=>none
def iO(root:Int)(page:Int):DsD×Bool:=((iE H.ws root page.toNat).d,decide ((iE H.ws root page.toNat).e=0)&&decide ((iE H.ws root page.toNat).d.kind=2)&&decide ((iE H.ws root page.toNat).level=3))
def qV(e:fF):Bool:=match H.EF e.aN with
 | none=>false
 | some root=>
  bif decide (e.kind=2) then (H.iO root e.page).2&&decide ((H.iO root e.page).1.frame=e.frame)&&(decide ((H.iO root e.page).1.r=e.r)&&decide ((H.iO root e.page).1.w=e.w)&&decide ((H.iO root e.page).1.x=e.x)&&decide ((H.iO root e.page).1.af=e.af)&&decide ((H.iO root e.page).1.ng=e.ng)&&decide (0=e.soft))
  else bif decide (e.kind=1) then (H.iO root e.mid).2&&decide ((H.iO root e.mid).1.frame=e.frame)&&((!e.r||(H.iO root e.mid).1.r)&&(!e.w||(H.iO root e.mid).1.w)&&(!e.x||(H.iO root e.mid).1.x))
  else ((dL H.ws root 0 4096).getD []).any fun m=>(H.iO root m.mid).2&&decide (m.eu=e.frame)&&(H.iO root m.mid).1.r
def sound(c:Nat):Bool:=dQ (H.cu c).es (H.cu c).ds&&(H.cu c).es.all H.qV
def ok:Bool:=H.iq&&(H.aG.may&&Ey H.ws H.aG.pages&&H.quiet)&&allB 4 H.nY&&allB H.cs.length H.sound
end HyD
structure HyD.Fit(H:HyD):Prop where
 l:H.ws.length<100000∧H.cs.length<100000∧H.vs.length<100000∧H.rs.length<100000
 c:∀ c∈H.cs,c.es.length<100000∧c.ds.length<100000∧I64 c.vm∧I64 c.vc
 v:∀ v∈H.vs,v.fs.length<100000∧v.fr.length<100000∧v.vs.length<100000∧(∀ x∈v.fs,I64 x)∧(∀ x∈v.fr,I64 x)∧(∀ c∈v.vs,I64 c.on)
structure vw(w:World)(wv cv vv rv:Value)(H:HyD):Prop where
 fit:H.Fit
 cap:∃ q c,vv=.slice q H.vs.length c∧H.vs.length≤c
 EG:∃ q c,wv=.slice q H.ws.length c∧H.ws.length≤c
 ex:∃ cs vs,cs.map jv.u=H.cs∧vs.map eG.u=H.vs∧(∀ c∈cs,c.t.es.length≤c.t.ec)∧Et w wv cv vv rv H.ws cs vs H.rs
theorem vw.good{w':World}{hp:Hp}{wv cv vv rv:Value}{H:HyD}(h:vw w wv cv vv rv H)(hG:Good w [] hp w'):vw w' wv cv vv rv H:=by
 obtain⟨cs,vs,e1,e2,e3,h5⟩:=h.ex;exact⟨h.fit,h.cap,h.EG,cs,vs,e1,e2,e3,h5.good hG⟩
theorem FM{cs:List jv}{us:List JU}(h:cs.map jv.u=us)(k:Nat):(cs.getD k default).u=us.getD k default:=by
 rw[←h,bH8,bH8,bJ'];cases cs[k]?<;>rfl
theorem rM{cs:List eG}{us:List kJ}(h:cs.map eG.u=us)(k:Nat):(cs.getD k default).u=us.getD k default:=by
 rw[←h,bH8,bH8,bJ'];cases cs[k]?<;>rfl
theorem vz(ws:List Nat)(root:Int)(q:Nat):∀ n xs,dL ws root q n=some xs→xs.length≤n:=by
 intro n
 induction n with
 | zero=>intro xs h;cases h;exact bI9 _
 | succ n ih=>
  intro xs h;rw[dL] at h
  cases h1:dL ws root q n with
  | none=>rw[h1] at h;cases h
  | some a=>
   rw[h1] at h;dsimp only at h;unfold lX at h;dsimp only at h;have:=ih a h1
   cases h2:(!(aO ws root (q+n) 3).ok) with
   | true=>rw[h2] at h;cases h
   | false=>
    rw[h2,cond_false] at h
    cases h3:decide ((aO ws root (q+n) 3).d.kind=2) with
    | true=>rw[h3] at h;cases h;simp;omega
    | false=>rw[h3] at h;cases h;simp;omega
theorem zf(H:HyD)(i:Nat):(H.wZ i).length≤4096:=by
 unfold HyD.wZ
 cases (H.vu i).has with
 | false=>exact bI1 _
 | true=>
  rw[cond_true];refine bP8 (bS4 _ _) ?_
  cases h:dL H.ws (H.vu i).root 0 4096 with
  | none=>exact bI1 _
  | some a=>exact vz _ _ _ _ _ h
end
abbrev rO(w w':World):Prop:=∃ hp,Good w [] hp w'
section
attribute [local irreducible] Hy St Ops DH dH
theorem LP{w:World}{F:Nat}{us:List Value}(p:Int→Bool)(xs:List (Int))(v:Value)(h:aA w v 1 (xs.map bY))(hF:∀ x,x∈xs→∀ w',rO w w'→Fn Tryz.prog F ([]++[Value.int .i64 x]++us).toArray w' [] (fun u _=>u=.bool (p x)))(bM:mem iV F=true:=by rfl):
  Fn Tryz.prog 214 [v,.func (.func F) [].toArray us.toArray].toArray w [] (fun u _=>u=.int .i64 (gV p xs)):=by
 obtain⟨q,cap,rfl,hne,hle⟩:=h.opened;refine enter Tryz.func214 ?_;refine run ?_;refine aK (σ:=Nat) (fun k=>[(8,.int .i64 (k:Int))]) (fun _=>[]) (fun k=>k≤xs.length∧∀ j,j<k→p (xs.getD j default)=false) (fun k=>xs.length-k) 0 ⟨bI1 _,fun j hj=>absurd hj bB3⟩ ?_;rintro k m rfl ⟨hk,hno⟩;refine run ?_;refine ah _ rfl (fun hc=>?_) (fun hc=>?_)
 ·have hlt:k<xs.length:=by simpa using hc
  obtain⟨b,o,rfl⟩:=hne bB7;have hr:=aj (h.row hlt);simp only[bK3] at hr;refine run ?_;refine l7 (fun wc hG=>hF (xs.getD k default) (getD_mem hlt) wc ⟨_,hG⟩) (bM:=bM) ?_;refine run ?_;refine ah _ rfl (fun hp=>?_) (fun hp=>?_)
  ·refine run ?_;refine fin1 ?_;rw[fG hlt hp hno]
  ·refine run ?_;refine aF (k+1) ⟨hlt,fun j hj=>?_⟩;rcases bJ0.1 hj with hj | rfl
   ·exact hno j hj
   ·exact hp
 ·have hge:k=xs.length:=by simp at hc;omega
  subst hge;refine run ?_;refine fin1 ?_;rw[dV hno]
theorem O7{w:World}{F:Nat}{us:List Value}(p:jy→Bool)(xs:List (jy))(v:Value)(h:aA w v 4 (xs.map lg))(hF:∀ x,x∈xs→∀ w',rO w w'→Fn Tryz.prog F ([]++[Value.agg (lg x).toArray]++us).toArray w' [] (fun u _=>u=.bool (p x)))(bM:mem iV F=true:=by rfl):
  Fn Tryz.prog 298 [v,.func (.func F) [].toArray us.toArray].toArray w [] (fun u _=>u=.int .i64 (gV p xs)):=by
 obtain⟨q,cap,rfl,hne,hle⟩:=h.opened;refine enter Tryz.func298 ?_;refine run ?_;refine aK (σ:=Nat) (fun k=>[(8,.int .i64 (k:Int))]) (fun _=>[]) (fun k=>k≤xs.length∧∀ j,j<k→p (xs.getD j default)=false) (fun k=>xs.length-k) 0 ⟨bI1 _,fun j hj=>absurd hj bB3⟩ ?_;rintro k m rfl ⟨hk,hno⟩;refine run ?_;refine ah _ rfl (fun hc=>?_) (fun hc=>?_)
 ·have hlt:k<xs.length:=by simpa using hc
  obtain⟨b,o,rfl⟩:=hne bB7;have hr:=h.row hlt;refine run ?_;refine l7 (fun wc hG=>hF (xs.getD k default) (getD_mem hlt) wc ⟨_,hG⟩) (bM:=bM) ?_;refine run ?_;refine ah _ rfl (fun hp=>?_) (fun hp=>?_)
  ·refine run ?_;refine fin1 ?_;rw[fG hlt hp hno]
  ·refine run ?_;refine aF (k+1) ⟨hlt,fun j hj=>?_⟩;rcases bJ0.1 hj with hj | rfl
   ·exact hno j hj
   ·exact hp
 ·have hge:k=xs.length:=by simp at hc;omega
  subst hge;refine run ?_;refine fin1 ?_;rw[dV hno]
theorem EH{w:World}{F:Nat}{us:List Value}(p:fF→Bool)(xs:List (fF))(v:Value)(h:aA w v 14 (xs.map iy))(hF:∀ x,x∈xs→∀ w',rO w w'→Fn Tryz.prog F ([]++[Value.agg (iy x).toArray]++us).toArray w' [] (fun u _=>u=.bool (p x)))(bM:mem iV F=true:=by rfl):
  Fn Tryz.prog 220 [v,.func (.func F) [].toArray us.toArray].toArray w [] (fun u _=>u=.int .i64 (gV p xs)):=by
 obtain⟨q,cap,rfl,hne,hle⟩:=h.opened;refine enter Tryz.func220 ?_;refine run ?_;refine aK (σ:=Nat) (fun k=>[(8,.int .i64 (k:Int))]) (fun _=>[]) (fun k=>k≤xs.length∧∀ j,j<k→p (xs.getD j default)=false) (fun k=>xs.length-k) 0 ⟨bI1 _,fun j hj=>absurd hj bB3⟩ ?_;rintro k m rfl ⟨hk,hno⟩;refine run ?_;refine ah _ rfl (fun hc=>?_) (fun hc=>?_)
 ·have hlt:k<xs.length:=by simpa using hc
  obtain⟨b,o,rfl⟩:=hne bB7;have hr:=h.row hlt;refine run ?_;refine l7 (fun wc hG=>hF (xs.getD k default) (getD_mem hlt) wc ⟨_,hG⟩) (bM:=bM) ?_;refine run ?_;refine ah _ rfl (fun hp=>?_) (fun hp=>?_)
  ·refine run ?_;refine fin1 ?_;rw[fG hlt hp hno]
  ·refine run ?_;refine aF (k+1) ⟨hlt,fun j hj=>?_⟩;rcases bJ0.1 hj with hj | rfl
   ·exact hno j hj
   ·exact hp
 ·have hge:k=xs.length:=by simp at hc;omega
  subst hge;refine run ?_;refine fin1 ?_;rw[dV hno]
theorem qA{w:World}{F:Nat}{us:List Value}(p:Int→Bool)(xs:List (Int))(v:Value)(h:aA w v 1 (xs.map bY))(hF:∀ x,x∈xs→∀ w',rO w w'→Fn Tryz.prog F ([]++[Value.int .i64 x]++us).toArray w' [] (fun u _=>u=.bool (p x)))(bM:mem iV F=true:=by rfl):
  Fn Tryz.prog 134 [v,.func (.func F) [].toArray us.toArray].toArray w [] (fun u _=>u=.bool (xs.any p)):=by
 refine enter Tryz.func134 ?_;refine run ?_;refine az (fun wc hG=>LP p xs v (h.good hG) (fun x hx w' ha=>hF x hx w' ?_) bM) ?_
 ·obtain⟨hp,hg⟩:=ha;exact⟨_,hG.trans hg⟩
 refine run ?_;refine fin1 ?_;rw[←gq]
theorem qW{w:World}{F:Nat}{us:List Value}(p:jy→Bool)(xs:List (jy))(v:Value)(h:aA w v 4 (xs.map lg))(hF:∀ x,x∈xs→∀ w',rO w w'→Fn Tryz.prog F ([]++[Value.agg (lg x).toArray]++us).toArray w' [] (fun u _=>u=.bool (p x)))(bM:mem iV F=true:=by rfl):
  Fn Tryz.prog 217 [v,.func (.func F) [].toArray us.toArray].toArray w [] (fun u _=>u=.bool (xs.any p)):=by
 refine enter Tryz.func217 ?_;refine run ?_;refine az (fun wc hG=>O7 p xs v (h.good hG) (fun x hx w' ha=>hF x hx w' ?_) bM) ?_
 ·obtain⟨hp,hg⟩:=ha;exact⟨_,hG.trans hg⟩
 refine run ?_;refine fin1 ?_;rw[←gq]
theorem vC(v:Value)(xs:List (List Value))(h:aA w v 14 xs)(hall:∀ c∈xs,c.length=14∧c.all (·.oneCell')=true)(hl:xs.length<1000000):Fn Tryz.prog 154 [v].toArray w [] (fun u hn=>Own 80 14 u hn xs):=by
 obtain⟨⟨q,cap,rfl,hne⟩,_⟩:=h;refine enter Tryz.func154 ?_;refine run ?_;refine jI bB8 (nH aB rfl rfl) ?_;refine run ?_;refine ah _ rfl (fun hp=>?_) (fun hp=>?_)
 ·obtain rfl:xs=[]:=by
   rcases bM6 (xs=[]) with h | h
   ·exact h
   ·obtain⟨b,o,rfl,_⟩:=hne h;cases hp
  refine run ?_;refine fin1 ?_;exact⟨by simp,.inl ⟨rfl,rfl,rfl⟩⟩
 refine run ?_;refine iD aB bB8 bB8 (fun g=>?_);refine run ?_;rcases bM6 (xs=[]) with rfl | hx
 ·cases q with
  | none=>cases hp
  | some q=>
  refine jI bB8 (iC aB (jr:=0) rfl rfl rfl (bI9 _)) ?_;refine run ?_;refine fin1 ?_;exact⟨by simp,.inr ⟨g,0,#[],rfl,rfl,⟨rfl,bI9 _,by decide,rfl,rfl⟩⟩⟩
 ·obtain⟨b,o,rfl,hr⟩:=hne hx;refine eP aB bB8 rfl ⟨rfl,bI9 _,by decide,rfl,rfl⟩ rfl rfl rfl rfl rfl rfl (.refl _) rfl hall hr bB5 hl (fun v' ha' hA=>?_);refine run ?_;refine fin1 ?_;rw[bI'];exact hA
theorem xe(v:Value)(xs:List (List Value))(h:aA w v 4 xs)(hall:∀ c∈xs,c.length=4∧c.all (·.oneCell')=true)(hl:xs.length<1000000):Fn Tryz.prog 155 [v].toArray w [] (fun u hn=>Own 127 4 u hn xs):=by
 obtain⟨⟨q,cap,rfl,hne⟩,_⟩:=h;refine enter Tryz.func155 ?_;refine run ?_;refine jI bB8 (nH aB rfl rfl) ?_;refine run ?_;refine ah _ rfl (fun hp=>?_) (fun hp=>?_)
 ·obtain rfl:xs=[]:=by
   rcases bM6 (xs=[]) with h | h
   ·exact h
   ·obtain⟨b,o,rfl,_⟩:=hne h;cases hp
  refine run ?_;refine fin1 ?_;exact⟨by simp,.inl ⟨rfl,rfl,rfl⟩⟩
 refine run ?_;refine iD aB bB8 bB8 (fun g=>?_);refine run ?_;rcases bM6 (xs=[]) with rfl | hx
 ·cases q with
  | none=>cases hp
  | some q=>
  refine jI bB8 (iC aB (jr:=0) rfl rfl rfl (bI9 _)) ?_;refine run ?_;refine fin1 ?_;exact⟨by simp,.inr ⟨g,0,#[],rfl,rfl,⟨rfl,bI9 _,by decide,rfl,rfl⟩⟩⟩
 ·obtain⟨b,o,rfl,hr⟩:=hne hx;refine eP aB bB8 rfl ⟨rfl,bI9 _,by decide,rfl,rfl⟩ rfl rfl rfl rfl rfl rfl (.refl _) rfl hall hr bB5 hl (fun v' ha' hA=>?_);refine run ?_;refine fin1 ?_;rw[bI'];exact hA
theorem TP(a:fF)(xs:List fF)(v:Value)(h:aA w v 14 (xs.map iy)):
  Fn Tryz.prog 297 [v,.agg (iy a).toArray].toArray w [] (fun u _=>u=.int .i64 (gV (fun t=>decide (t=a)) xs)):=by
 obtain⟨q,cap,rfl,hne,hle⟩:=h.opened;refine enter Tryz.func297 ?_;refine run ?_;intro B;refine run ?_;refine aK (σ:=Nat) (fun k=>[(8,.int .i64 (k:Int))]) (fun _=>[⟨B,(iy a).toArray,80⟩]) (fun k=>k≤xs.length∧∀ j,j<k→decide (xs.getD j default=a)=false) (fun k=>xs.length-k) 0 ⟨bI1 _,fun j hj=>absurd hj bB3⟩ ?_;rintro k m rfl ⟨hk,hno⟩;refine run ?_;refine ah _ rfl (fun hc=>?_) (fun hc=>?_)
 ·have hlt:k<xs.length:=by simpa using hc
  obtain⟨b,o,rfl⟩:=hne bB7;have hr:=h.row hlt;refine run ?_;refine dA ?_;refine dI ?_;refine run ?_;have hq:∀ x:fF,aW (iy a) (iy x)=decide (x=a):=fun x=>by rw[ad3,bI2,decide_eq_true_eq,decide_eq_true_eq];exact eq_comm
  try rw[hq]
  try rw[ad3]
  refine ah _ rfl (fun hp=>?_) (fun hp=>?_)
  ·refine run ?_;refine fin1 ?_;rw[fG hlt hp hno]
  ·refine run ?_;refine aF (k+1) ⟨hlt,fun j hj=>?_⟩;rcases bJ0.1 hj with hj | rfl
   ·exact hno j hj
   ·exact hp
 ·have hge:k=xs.length:=by simp at hc;omega
  subst hge;refine run ?_;refine fin1 ?_;rw[dV hno]
theorem Jj(a:fF)(xs:List fF)(v:Value)(h:aA w v 14 (xs.map iy)):
  Fn Tryz.prog 216 [v,.agg (iy a).toArray].toArray w [] (fun u _=>u=.bool (xs.any fun t=>decide (t=a))):=by
 refine enter Tryz.func216 ?_;refine run ?_;intro B;refine run ?_;refine az (fun wc hG=>TP a xs v (h.good hG)) ?_;refine run ?_;refine fin1 ?_;rw[←gq]
end
end Go.Proofs.YtellmabgmnbhcaaGreat
