/- Texts of one's own, merged: the engine, what the functions do, plain laws. -/
import Derived.Test.YtellmabgmnbhcaaGreatPs1
namespace Go.Proofs.YtellmabgmnbhcaaGreat
open Go.RowKit
set_option linter.unusedVariables false
set_option linter.unusedSimpArgs false
set_option maxRecDepth 20000
variable {t n e k i b sz cap g a d m off j level page:Nat}{cs:Array Value}{x y:Operand}{α:Type}{c vs:List Value}{w w0:World}{v z:Value}{mu:List Nat}{hp h hp':Hp}{xs:List (List Value)}{pi qi:Int}{ops:List Oper}
section
open Go.ChangeShapes Go.WideShapes Go.ChangeAt Go.RowKit
def okW:jU→Value→Bool
 | .i k,.int k' n=>decide (k=k')&&(Lit.int k n).wf
 | .b,.bool _=>true
 | _,_=>false
def jB:List jU→List Value→Bool
 | [],[]=>true
 | l::ls,v::vs=>okW l v&&jB ls vs
 | _,_=>false
theorem Gp:∀ {ks rs:List jU} {vs:List Value},ks.length≤vs.length→jB ks (vs.take ks.length)=true→jB rs (vs.drop ks.length)=true→jB (ks++rs) vs=true:=by
 intro ks
 induction ks with
 | nil=>intro rs vs _ _ h;simpa using h
 | cons k r ih=>
  intro rs vs hl h1 h2
  cases vs with
  | nil=>simp at hl
  | cons v vs=>
   simp only[bL6,bL7,bL2,jB,bH6] at h1 h2;simp only[bI0,jB,bH6];exact⟨h1.1,ih (by simp at hl;omega) h1.2 h2⟩
section
variable {H : Type} {enc : TypeId × Value → H} {P : Program} {w : World} {base : Nat} {spare : Nat → Bool} {held : Bool}
theorem jE{t:TypeId}(h:fK P t=some n):P.cellsOf t=n:=by
 unfold fK at h;unfold Program.cellsOf;rw[h];rfl
theorem FH{F:TypeId→Option (List jU)}(hF:∀ u ks,F u=some ks→fK P u=some ks.length∧∀ cs x,DataW.trod enc P w base spare held n u cs=some x→jB ks cs=true)(cs:List Value):
  ∀ (fs:List Field) (off:Nat) (ks:List jU),kY F off fs=some ks→cs.length=off+ks.length →
   (∀ f∈fs,∃ x,DataW.trod enc P w base spare held n f.type ((cs.drop f.offset).take (P.cellsOf f.type))=some x)→jB ks (cs.drop off)=true:=by
 intro fs
 induction fs with
 | nil=>
  intro off ks h hl hx;simp only[kY,bK0] at h;subst h;rw[bM0 (by simp only[bS0] at hl;omega)]
  rfl
 | cons f r ih=>
  intro off ks h hl hx;simp only[kY] at h;split at h
  ·rename_i hc;obtain⟨hname,hoff⟩:=hc
   cases hf:F f.type with
   | none=>simp[hf] at h
   | some k1=>
    rw[hf] at h;simp only[bQ5] at h
    cases hr:kY F (off+k1.length) r with
    | none=>simp[hr] at h
    | some k2=>
     rw[hr] at h;simp only[bL5,bK0] at h;subst h;obtain⟨hs,hE⟩:=hF _ _ hf;obtain⟨x,hx1⟩:=hx f (bI8 ..);rw[hoff,jE hs] at hx1;simp only[bJ9] at hl;refine Gp bB9 (hE _ _ hx1) ?_;rw[bQ2];exact ih _ _ hr bB3 fun f hf=>hx f (bI5 _ hf)
  ·cases h
theorem IG{ks:List jU}{q:List Value→Prop}(hE:∀ cs,q cs→jB ks cs=true)(cs:List Value):∀ (n m:Nat),cs.length=(m+n)*ks.length→(∀ i,m≤i→i<m+n→q ((cs.drop (i*ks.length)).take ks.length))→jB (lY ks n) (cs.drop (m*ks.length))=true:=by
 intro n
 induction n with
 | zero=>intro m hl _;rw[bM0 (by rw[hl];simp)];rfl
 | succ n ih=>
  intro m hl hq;have e:(m+(n+1))*ks.length=m*ks.length+(ks.length+n*ks.length):=by rw[bR0,bN6];omega
  refine Gp bB9 (hE _ (hq m (bI9 _) bB3)) ?_;rw[bQ2,←bN6];exact ih (m+1) (by rw[hl];congr 1;omega) fun i h1 h2=>hq i bB3 bB3
theorem ku:∀ (d:Nat) (t:TypeId) (ks:List jU),uy P d t=some ks→fK P t=some ks.length→∀ fuel cs x,DataW.trod enc P w base spare held fuel t cs=some x→jB ks cs=true:=by
 intro d
 induction d with
 | zero=>intro t ks h;cases h
 | succ d ih=>
  intro t ks h hsz fuel cs x hx;simp only[uy] at h;split at h
  ·rename_i k hu;simp only[bK0] at h;subst h;obtain⟨n,rfl,_,hw⟩:=DataW.trod_int hu hx;simp[jB,okW,hw]
  ·rename_i hu;simp only[bK0] at h;subst h;obtain⟨n,rfl,_⟩:=DataW.trod_bool hu hx;simp[jB,okW]
  ·rename_i fs hu;split at h
   ·obtain⟨xs,n,_,_,hl,hn,hf⟩:=DataW.trod_struct hu hx
    have:=FH (enc:=enc) (P:=P) (w:=w) (base:=base) (spare:=spare) (held:=held) (n:=n) (F:=fun u=>(uy P d u).bind fun ks=>if fK P u=some ks.length∧0<ks.length then some ks else none) (fun u ks' hF=>by
     cases hl:uy P d u with
     | none=>rw[hl] at hF;cases hF
     | some k1=>
      rw[hl] at hF;simp only[bQ5] at hF;split at hF
      ·rename_i hz;simp only[bK0] at hF;subst hF;exact⟨hz.1,fun cs x=>ih u k1 hl hz.1 n cs x⟩
      ·cases hF) cs fs.toList 0 ks h (by rw[hl,jE hsz];omega) (fun f hm=>by
       obtain⟨i,hi,rfl⟩:=bM4.1 hm;simp only[bU6] at hi;have:=hf i fs[i] (by simp[hi]);rw[Array.getElem_toList,this]
       exact⟨xs[i],by rw[bH9 bB3]⟩)
    simpa using this
   ·cases h
  ·rename_i n e hu
   cases hl:uy P d e with
   | none=>rw[hl] at h;cases h
   | some k1=>
    rw[hl] at h;simp only[bQ5] at h;split at h
    ·rename_i hz;simp only[bK0] at h;subst h;obtain⟨xs,m,_,_,hlen,hn,hf⟩:=DataW.trod_array hu hx
     have hk:∀ (n:Nat),(lY k1 n).length=n*k1.length:=by
      intro n
      induction n with
      | zero=>simp[lY]
      | succ n ih=>simp[lY,ih,bN6];omega
     have:=IG (ks:=k1) (q:=fun cs=>∃ x,DataW.trod enc P w base spare held m e cs=some x) (fun cs ⟨x,h⟩=>ih e k1 hl hz.1 m cs x h) cs n 0 (by rw[hlen,jE hsz,hk];simp) (fun i _ hi=>by
      have:=hf i bB3;rw[jE hz.1] at this;rw[this]
      exact⟨xs[i]' bB3,by rw[bH9 bB3]⟩)
     simpa using this
    ·cases h
  ·cases h
end
end
section
open Go.ChangeShapes Go.WideShapes Go.ChangeAt Go.RowKit
section
variable {H : Type} {enc : TypeId × Value → H} {P : Program} {w : World} {base : Nat} {spare : Nat → Bool} {held : Bool}
def FI(P:Program)(t:TypeId)(d:DataW H):Prop:=∀ n∈d.weights P t,n≤reachBytes
theorem weightsAll_mem{P:Program}{e:TypeId}:∀ {ds:List (DataW H)} {d:DataW H},d∈ds→∀ n∈d.weights P e,n∈DataW.weightsAll P e ds:=by
 intro ds
 induction ds with
 | nil=>intro d h;cases h
 | cons x r ih=>
  intro d h n hn;simp only[DataW.weightsAll,bK4];rcases bJ3.1 h with rfl | h
  ·exact .inl hn
  ·exact .inr (ih h n hn)
theorem vW{α:Type}[Inhabited α]{s fuel:Nat}{R:List Value→α→Prop}{cs:List Value}{x:DataW H×List MemPlace}(ht:P.underlying t=some (.slice e))(hs:fK P e=some s)(hpos:0<s)(hby:Nat.ble 1 (P.bytesOf e)=true)
  (hE:∀ n cs x,DataW.trod enc P w base spare held n e cs=some x→FI P e x.1→∃ a:α,R cs a) (h:DataW.trod enc P w base spare held fuel t cs=some x) (hz:FI P t x.1):
  ∃ (p:Option Addr) (xs:List α) (cap:Nat),cs=[.slice p xs.length cap]∧xs.length≤reachBytes∧((xs=[])∨∃ b off,p=some ⟨b,off,none⟩∧∀ i,i<xs.length→∃ cs,w.rangeAt b (off+i*s) cs∧cs.length=s∧R cs (xs.getD i default)):=by
 rcases Go.Deep.open_slice ht h with⟨hc,_⟩ | ⟨a,len,cap,m,n,D,Pl,hc,hb,hl,hm,hmm,hxx,hx⟩
 ·exact⟨none,[],0,hc,by simp,.inl rfl⟩
 ·have hnm:len≤m:=by rw[hmm];split<;>omega
  rw[hxx] at hz
  have hlen:len≤reachBytes:=by
   have h1:=hz ((((List.range len).map D).length+((List.range (m-len)).map fun j=>D (len+j)).length)*P.bytesOf e) (by simp[DataW.weights,ht]);have h2:1≤P.bytesOf e:=bM2 hby;simp only[bH7,bO0] at h1
   calc len≤len+(m-len):=by omega
    _=(len+(m-len))*1:=by omega
    _≤(len+(m-len))*P.bytesOf e:=bS' _ h2
    _≤_:=h1
  have hzE:∀ i,i<len→FI P e (D i):=fun i hi n hn=>hz n (by
   simp only[DataW.weights,ht,bJ3,bK4]
   exact .inr (.inl (weightsAll_mem (bI7.2 ⟨i,bJ1.2 hi,rfl⟩) n hn)))
  rw[jE hs] at hx
  have key:∀ i,i<len→∃ y:α,∃ cs,(∀ j v,cs[j]?=some v→w.cell? ((a.add (i*s)).add j)=some v)∧cs.length=s∧R cs y:=by
   intro i hi;obtain⟨cs,h1,h2⟩:=hx i bB3;obtain⟨_,hlen,hc⟩:=World.cells?_some h1;obtain⟨y,hy⟩:=hE _ _ _ h2 (hzE i hi);refine⟨y,cs,fun j v hj=>?_,hlen,hy⟩;have:j<cs.length:=(bJ8.1 hj).1;rw[hc j bB3,hj]
  obtain⟨Y,hY⟩:=Go.Deep.choose_lt (α:=α) (n:=len) (p:=fun i y=>∃ cs,(∀ j v,cs[j]?=some v→w.cell? ((a.add (i*s)).add j)=some v)∧cs.length=s∧R cs y) key;refine⟨some a,(List.range len).map Y,cap,by simpa using hc,by simpa using hlen,?_⟩;by_cases h0:len=0
  ·left;subst h0;rfl
  right
  have hspot:a.spot=none:=by
   obtain⟨cs,h1,h3,_⟩:=hY 0 bB3;have:=World.cell?_spot (h1 0 (cs[0]' bB3) (bH9 _));simpa [Addr.add] using this
  obtain⟨b,off,sp⟩:=a;simp only at hspot;subst hspot;refine⟨b,off,rfl,fun i hi=>?_⟩;simp only[bH7,bO0] at hi;obtain⟨cs,h1,h2,h3⟩:=hY i hi;refine⟨cs,fun j v hj=>?_,h2,by simpa [hi] using h3⟩;have:=h1 j v hj;rwa [Go.Deep.add_add,Addr.add_mid,←bV2] at this
theorem lU{fuel:Nat}{fs:Array Go.Field}{cs:List Value}{x:DataW H×List MemPlace}(ht:P.underlying t=some (.struct fs))(h:DataW.trod enc P w base spare held fuel t cs=some x)(hz:FI P t x.1):
  cs.length=P.cellsOf t∧∃ n:Nat,∀ (i:Nat) (f:Go.Field),fs[i]?=some f→∃ y,DataW.trod enc P w base spare held n f.type ((cs.drop f.offset).take (P.cellsOf f.type))=some y∧FI P f.type y.1:=by
 obtain⟨xs,n,_,rfl,hl,hlen,hf⟩:=DataW.trod_struct ht h;refine⟨hl,n,fun i f hi=>?_⟩;have h1:=hf i f hi;have hlt:i<fs.size:=(bK5.1 hi).1;rw[bH9 bB3] at h1;refine⟨_,h1,fun n hn=>hz n ?_⟩;simp only[DataW.weights,ht];exact DataW.weights_mem_each (j:=i) (t:=f.type) (d:=(xs[i]' bB3).1) (by simp[hi]) (by simp[bH9 (show i<xs.length by omega)]) n hn
end
end
section
structure o8 where
 own:Int
 wit:Int
deriving Inhabited
structure jQ where
 mid:Int
 eu:Int
deriving Inhabited
structure Vg where
 live:Bool
 dying:Bool
 first:Int
 aQ:List Int
 maps:List jQ
deriving Inhabited
structure JR where
 vm:Int
 cpu:Int
deriving Inhabited
structure PtD where
 pages:List o8
 ay:List Vg
 on:List JR
def allB(n:Nat)(p:Nat→Bool):Bool:=(List.range n).all p
theorem aJ{p:Nat→Bool}:allB n p=true↔∀ i,i<n→p i=true:=by
 simp[allB,bH']
namespace PtD
variable (P : PtD)
def pg(f:Nat):o8:=P.pages.getD f default
def gs(i:Nat):Vg:=P.ay.getD i default
def st(c:Nat):JR:=P.on.getD c default
def dD(n a b:Int):Bool:=decide (a≤n)&&decide (n≤b)
def lives(n:Int):Bool:=dD n 1 4&&(P.gs (n-1).toNat).live
def owns(who:Int):Bool:=P.pages.any fun x=>decide (x.own=who)
def uses(who:Int)(f:Nat):Bool:=decide ((P.pg f).own=who)||decide ((P.pg f).wit=who)
def oG(taken:List Int)(f:Nat):Bool:=
 bif decide (f<16)||decide ((P.pg f).own= -1) then (decide ((P.pg f).own= -1)&&decide ((P.pg f).wit= -2))&&(decide (f<16)||taken.any fun t=>decide (t=(f:Int)))
 else bif decide ((P.pg f).own=0) then decide ((P.pg f).wit= -2)||decide ((P.pg f).wit= -1)||P.lives (P.pg f).wit
 else bif dD (P.pg f).own 1 4 then decide ((P.pg f).wit= -2)||(decide ((P.pg f).wit=0)&&P.lives (P.pg f).own) else false
def oH(l:List jQ)(N:Nat)(i:Nat):Bool:=
 dD (l.getD i default).mid 0 15&&(decide (i=0)||decide ((l.getD (i-1) default).mid<(l.getD i default).mid))&&dD (l.getD i default).eu 0 ((N:Int)-1)&&!((l.take i).any fun m=>decide (m.eu=(l.getD i default).eu))
def mapped(i:Nat):Bool:=allB (P.gs i).maps.length (oH (P.gs i).maps P.pages.length)&&allB P.pages.length fun f=>((P.gs i).maps.any fun m=>decide (m.eu=(f:Int))) == P.uses ((i:Int)+1) f
def nC(i:Nat)(v:Nat):Bool:=
 decide ((P.gs i).aQ.getD v 0= -1)||(dD ((P.gs i).aQ.getD v 0) 0 ((P.on.length:Int)-1)&&(decide ((P.st ((P.gs i).aQ.getD v 0).toNat).vm=(i:Int)+1)&&decide ((P.st ((P.gs i).aQ.getD v 0).toNat).cpu=(v:Int))))
def lD(i:Nat):Bool:=
 bif (P.gs i).live then
  !(P.gs i).dying&&dD (P.gs i).first 16 ((P.pages.length:Int)-5)&&decide ((P.gs i).aQ.length≤2)&&P.mapped i &&
  allB 5 (fun k=>decide ((P.pg ((P.gs i).first.toNat+k)).own= -1)&&decide ((P.pg ((P.gs i).first.toNat+k)).wit= -2))&&allB (P.gs i).aQ.length (P.nC i)
 else decide ((P.gs i).aQ.length=0)&&decide ((P.gs i).maps.length=0)&&decide ((P.gs i).first=0)&&((P.gs i).dying == P.owns ((i:Int)+1))
def seated(c:Nat):Bool:=
 bif decide ((P.st c).vm=0) then decide ((P.st c).cpu=0)
 else P.lives (P.st c).vm&&dD (P.st c).cpu 0 (((P.gs ((P.st c).vm-1).toNat).aQ.length:Int)-1)&&decide ((P.gs ((P.st c).vm-1).toNat).aQ.getD (P.st c).cpu.toNat 0=(c:Int))
def rows(i:Nat):List Int:=bif (P.gs i).live then [(P.gs i).first,(P.gs i).first+1,(P.gs i).first+2,(P.gs i).first+3,(P.gs i).first+4] else []
def taken(k:Nat):List Int:=(List.range k).flatMap P.rows
def round(i:Nat):Bool:=P.lD i&&(!(P.gs i).live||allB 5 fun k=>!((P.taken i).any fun t=>decide (t=(P.gs i).first+(k:Int))))
def may:Bool:=
 (decide (24≤P.pages.length)&&decide (P.pages.length≤64))&&decide (P.ay.length=4)&&(decide (1≤P.on.length)&&decide (P.on.length≤3)) &&
 allB 4 P.round&&allB P.pages.length (P.oG (P.taken 4))&&allB P.on.length P.seated
def who(n:Int):Bool:=decide (-1≤n)&&decide (n≤4)
def pR(vm:Int):Bool:=(decide (1≤vm)&&decide (vm≤P.ay.length))&&(P.gs (vm-1).toNat).live
def within(f:Int)(g:Vg):Bool:=g.live&&decide (g.first≤f)&&decide (IntKind.i64.wrap (f-g.first)<5)
def idx{α:Type}(p:α→Bool):List α→Nat→Option Nat
 | [],_=>none
 | x::r,i=>bif p x then some i else idx p r (i+1)
def jF(f:Int):Int:=match idx (within f) P.ay 0 with
 | some i=>(i:Int)+1
 | none=>0
def lF(l:List jQ)(frame:Int):Int:=match idx (fun m=>decide (m.eu=frame)) l 0 with
 | some i=>(i:Int)
 | none=>-1
def BZ(f:Nat):Bool:=decide (f<16)||decide (P.jF f > 0)
def uI(f:Nat):Bool:=
 !(!who (P.pg f).own||(decide ((P.pg f).wit ≠ -2)&&!who (P.pg f).wit)||decide ((P.pg f).wit=(P.pg f).own)) &&
 !((P.BZ f != decide ((P.pg f).own= -1))||(P.BZ f&&decide ((P.pg f).wit ≠ -2))) &&
 !((decide ((P.pg f).own=0)&&decide ((P.pg f).wit > 0)&&!P.pR (P.pg f).wit)||(decide ((P.pg f).own > 0)&&decide ((P.pg f).wit ≠ -2)&&decide ((P.pg f).wit≠0))) &&
 !(decide ((P.pg f).own > 0)&&!(P.gs ((P.pg f).own-1).toNat).live&&(!(P.gs ((P.pg f).own-1).toNat).dying||decide ((P.pg f).wit ≠ -2)))
def II(l:List jQ)(N k:Nat):Bool:=
 !(!(decide (0≤(l.getD k default).mid)&&decide ((l.getD k default).mid≤15))||(decide (k > 0)&&decide ((l.getD (k-1) default).mid ≥ (l.getD k default).mid))||!(decide (0≤(l.getD k default).eu)&&decide ((l.getD k default).eu≤(N:Int)-1))||decide (lF l (l.getD k default).eu≠(k:Int)))
def yE(i k:Nat):Bool:=
 !(decide ((P.gs i).aQ.getD k 0< -1)||decide ((P.gs i).aQ.getD k 0 ≥ P.on.length)||(decide ((P.gs i).aQ.getD k 0 ≥ 0)&&!(decide ((P.st ((P.gs i).aQ.getD k 0).toNat).vm=(i:Int)+1)&&decide ((P.st ((P.gs i).aQ.getD k 0).toNat).cpu=(k:Int)))))
def pU(i j:Nat):Bool:=!((P.gs j).live&&decide ((P.gs j).first<(P.gs i).first+5)&&decide (IntKind.i64.wrap ((P.gs i).first-(P.gs j).first)<5))
def IJ(i f:Nat):Bool:=(decide ((P.pg f).own=(i:Int)+1)||(decide ((P.pg f).own=0)&&decide ((P.pg f).wit=(i:Int)+1))) == decide (lF (P.gs i).maps f ≥ 0)
def oM(i:Nat):Bool:=
 bif (P.gs i).live then
  !((P.gs i).dying||decide ((P.gs i).first<16)||decide ((P.gs i).first > (P.pages.length:Int)-5)||decide ((P.gs i).aQ.length > 2)) &&
  allB 5 (fun k=>decide (P.jF ((P.gs i).first+k)=(i:Int)+1))&&allB (P.ay.length-(i+1)) (fun k=>P.pU i (i+1+k)) &&
  allB (P.gs i).aQ.length (P.yE i)&&allB (P.gs i).maps.length (II (P.gs i).maps P.pages.length)&&allB P.pages.length (P.IJ i)
 else decide ((P.gs i).first=0)&&decide ((P.gs i).aQ.length=0)&&decide ((P.gs i).maps.length=0)&&((P.gs i).dying == P.owns ((i:Int)+1))
def uJ(c:Nat):Bool:=
 !((decide ((P.st c).vm=0)&&decide ((P.st c).cpu≠0))||(decide ((P.st c).vm≠0)&&(!P.pR (P.st c).vm||decide ((P.st c).cpu<0)||decide ((P.st c).cpu ≥ ((P.gs ((P.st c).vm-1).toNat).aQ.length:Int))||decide ((P.gs ((P.st c).vm-1).toNat).aQ.getD (P.st c).cpu.toNat 0≠(c:Int)))))
def DX:Bool:=
 !(decide (P.pages.length<24)||decide (P.pages.length > 64)||decide (P.ay.length≠4)||decide (P.on.length<1)||decide (P.on.length > 3)) &&
 allB P.pages.length P.uI&&allB 4 P.oM&&allB P.on.length P.uJ
end PtD
end
section
namespace PtD
variable {P : PtD}
theorem pV{α:Type}[Inhabited α]{p:α→Bool}:∀ {l:List α} {i k:Nat},idx p l i=some k→i≤k∧k-i<l.length∧p (l.getD (k-i) default)=true∧∀ j,j<k-i→p (l.getD j default)=false:=by
 intro l
 induction l with
 | nil=>intro i k h;cases h
 | cons x r ih=>
  intro i k h;simp only[idx] at h
  cases hp:p x with
  | true=>
   rw[hp] at h;simp only[cond_true,bK0] at h;subst h
   refine⟨bI9 _,by simp,by simpa using hp,fun j hj=>by omega⟩
  | false=>
   rw[hp] at h;obtain⟨h1,h2,h3,h4⟩:=ih h;have e:k-i=(k-(i+1))+1:=by omega
   refine⟨by omega,by simp;omega,by rw[e];simpa using h3,fun j hj=>?_⟩
   cases j with
   | zero=>simpa using hp
   | succ j=>have:=h4 j bB3;simpa using this
theorem yF{α:Type}[Inhabited α]{p:α→Bool}:∀ {l:List α} {i:Nat},idx p l i=none→∀ j,j<l.length→p (l.getD j default)=false:=by
 intro l
 induction l with
 | nil=>intro i h j hj;simp at hj
 | cons x r ih=>
  intro i h j hj;simp only[idx] at h
  cases hp:p x with
  | true=>rw[hp] at h;cases h
  | false=>
   rw[hp] at h
   cases j with
   | zero=>simpa using hp
   | succ j=>have:=ih h j (by simp at hj;omega);simpa using this
theorem DY[Inhabited α]{p:α→Bool}{l:List α}(hk:k<l.length)(h:p (l.getD k default)=true):idx p l 0=some k↔∀ j,j<k→p (l.getD j default)=false:=by
 constructor
 ·intro e;have:=pV e;simpa using this.2.2.2
 ·intro hj
  cases e:idx p l 0 with
  | none=>have:=yF e k hk;rw[h] at this;cases this
  | some m=>
   obtain⟨_,h2,h3,h4⟩:=pV e;simp only[bW1] at h2 h3 h4;rcases Nat.lt_trichotomy m k with hlt | rfl | hgt
   ·have:=hj m hlt;rw[h3] at this;cases this
   ·rfl
   ·have:=h4 k hgt;rw[h] at this;cases this
theorem IK[Inhabited α]{p:α→Bool}{l:List α}:(idx p l 0).isSome=l.any p:=by
 rw[bI2,bM8];constructor
 ·intro h;obtain⟨k,e⟩:=Option.isSome_iff_exists.1 h;obtain⟨_,h2,h3,_⟩:=pV e;simp only[bW1] at h2 h3;refine⟨_,?_,h3⟩;rw[bH8,bH9 h2];simp
 ·rintro⟨x,hx,hp⟩
  cases e:idx p l 0 with
  | some k=>rfl
  | none=>
   obtain⟨j,hj,rfl⟩:=bM4.1 hx;have:=yF e j hj;rw[bH8,bH9 hj] at this;simp[hp] at this
structure Ok(P:PtD):Prop where
 n0:24≤P.pages.length
 n1:P.pages.length≤64
 g4:P.ay.length=4
 o1:1≤P.on.length
 o3:P.on.length≤3
 dead:∀ i,i<4→(P.gs i).live=false→(P.gs i).aQ.length=0∧(P.gs i).maps.length=0∧(P.gs i).first=0∧(P.gs i).dying=P.owns ((i:Int)+1)
 WE:∀ i,i<4→(P.gs i).live=true→(P.gs i).dying=false∧16≤(P.gs i).first∧(P.gs i).first≤(P.pages.length:Int)-5∧(P.gs i).aQ.length≤2∧(∀ v,v<(P.gs i).aQ.length→P.nC i v=true) ∧
  (∀ k,k<(P.gs i).maps.length→oH (P.gs i).maps P.pages.length k=true)∧(∀ f,f<P.pages.length→((P.gs i).maps.any fun m=>decide (m.eu=(f:Int)))=P.uses ((i:Int)+1) f)
 apart:∀ i j,i<j→j<4→(P.gs i).live=true→(P.gs j).live=true→(P.gs i).first+5≤(P.gs j).first∨(P.gs j).first+5≤(P.gs i).first
 hyp:∀ f,f<P.pages.length→((P.pg f).own= -1↔(f<16∨∃ i,i<4∧(P.gs i).live=true∧(P.gs i).first≤f∧f<(P.gs i).first+5))
 Ob:∀ f,f<P.pages.length→(P.pg f).own= -1→(P.pg f).wit= -2
 who:∀ f,f<P.pages.length→-1≤(P.pg f).own∧(P.pg f).own≤4
 host:∀ f,f<P.pages.length→(P.pg f).own=0→(P.pg f).wit= -2∨(P.pg f).wit= -1∨P.lives (P.pg f).wit=true
 Gq:∀ f,f<P.pages.length→0<(P.pg f).own→(P.pg f).wit= -2∨((P.pg f).wit=0∧P.lives (P.pg f).own=true)
 seat:∀ c,c<P.on.length→P.seated c=true
theorem vX{x:Int}:((P.taken k).any fun t=>decide (t=x))=true↔∃ i,i<k∧(P.gs i).live=true∧(P.gs i).first≤x∧x<(P.gs i).first+5:=by
 simp only[taken,bM8,List.mem_flatMap,bJ1,decide_eq_true_eq];constructor
 ·rintro⟨t,⟨i,hi,hm⟩,rfl⟩;unfold rows at hm
  cases hl:(P.gs i).live with
  | false=>rw[hl] at hm;simp at hm
  | true=>
   rw[hl] at hm;simp only[cond_true,bJ3,bR5,or_false] at hm;exact⟨i,hi,hl,by omega,by omega⟩
 ·rintro⟨i,hi,hl,h1,h2⟩;refine⟨x,⟨i,hi,?_⟩,rfl⟩;unfold rows;rw[hl];simp only[cond_true,bJ3,bR5,or_false];omega
theorem sQ:P.may=true↔Ok P:=by
 constructor
 ·intro h;simp only[may,bH6,decide_eq_true_eq,aJ] at h;obtain⟨⟨⟨⟨⟨⟨h0,h1⟩,hg⟩,ho,ho'⟩,hr⟩,hp⟩,hs⟩:=h;have WG:∀ i,i<4→P.lD i=true:=fun i hi=>by have:=hr i hi;simp only[round,bH6] at this;exact this.1
  have hfresh:∀ i,i<4→(P.gs i).live=true→∀ k:Nat,k<5→¬ ∃ j,j<i∧(P.gs j).live=true∧(P.gs j).first≤(P.gs i).first+(k:Int)∧(P.gs i).first+(k:Int)<(P.gs j).first+5:=by
   intro i hi hl k hk;have:=hr i hi;simp only[round,bH6,hl,bK1,bL3,aJ] at this;have:=this.2 k hk;rw[←vX];intro hc;rw[hc] at this;cases this
  have hlive:∀ i,i<4→(P.gs i).live=true→_:=fun i hi hl=>by
   have:=WG i hi;simp only[lD,hl,cond_true,bH6,decide_eq_true_eq,aJ,dD,bJ6,mapped,beq_iff_eq] at this;exact this
  refine⟨h0,h1,hg,ho,ho',?_,?_,?_,?_,?_,?_,?_,?_,hs⟩
  ·intro i hi hl;have:=WG i hi;simp only[lD,hl,cond_false,bH6,decide_eq_true_eq,beq_iff_eq] at this;exact⟨this.1.1.1,this.1.1.2,this.1.2,this.2⟩
  ·intro i hi hl;obtain⟨⟨⟨⟨⟨a,b⟩,c⟩,d,d'⟩,e⟩,f⟩:=hlive i hi hl;exact⟨a,b.1,b.2,c,f,d,d'⟩
  ·intro i j hij hj hi' hj';have k0:=hfresh j hj hj' 0 bB3;have k4:=hfresh j hj hj' 4 bB3;rcases Int.lt_or_le (P.gs j).first ((P.gs i).first+5) with hlt | hge
   ·right;rcases Int.lt_or_le (P.gs i).first ((P.gs j).first+5) with h2 | h2
    ·exfalso;rcases Int.lt_or_le (P.gs j).first (P.gs i).first with h3 | h3
     ·exact k4 ⟨i,hij,hi',by omega,by omega⟩
     ·exact k0 ⟨i,hij,hi',by omega,by omega⟩
    ·omega
   ·exact .inl hge
  ·intro f hf;have:=hp f hf;simp only[oG] at this;constructor
   ·intro ho1;simp only[ho1,decide_true,Bool.or_true,cond_true,bH6,decide_eq_true_eq,bJ7] at this;rcases this.2 with h | h
    ·exact .inl h
    ·exact .inr ((vX (x:=(f:Int))).1 h)
   ·rintro (h16 | ⟨i,hi,hl,hf1,hf2⟩)
    ·simp only[h16,decide_true,bZ5,cond_true,bH6,decide_eq_true_eq] at this;exact this.1.1
    ·obtain⟨⟨⟨⟨⟨a,b⟩,c⟩,d,d'⟩,e⟩,f'⟩:=hlive i hi hl;have:=e (f-(P.gs i).first.toNat) bB3;rw[show (P.gs i).first.toNat+(f-(P.gs i).first.toNat)=f by omega] at this;exact this.1
  ·intro f hf ho1;have:=hp f hf;simp only[oG,ho1,decide_true,Bool.or_true,cond_true,bH6,decide_eq_true_eq] at this;exact this.1.2
  ·intro f hf;have:=hp f hf;simp only[oG] at this;by_cases h16:f<16∨(P.pg f).own= -1
   ·have e:(decide (f<16)||decide ((P.pg f).own= -1))=true:=by simpa using h16
    rw[e] at this;simp only[cond_true,bH6,decide_eq_true_eq] at this;omega
   ·have e:(decide (f<16)||decide ((P.pg f).own= -1))=false:=by simpa using h16
    rw[e] at this;simp only[cond_false] at this;by_cases h0:(P.pg f).own=0
    ·omega
    ·simp only[h0,decide_false,cond_false] at this
     cases hb:dD (P.pg f).own 1 4 with
     | false=>rw[hb] at this;simp at this
     | true=>simp only[dD,bH6,decide_eq_true_eq] at hb;omega
  ·intro f hf ho0;have:=hp f hf;simp only[oG,ho0] at this
   cases h16:decide (f<16) with
   | true=>rw[h16] at this;simp at this
   | false=>rw[h16] at this;simpa [or_assoc] using this
  ·intro f hf ho0;have:=hp f hf;simp only[oG] at this
   cases h16:(decide (f<16)||decide ((P.pg f).own= -1)) with
   | true=>rw[h16] at this;simp only[cond_true,bH6,decide_eq_true_eq] at this;omega
   | false=>
    rw[h16] at this;simp only[cond_false,show ¬ (P.pg f).own=0 by omega,decide_false] at this
    cases hb:dD (P.pg f).own 1 4 with
    | false=>rw[hb] at this;simp at this
    | true=>rw[hb] at this;simpa using this
 ·intro h;simp only[may,bH6,decide_eq_true_eq,aJ];refine⟨⟨⟨⟨⟨⟨h.n0,h.n1⟩,h.g4⟩,h.o1,h.o3⟩,?_⟩,?_⟩,h.seat⟩
  ·intro i hi;simp only[round,bH6]
   cases hl:(P.gs i).live with
   | false=>
    obtain⟨a,b,c,d⟩:=h.dead i hi hl
    simp[lD,hl,a,b,c,d]
   | true=>
    obtain⟨a,b,c,d,e,f,g⟩:=h.WE i hi hl;simp only[lD,hl,cond_true,bH6,decide_eq_true_eq,aJ,dD,bJ6,mapped,beq_iff_eq,bK1,bL3];refine⟨⟨⟨⟨⟨⟨a,b,c⟩,d⟩,f,g⟩,?_⟩,e⟩,?_⟩
    ·intro k hk;have hlt:(P.gs i).first.toNat+k<P.pages.length:=by omega
     have ho1:=(h.hyp _ hlt).2 (.inr ⟨i,hi,hl,by omega,by omega⟩);exact⟨ho1,h.Ob _ hlt ho1⟩
    ·intro k hk
     cases ht:((P.taken i).any fun t=>decide (t=(P.gs i).first+(k:Int))) with
     | false=>rfl
     | true=>
      exfalso;obtain⟨j,hj,hlj,h1,h2⟩:=vX.1 ht;rcases h.apart j i hj hi hlj hl with h3 | h3<;>omega
  ·intro f hf;simp only[oG]
   cases h16:(decide (f<16)||decide ((P.pg f).own= -1)) with
   | true=>
    simp only[cond_true,bH6,decide_eq_true_eq,bJ7] at h16 ⊢
    have ho1:(P.pg f).own= -1:=by
     rcases h16 with h16 | h16
     ·exact (h.hyp f hf).2 (.inl h16)
     ·exact h16
    refine⟨⟨ho1,h.Ob f hf ho1⟩,?_⟩;rcases (h.hyp f hf).1 ho1 with h2 | h2
    ·exact .inl h2
    ·exact .inr ((vX (x:=(f:Int))).2 h2)
   | false=>
    simp only[cond_false];by_cases h0:(P.pg f).own=0
    ·simp only[h0,decide_true,cond_true];have:=h.host f hf h0;simpa [or_assoc] using this
    ·have hw:=h.who f hf;simp only[bK9,decide_eq_false_iff_not] at h16;have hb:dD (P.pg f).own 1 4=true:=by simp only[dD,bH6,decide_eq_true_eq];omega
     simp only[h0,decide_false,cond_false,hb,cond_true];have:=h.Gq f hf bB3;simpa using this
end PtD
end
section
namespace PtD
variable {P : PtD}
theorem DZ{l:List jQ}{f:Int}:decide (lF l f ≥ 0)=l.any fun m=>decide (m.eu=f):=by
 rw[←IK];unfold lF
 cases idx (fun m=>decide (m.eu=f)) l 0 with
 | none=>simp
 | some k=>simp
theorem Oc{l:List jQ}(hk:k<l.length):lF l (l.getD k default).eu=(k:Int)↔((l.take k).any fun m=>decide (m.eu=(l.getD k default).eu))=false:=by
 have h:=DY (p:=fun m=>decide (m.eu=(l.getD k default).eu)) hk bB5
 have e1:lF l (l.getD k default).eu=(k:Int)↔idx (fun m=>decide (m.eu=(l.getD k default).eu)) l 0=some k:=by
  unfold lF
  cases idx (fun m=>decide (m.eu=(l.getD k default).eu)) l 0 with
  | none=>simp<;>omega
  | some j=>simp<;>omega
 rw[e1,h,bS8];constructor
 ·intro hj x hx;obtain⟨j,hj2,rfl⟩:=bM4.1 hx;simp only[bK'] at hj2;have:=hj j bB3;rw[bU2];rw[bH8,bH9 bB3] at this;simpa using this
 ·intro hx j hj
  have:=hx (l.getD j default) (by
   rw[bH8,bH9 bB3]
   exact bM4.2 ⟨j,by simp;omega,by simp⟩)
  simpa using this
theorem QG{l:List jQ}{N:Nat}(hk:k<l.length):II l N k=oH l N k:=by
 have h:=Oc hk;rw[bI2];unfold II oH dD
 cases ha:((l.take k).any fun m=>decide (m.eu=(l.getD k default).eu)) with
 | false=>
  have:=h.2 ha;simp only[this,bJ6,bK9,bH6,bJ7,decide_eq_true_eq,decide_eq_false_iff_not,bK6,bN7,bL1,ne_eq,not_true_eq_false,and_true];generalize (l.getD k default).mid=a,(l.getD k default).eu=b,(l.getD (k-1) default).mid=c;constructor
  ·rintro⟨⟨⟨h1,h2⟩,h3⟩,h4⟩<;>omega
  ·rintro⟨⟨h1,h2⟩,h3⟩
   exact⟨⟨⟨h1,by omega⟩,h3⟩,id⟩
 | true=>
  have:lF l (l.getD k default).eu≠(k:Int):=fun e=>by have:=h.1 e;rw[ha] at this;cases this
  simp only[this,bJ6,bK9,bH6,bJ7,decide_eq_true_eq,decide_eq_false_iff_not,bK6,bN7,bK1,ne_eq,not_true_eq_false,and_false,bO6,not_false_eq_true]
theorem KC:P.yE i k=P.nC i k:=by
 rw[bI2];unfold yE nC dD;generalize (P.gs i).aQ.getD k 0=c;simp only[bJ6,bK9,bH6,bJ7,decide_eq_true_eq,decide_eq_false_iff_not,bK6,bN7];omega
theorem zV(g4:P.ay.length=4){vm:Int}:P.pR vm=P.lives vm:=by
 rw[bI2];unfold pR lives dD;simp only[bH6,decide_eq_true_eq,g4];constructor<;>(rintro⟨⟨a,b⟩,c⟩;exact⟨⟨by omega,by omega⟩,c⟩)
theorem KD(g4:P.ay.length=4){c:Nat}:P.uJ c=P.seated c:=by
 rw[bI2];unfold uJ seated dD;rw[zV g4];by_cases h:(P.st c).vm=0
 ·simp only[h,decide_true,cond_true,ne_eq,not_true_eq_false,decide_false,bR7,bU3,bI6,bJ6,decide_eq_false_iff_not,decide_eq_true_eq,bV4]
 ·simp only[h,decide_false,cond_false,ne_eq,not_false_eq_true,decide_true,bR7,bL3,bI6]
  cases hl:P.lives (P.st c).vm with
  | false=>simp
  | true=>
   simp only[bK1,bL3,bI6,bJ6,bK9,decide_eq_false_iff_not,bH6,decide_eq_true_eq,bV4];omega
def D5(P:PtD):Prop:=∀ i,i<4→(P.gs i).live=true→16≤(P.gs i).first∧(P.gs i).first≤59
theorem within_iff(h:D5 P){f:Int}(h0:0≤f)(h1:f≤64)(hi:i<4):within f (P.gs i)=true↔((P.gs i).live=true∧(P.gs i).first≤f∧f<(P.gs i).first+5):=by
 unfold within
 cases hl:(P.gs i).live with
 | false=>simp
 | true=>
  have:=h i hi hl;rw[wrap_in bB3 bB3];simp only[bI6,bH6,decide_eq_true_eq,true_and];omega
theorem Bz(h:D5 P)(g4:P.ay.length=4){f:Int}(h0:0≤f)(h1:f≤64):P.jF f > 0↔∃ i,i<4∧(P.gs i).live=true∧(P.gs i).first≤f∧f<(P.gs i).first+5:=by
 unfold jF
 cases e:idx (within f) P.ay 0 with
 | none=>
  have hn:=yF e;simp only[show ¬ ((0:Int) > 0) by omega,false_iff];rintro⟨i,hi,hw⟩;have h2:=(within_iff h h0 h1 hi).2 hw;have h3:=hn i bB3;rw[show P.ay.getD i default=P.gs i from rfl,h2] at h3
  cases h3
 | some k=>
  obtain⟨_,h2,h3,_⟩:=pV e;simp only[bW1] at h2 h3;refine⟨fun _=>⟨k,by omega,(within_iff h h0 h1 bB3).1 h3⟩,fun _=>by show (k:Int)+1 > 0;omega⟩
theorem Oe(h:D5 P)(g4:P.ay.length=4){f:Int}(h0:0≤f)(h1:f≤64)(hi:i<4)(hw:(P.gs i).live=true∧(P.gs i).first≤f∧f<(P.gs i).first+5):
  P.jF f=(i:Int)+1↔∀ j,j<i→¬ ((P.gs j).live=true∧(P.gs j).first≤f∧f<(P.gs j).first+5):=by
 have key:=DY (p:=within f) (l:=P.ay) (k:=i) bB3 ((within_iff h h0 h1 hi).2 hw)
 have e1:P.jF f=(i:Int)+1↔idx (within f) P.ay 0=some i:=by
  unfold jF
  cases idx (within f) P.ay 0 with
  | none=>simp<;>omega
  | some j=>simp<;>omega
 rw[e1,key];constructor
 ·intro hj j hji hc;have h2:=(within_iff h h0 h1 (by omega:j<4)).2 hc;have h3:=hj j hji;rw[show P.ay.getD j default=P.gs j from rfl,h2] at h3;cases h3
 ·intro hj j hji
  cases hb:within f (P.ay.getD j default) with
  | false=>rfl
  | true=>exact absurd ((within_iff h h0 h1 (by omega:j<4)).1 hb) (hj j hji)
theorem aa2:P.DX=true↔Ok P:=by
 constructor
 ·intro h;simp only[DX,bH6,bJ6,bK9,decide_eq_false_iff_not,aJ,ne_eq,bV4] at h;obtain⟨⟨⟨⟨⟨⟨⟨n0,n1⟩,g4⟩,o1⟩,o3⟩,hp⟩,hg⟩,hs⟩:=h
  have hlive:∀ i,i<4→(P.gs i).live=true→_:=fun i hi hl=>by
   have:=hg i hi;simp only[oM,hl,cond_true,bH6,bJ6,bK9,decide_eq_true_eq,decide_eq_false_iff_not,aJ,g4] at this;exact this
  have hF:D5 P:=fun i hi hl=>by
   obtain⟨⟨⟨⟨⟨⟨⟨⟨a,b⟩,c⟩,d⟩,e⟩,f⟩,g⟩,m⟩,u⟩:=hlive i hi hl;omega
  have WH:∀ f,f<P.pages.length→(P.BZ f=true↔(f<16∨∃ i,i<4∧(P.gs i).live=true∧(P.gs i).first≤f∧f<(P.gs i).first+5)):=by
   intro f hf;simp only[BZ,bJ7,decide_eq_true_eq];rw[Bz hF g4 bB3 bB3]
  have Gs:∀ f,f<P.pages.length→_:=fun f hf=>by
   have:=hp f hf;simp only[uI,bH6,bJ6,bK9] at this;exact this
  have hown:∀ f,f<P.pages.length→((P.pg f).own= -1↔P.BZ f=true):=by
   intro f hf;obtain⟨⟨⟨⟨⟨a,b⟩,c⟩,d,e⟩,g,k⟩,m⟩:=Gs f hf;simp only[bne_eq_false_iff_eq] at d;rw[d,decide_eq_true_eq]
  have hw2:∀ f,f<P.pages.length→(P.pg f).own= -1→(P.pg f).wit= -2:=by
   intro f hf ho;obtain⟨⟨⟨⟨⟨a,b⟩,c⟩,d,e⟩,g,k⟩,m⟩:=Gs f hf;rw[(hown f hf).1 ho] at e;simpa using e
  have aI7:∀ f,f<P.pages.length→0<(P.pg f).own→(P.pg f).wit= -2∨((P.pg f).wit=0∧P.lives (P.pg f).own=true):=by
   intro f hf ho;obtain⟨⟨⟨⟨⟨a,b⟩,c⟩,d,e⟩,g,k⟩,m⟩:=Gs f hf;simp only[who,bK6,bH6,decide_eq_true_eq] at a;simp only[show (P.pg f).own > 0 from ho,decide_true,bI6,bN7,decide_eq_false_iff_not,ne_eq,bV4,bK6,bK9] at k m;rcases k with k | k
   ·exact .inl k
   ·rcases m with m | m
    ·refine .inr ⟨k,?_⟩;simp only[lives,dD,bH6,decide_eq_true_eq];exact⟨by omega,m⟩
    ·exact .inl m.2
  refine⟨by omega,by omega,g4,by omega,by omega,?_,?_,?_,?_,hw2,?_,?_,aI7,?_⟩
  ·intro i hi hl;have:=hg i hi;simp only[oM,hl,cond_false,bH6,decide_eq_true_eq,beq_iff_eq] at this;exact⟨this.1.1.2,this.1.2,this.1.1.1,this.2⟩
  ·intro i hi hl;obtain⟨⟨⟨⟨⟨⟨⟨⟨a,b⟩,c⟩,d⟩,e⟩,f⟩,g⟩,m⟩,u⟩:=hlive i hi hl;refine⟨a,by omega,by omega,by omega,fun v hv=>by rw[←KC];exact g v hv,fun k hk=>by rw[←QG hk];exact m k hk,fun f' hf'=>?_⟩;have:=u f' hf';simp only[IJ,beq_iff_eq] at this;rw[DZ] at this;rw[←this,bI2];simp only[uses,bJ7,bH6,decide_eq_true_eq];constructor
   ·rintro (h | ⟨h,h2⟩)
    ·exact .inl h
    ·exact .inr h2
   ·rintro (h | h)
    ·exact .inl h
    ·by_cases h0:(P.pg f').own=0
     ·exact .inr ⟨h0,h⟩
     ·obtain⟨⟨⟨⟨⟨a1,_⟩,_⟩,_,_⟩,_,_⟩,_⟩:=Gs f' hf';simp only[who,bK6,bH6,decide_eq_true_eq] at a1;by_cases h1:(P.pg f').own= -1
      ·have:=hw2 f' hf' h1;omega
      ·rcases aI7 f' hf' bB3 with h3 | ⟨h3,_⟩<;>omega
  ·intro i j hij hj hi' hj';obtain⟨⟨⟨⟨⟨⟨⟨⟨a,b⟩,c⟩,d⟩,e⟩,f⟩,g⟩,m⟩,u⟩:=hlive i bB3 hi';have:=f (j-(i+1)) bB3;rw[show i+1+(j-(i+1))=j by omega] at this;have hf1:=hF i bB3 hi';have hf2:=hF j hj hj';simp only[pU,hj',bI6,bJ6,bN7,decide_eq_false_iff_not] at this;rw[wrap_in bB3 bB3] at this;omega
  ·intro f hf;rw[hown f hf,WH f hf]
  ·intro f hf;obtain⟨⟨⟨⟨⟨a,b⟩,c⟩,d,e⟩,g,k⟩,m⟩:=Gs f hf;simp only[who,bK6,bH6,decide_eq_true_eq] at a;exact a
  ·intro f hf ho;obtain⟨⟨⟨⟨⟨a,b⟩,c⟩,d,e⟩,g,k⟩,m⟩:=Gs f hf;simp only[who,bN7,bK6,bH6,decide_eq_true_eq,decide_eq_false_iff_not,ne_eq,bV4,ho,zV g4] at b c g;by_cases h2:(P.pg f).wit= -2
   ·exact .inl h2
   ·by_cases h1:(P.pg f).wit= -1
    ·exact .inr (.inl h1)
    ·right;right;rcases g with (g | g) | g
     ·exact absurd trivial g
     ·omega
     ·exact g
  ·intro c hc;rw[←KD g4];exact hs c hc
 ·intro h;have hF:D5 P:=fun i hi hl=>by obtain⟨a,b,c,_⟩:=h.WE i hi hl;have:=h.n1;omega
  have hn1:=h.n1
  have WH:∀ f,f<P.pages.length→(P.BZ f=true↔(P.pg f).own= -1):=by
   intro f hf;rw[h.hyp f hf];simp only[BZ,bJ7,decide_eq_true_eq];rw[Bz hF h.g4 bB3 bB3]
  simp only[DX,bH6,bJ6,bK9,decide_eq_false_iff_not,aJ,ne_eq,bV4];refine⟨⟨⟨⟨⟨⟨⟨by have:=h.n0;omega,by omega⟩,h.g4⟩,by have:=h.o1;omega⟩,by have:=h.o3;omega⟩,?_⟩,?_⟩,fun c hc=>by rw[KD h.g4];exact h.seat c hc⟩
  ·intro f hf;have hw:=h.who f hf;have e1:P.BZ f=decide ((P.pg f).own= -1):=by rw[bI2,WH f hf,decide_eq_true_eq]
   simp only[uI,e1,zV h.g4,who];by_cases ho:(P.pg f).own= -1
   ·have:=h.Ob f hf ho;simp[ho,this]
   ·by_cases h0:(P.pg f).own=0
    ·have hh:=h.host f hf h0;simp only[lives,dD,bH6,decide_eq_true_eq] at hh;rcases hh with hh | hh | hh
     ·simp[h0,hh]
     ·simp[h0,hh]
     ·have h2:¬ (P.pg f).wit= -2:=by omega
      have h3:¬ (P.pg f).wit=0:=by omega
      have h4:(P.pg f).wit > 0:=by omega
      have h5:P.lives (P.pg f).wit=true:=by simp only[lives,dD,bH6,decide_eq_true_eq];exact hh
      have h6:-1≤(P.pg f).wit:=by omega
      have h7:(P.pg f).wit≤4:=by omega
      simp[h0,h2,h3,h4,h5,h6,h7]
    ·have hpos:(P.pg f).own > 0:=by omega
     have hh:=h.Gq f hf hpos;rcases hh with hh | ⟨hh,hl⟩
     ·have hd:(P.gs ((P.pg f).own-1).toNat).live=true∨(P.gs ((P.pg f).own-1).toNat).dying=true:=by
       cases hl:(P.gs ((P.pg f).own-1).toNat).live with
       | true=>exact .inl rfl
       | false=>
        right;have:=(h.dead ((P.pg f).own-1).toNat bB3 hl).2.2.2;rw[this];simp only[owns,bM8,decide_eq_true_eq];refine⟨P.pg f,?_,by omega⟩;unfold pg;rw[bH8,bH9 hf];simp
      have h8:¬ (-2:Int)=(P.pg f).own:=by omega
      generalize P.gs ((P.pg f).own-1).toNat=G at hd ⊢;rcases hd with hd | hd<;>simp[hh,ho,h0,hd,hw.1,hw.2,hpos,h8]
     ·have h5:(P.gs ((P.pg f).own-1).toNat).live=true:=by simp only[lives,bH6] at hl;exact hl.2
      have h8:¬ (0:Int)=(P.pg f).own:=by omega
      generalize P.gs ((P.pg f).own-1).toNat=G at h5 ⊢;simp[hh,ho,h0,h5,hw.1,hw.2,hpos,h8]
  ·intro i hi
   cases hl:(P.gs i).live with
   | false=>
    obtain⟨a,b,c,d⟩:=h.dead i hi hl
    simp[oM,hl,a,b,c,d]
   | true=>
    obtain⟨a,b,c,d,e,m,u⟩:=h.WE i hi hl;simp only[oM,hl,cond_true,bH6,bJ6,bK9,decide_eq_true_eq,decide_eq_false_iff_not,aJ,h.g4];refine⟨⟨⟨⟨⟨⟨⟨⟨a,by omega⟩,by omega⟩,by omega⟩,?_⟩,?_⟩,fun v hv=>by rw[KC];exact e v hv⟩,fun k hk=>by rw[QG hk];exact m k hk⟩,?_⟩
    ·intro k hk;rw[Oe hF h.g4 bB3 bB3 hi ⟨hl,by omega,by omega⟩];rintro j hj ⟨hlj,h1,h2⟩;rcases h.apart j i hj hi hlj hl with h3 | h3<;>omega
    ·intro k hk
     cases hlj:(P.gs (i+1+k)).live with
     | false=>simp[pU,hlj]
     | true=>
      have hf1:=hF i hi hl;have hf2:=hF (i+1+k) bB3 hlj;have:=h.apart i (i+1+k) bB3 bB3 hl hlj;simp only[pU,hlj,bI6,bJ6,bN7,decide_eq_false_iff_not];rw[wrap_in bB3 bB3];omega
    ·intro f hf;simp only[IJ,beq_iff_eq];rw[DZ,u f hf,bI2];simp only[uses,bJ7,bH6,decide_eq_true_eq];constructor
     ·rintro (h | ⟨h,h2⟩)
      ·exact .inl h
      ·exact .inr h2
     ·rintro (h1 | h1)
      ·exact .inl h1
      ·have hw:=h.who f hf;by_cases h0:(P.pg f).own=0
       ·exact .inr ⟨h0,h1⟩
       ·by_cases h2:(P.pg f).own= -1
        ·have:=h.Ob f hf h2;omega
        ·rcases h.Gq f hf bB3 with h3 | ⟨h3,_⟩<;>omega
theorem av1:P.may=P.DX:=by rw[bI2,sQ,aa2]
end PtD
end
section
theorem cO{o:Nat}(h:w.rangeAt b o vs)(hv:nth vs k=some v):w.cell? ⟨b,o+k,none⟩=some v:=by
 rw[mZ] at hv;exact h k v (by simpa using hv)
theorem aj{o:Nat}{r:List Value}(h:w.rangeAt b o (v::r)):w.cell? ⟨b,o,none⟩=some v:=by simpa using h 0 v rfl
theorem Good.range(h:Good w0 mu hp w){o:Nat}(hr:w0.rangeAt b o vs)(hm:b∉mu):w.rangeAt b o vs:=fun j v hj=>h.cell (hr j v hj) hm
structure aA(w:World)(v:Value)(sz:Nat)(xs:List (List Value)):Prop where
 is:∃ p cap,v=.slice p xs.length cap∧(xs≠[]→∃ b off,p=some ⟨b,off,none⟩∧∀ i c,xs[i]?=some c→w.rangeAt b (off+i*sz) c)
 le:xs.length≤281474976710656
theorem aA.good{w':World}(h:aA w v sz xs)(hG:Good w [] hp w'):aA w' v sz xs:=by
 obtain⟨⟨p,cap,rfl,hp⟩,hl⟩:=h;refine⟨⟨p,cap,rfl,fun hne=>?_⟩,hl⟩;obtain⟨b,off,rfl,hr⟩:=hp hne;exact⟨b,off,rfl,fun i c hc=>hG.range (hr i c hc) bB5⟩
theorem Acc.aI8{ha:Hp}(hA:Acc e sz v ha xs)(hG:Good w0 mu hp w)(hm:∀ b∈ha,b∈hp)(hle:xs.length≤281474976710656):aA w v sz xs:=⟨hA.rows hG hm,hle⟩
def sS(x:o8):List Value:=[.int .i64 x.own,.int .i64 x.wit]
def eF(x:jQ):List Value:=[.int .i64 x.mid,.int .i64 x.eu]
def yG(x:JR):List Value:=[.int .i64 x.vm,.int .i64 x.cpu]
def bY(x:Int):List Value:=[.int .i64 x]
structure JS where
 pb:Nat
 po:Nat
 pc:Nat
 gb:Nat
 go:Nat
 gc:Nat
 ob:Nat
 oo:Nat
 oc:Nat
 vv:Nat→Value
 mv:Nat→Value
abbrev JS.pv(L:JS)(n:Nat):Value:=.slice (some ⟨L.pb,L.po,none⟩) n L.pc
abbrev JS.gv(L:JS)(n:Nat):Value:=.slice (some ⟨L.gb,L.go,none⟩) n L.gc
abbrev JS.ov(L:JS)(n:Nat):Value:=.slice (some ⟨L.ob,L.oo,none⟩) n L.oc
def I64(v:Int):Prop:= -9223372036854775808≤v∧v≤9223372036854775807
structure PtD.Wf(P:PtD):Prop where
 pg:∀ f,f<P.pages.length→I64 (P.pg f).own∧I64 (P.pg f).wit
 gs:∀ i,i<P.ay.length→I64 (P.gs i).first∧(∀ x∈(P.gs i).aQ,I64 x)∧(∀ x∈(P.gs i).maps,I64 x.mid∧I64 x.eu)
 st:∀ c,c<P.on.length→I64 (P.st c).vm∧I64 (P.st c).cpu
structure jl(w:World)(L:JS)(P:PtD):Prop where
 pg:∀ i,i<P.pages.length→w.rangeAt L.pb (L.po+i*2) [.int .i64 (P.pg i).own,.int .i64 (P.pg i).wit]
 gs:∀ i,i<P.ay.length→w.rangeAt L.gb (L.go+i*5) [.bool (P.gs i).live,.bool (P.gs i).dying,.int .i64 (P.gs i).first,L.vv i,L.mv i]
 vc:∀ i,i<P.ay.length→aA w (L.vv i) 1 ((P.gs i).aQ.map bY)
 mp:∀ i,i<P.ay.length→aA w (L.mv i) 2 ((P.gs i).maps.map eF)
 st:∀ i,i<P.on.length→w.rangeAt L.ob (L.oo+i*2) [.int .i64 (P.st i).vm,.int .i64 (P.st i).cpu]
 wf:P.Wf
theorem jl.good{w':World}{L:JS}{P:PtD}(h:jl w L P)(hG:Good w [] hp w'):jl w' L P:=
 ⟨fun i hi=>hG.range (h.pg i hi) bB5,fun i hi=>hG.range (h.gs i hi) bB5,fun i hi=>(h.vc i hi).good hG,fun i hi=>(h.mp i hi).good hG,fun i hi=>hG.range (h.st i hi) bB5,h.wf⟩
structure PtD.Len(P:PtD):Prop where
 p0:24≤P.pages.length
 p1:P.pages.length≤64
 g4:P.ay.length=4
 o0:1≤P.on.length
 o1:P.on.length≤3
structure rC(w:World)(bp:Nat)(L:JS)(P:PtD):Prop where
 v:jl w L P
 n:P.Len
 cp:w.cell? ⟨bp,0,none⟩=some (L.pv P.pages.length)
 cg:w.cell? ⟨bp,1,none⟩=some (L.gv P.ay.length)
 co:w.cell? ⟨bp,2,none⟩=some (L.ov P.on.length)
theorem rC.good{w':World}{bp:Nat}{L:JS}{P:PtD}(h:rC w bp L P)(hG:Good w [] hp w'):rC w' bp L P:=
 ⟨h.v.good hG,h.n,hG.cell h.cp bB5,hG.cell h.cg bB5,hG.cell h.co bB5⟩
section
variable {w : World} {L : JS} {P : PtD}
theorem jl.pg0(h:jl w L P)(hi:i<P.pages.length):w.cell? ⟨L.pb,L.po+i*2,none⟩=some (.int .i64 (P.pg i).own):=aj (h.pg i hi)
theorem jl.pg1(h:jl w L P)(hi:i<P.pages.length):w.cell? ⟨L.pb,L.po+i*2+1,none⟩=some (.int .i64 (P.pg i).wit):=cO (h.pg i hi) rfl
theorem jl.st0(h:jl w L P)(hi:i<P.on.length):w.cell? ⟨L.ob,L.oo+i*2,none⟩=some (.int .i64 (P.st i).vm):=aj (h.st i hi)
theorem jl.gs0(h:jl w L P)(hi:i<P.ay.length):w.cell? ⟨L.gb,L.go+i*5,none⟩=some (.bool (P.gs i).live):=aj (h.gs i hi)
theorem jl.gs1(h:jl w L P)(hi:i<P.ay.length):w.cell? ⟨L.gb,L.go+i*5+1,none⟩=some (.bool (P.gs i).dying):=cO (h.gs i hi) rfl
theorem jl.gs2(h:jl w L P)(hi:i<P.ay.length):w.cell? ⟨L.gb,L.go+i*5+2,none⟩=some (.int .i64 (P.gs i).first):=cO (h.gs i hi) rfl
theorem jl.gs3(h:jl w L P)(hi:i<P.ay.length):w.cell? ⟨L.gb,L.go+i*5+3,none⟩=some (L.vv i):=cO (h.gs i hi) rfl
theorem jl.gs4(h:jl w L P)(hi:i<P.ay.length):w.cell? ⟨L.gb,L.go+i*5+4,none⟩=some (L.mv i):=cO (h.gs i hi) rfl
end
end
namespace PtD
def og(l:List jQ)(mid:Int):Nat:=(l.takeWhile fun m=>decide (m.mid<mid)).length
def sU(l:List jQ)(mid:Int):Bool:=decide (og l mid<l.length)&&decide ((l.getD (og l mid) default).mid=mid)
def Sorted(l:List jQ):Prop:=∀ i j,i<j→j<l.length→(l.getD i default).mid<(l.getD j default).mid
theorem CU(l:List jQ)(mid:Int):og l mid≤l.length:=by
 induction l with
 | nil=>exact bI9 _
 | cons x r ih=>
  unfold og at *;rw[List.takeWhile_cons];cases decide (x.mid<mid)<;>simp<;>omega
theorem aa3:∀ {l:List jQ} {mid:Int} {k:Nat},k<og l mid→(l.getD k default).mid<mid:=by
 intro l mid
 induction l with
 | nil=>intro k h;simp[og] at h
 | cons x r ih=>
  intro k h;unfold og at h;rw[List.takeWhile_cons] at h;by_cases hx:x.mid<mid
  ·simp[hx] at h
   cases k with
   | zero=>simpa using hx
   | succ k=>simpa using ih (k:=k) (by unfold og;omega)
  ·simp[hx] at h
theorem aa4:∀ {l:List jQ} {mid:Int},og l mid<l.length→mid≤(l.getD (og l mid) default).mid:=by
 intro l mid
 induction l with
 | nil=>intro h;simp at h
 | cons x r ih=>
  intro h;unfold og at *;rw[List.takeWhile_cons] at *;by_cases hx:x.mid<mid
  ·simp[hx] at h ⊢;simpa using ih h
  ·simp[hx];omega
theorem aa5{l:List jQ}{mid:Int}(hs:Sorted l)(h1:og l mid≤k)(h2:k<l.length):mid≤(l.getD k default).mid:=by
 have h3:=aa4 (l:=l) (mid:=mid) bB3;rcases bQ3 (og l mid) k with h4 | h4
 ·have:=hs _ _ h4 h2;omega
 ·have:k=og l mid:=by omega
  rw[this];exact h3
theorem SE{l:List jQ}{mid:Int}(hs:Sorted l)(h0:k≤l.length)(h1:∀ j,j<k→(l.getD j default).mid<mid)(h2:∀ j,k≤j→j<l.length→mid≤(l.getD j default).mid):k=og l mid:=by
 rcases Nat.lt_trichotomy k (og l mid) with h | h | h
 ·have:=aa3 h;have:=h2 k (bI9 _) (by have:=CU l mid;omega);omega
 ·exact h
 ·have:=h1 _ h;have:=aa5 hs (bI9 (og l mid)) bB3;omega
theorem Gt{l:List jQ}(h:∀ k,k+1<l.length→(l.getD k default).mid<(l.getD (k+1) default).mid):Sorted l:=by
 intro i j hij hj
 induction j with
 | zero=>omega
 | succ j ih=>
  rcases bJ0.1 hij with h1 | rfl
  ·have:=ih h1 bB3;have:=h j hj;omega
  ·exact h i hj
theorem D6{P:PtD}(hm:P.may=true)(hi:i<4):Sorted (P.gs i).maps:=by
 have hok:=sQ.1 hm
 cases hl:(P.gs i).live with
 | false=>
  have:=(hok.dead i hi hl).2.1;intro a b _ hb
  omega
 | true=>
  refine Gt fun k hk=>?_;have:=(hok.WE i hi hl).2.2.2.2.2.1 (k+1) hk;simp only[oH,bH6,bJ7,decide_eq_true_eq,bV0] at this;rcases this.1.1.2 with h | h
  ·omega
  ·exact h
theorem CV{P:PtD}(hm:P.may=true)(hi:i<4)(hk:k<(P.gs i).maps.length):0≤((P.gs i).maps.getD k default).mid∧((P.gs i).maps.getD k default).mid≤15∧0≤((P.gs i).maps.getD k default).eu∧((P.gs i).maps.getD k default).eu.toNat<P.pages.length:=by
 have hok:=sQ.1 hm
 cases hl:(P.gs i).live with
 | false=>
  have:=(hok.dead i hi hl).2.1
  omega
 | true=>
  have:=(hok.WE i hi hl).2.2.2.2.2.1 k hk;simp only[oH,dD,bH6,bJ7,decide_eq_true_eq] at this;obtain⟨⟨⟨⟨a,b⟩,_⟩,c,d⟩,_⟩:=this;exact⟨a,b,c,by omega⟩
end PtD
section
open Go.ChangeShapes Go.WideShapes Go.ChangeAt Go.RowKit
theorem av2{n:Int}(h:(Lit.int .i64 n).wf=true):I64 n:=by
 simp only[Lit.wf,bH6,decide_eq_true_eq] at h;exact⟨Int.le_trans bB4 h.1,Int.le_trans h.2 bB4⟩
theorem kP(h:okW (.i .i64) v=true):∃ a,v=.int .i64 a∧I64 a:=by
 cases v<;>simp only[okW,bH6,decide_eq_true_eq,bO6] at h;obtain⟨rfl,h⟩:=h;exact⟨_,rfl,av2 h⟩
theorem BA(h:okW .b v=true):∃ a,v=.bool a:=by
 cases v<;>simp only[okW,bO6] at h;exact⟨_,rfl⟩
theorem aH{k:jU}{ks:List jU}{cs:List Value}(h:jB (k::ks) cs=true):∃ v r,cs=v::r∧okW k v=true∧jB ks r=true:=by
 cases cs with
 | nil=>cases h
 | cons v r=>simp only[jB,bH6] at h;exact⟨v,r,rfl,h⟩
theorem kM{cs:List Value}(h:jB [] cs=true):cs=[]:=by cases cs with | nil=>rfl | cons _ _=>cases h
theorem WI(h:n≤reachBytes):n≤281474976710656:=bP8 h bB4
section
variable {H : Type} {enc : TypeId × Value → H} {w : World} {base : Nat} {spare : Nat → Bool} {held : Bool}
theorem vY[Inhabited α]{p:Option Addr}{xs:List α}{s:Nat}{f:α→List Value}{q:α→Prop}(hl:xs.length≤reachBytes)(h:(xs=[])∨∃ b off,p=some ⟨b,off,none⟩∧∀ i,i<xs.length→∃ cs,w.rangeAt b (off+i*s) cs∧cs.length=s∧(cs=f (xs.getD i default)∧q (xs.getD i default))):
  aA w (.slice p xs.length cap) s (xs.map f)∧∀ a∈xs,q a:=by
 refine⟨⟨⟨p,cap,by rw[bH7],fun hne=>?_⟩,by rw[bH7];exact WI hl⟩,fun a ha=>?_⟩
 ·rcases h with rfl | ⟨b,off,rfl,h⟩
  ·exact absurd rfl hne
  ·refine⟨b,off,rfl,fun i c hc=>?_⟩
   have hi:i<xs.length:=by
    have:=(bJ8.1 hc).1;simpa using this
   obtain⟨cs,h1,_,rfl,_⟩:=h i hi;simp only[bJ',bH9 hi,bL5,bK0] at hc;rw[bH8,bH9 hi] at h1;subst hc;exact h1
 ·rcases h with rfl | ⟨b,off,rfl,h⟩
  ·cases ha
  ·obtain⟨i,hi,rfl⟩:=bM4.1 ha;obtain⟨cs,_,_,_,h2⟩:=h i hi;rw[bH8,bH9 hi] at h2;exact h2
theorem SG{α:Type}[Inhabited α]{f:α→List Value}{q:α→Prop}{t e:TypeId}{ks:List jU}{fuel:Nat}{cs:List Value}{x:DataW H×List MemPlace}(ht:Tryz.prog.underlying t=some (.slice e))(hlk:uy Tryz.prog 8 e=some ks)(hsz:fK Tryz.prog e=some ks.length)(hpos:0<ks.length)(hby:Nat.ble 1 (Tryz.prog.bytesOf e)=true)
  (hE:∀ cs,jB ks cs=true→∃ a,cs=f a∧q a) (h:DataW.trod enc Tryz.prog w base spare held fuel t cs=some x) (hz:FI Tryz.prog t x.1):∃ v,∃ xs:List α,cs=[v]∧aA w v ks.length (xs.map f)∧∀ a∈xs,q a:=by
 obtain⟨p,xs,cap,rfl,hl,hr⟩:=vW (α:=α) (R:=fun cs a=>cs=f a∧q a) ht hsz hpos hby (fun n cs x hx _=>hE cs (ku 8 e ks hlk hsz n cs x hx)) h hz;exact⟨_,xs,rfl,vY hl hr⟩
theorem nD{α:Type}[Inhabited α]{f:α→List Value}{q:α→Prop}{t e:TypeId}{ks:List jU}{fuel:Nat}{cs:List Value}{x:DataW H×List MemPlace}(ht:Tryz.prog.underlying t=some (.slice e))(hlk:uy Tryz.prog 8 e=some ks)(hsz:fK Tryz.prog e=some ks.length)(hpos:0<ks.length)(hby:Nat.ble 1 (Tryz.prog.bytesOf e)=true)
  (hE:∀ cs,jB ks cs=true→∃ a,cs=f a∧q a) (h:DataW.trod enc Tryz.prog w base spare held fuel t cs=some x) (hz:FI Tryz.prog t x.1):∃ v,∃ xs:List α,cs=[v]∧aA w v ks.length (xs.map f)∧(∀ a∈xs,q a)∧xs.length≤reachBytes:=by
 obtain⟨p,xs,cap,rfl,hl,hr⟩:=vW (α:=α) (R:=fun cs a=>cs=f a∧q a) ht hsz hpos hby (fun n cs x hx _=>hE cs (ku 8 e ks hlk hsz n cs x hx)) h hz;obtain⟨h1,h2⟩:=vY hl hr;exact⟨_,xs,rfl,h1,h2,hl⟩
end
end
section
attribute [local irreducible] Hy St Ops DH dH
def gV{α:Type}(p:α→Bool)(xs:List α):Int:=match PtD.idx p xs 0 with | some i=>(i:Int) | none=>-1
theorem D7[Inhabited α]{p:α→Bool}{l:List α}(h:∀ j,j<l.length→p (l.getD j default)=false):PtD.idx p l 0=none:=by
 cases e:PtD.idx p l 0 with
 | none=>rfl
 | some k=>
  obtain⟨_,h2,h3,_⟩:=PtD.pV e;simp only[bW1] at h2 h3;rw[h k h2] at h3;cases h3
theorem fG[Inhabited α]{p:α→Bool}{l:List α}(hk:k<l.length)(h:p (l.getD k default)=true)(hn:∀ j,j<k→p (l.getD j default)=false):gV p l=k:=by
 unfold gV;rw[(PtD.DY hk h).2 hn]
theorem dV[Inhabited α]{p:α→Bool}{l:List α}(h:∀ j,j<l.length→p (l.getD j default)=false):gV p l= -1:=by
 unfold gV;rw[D7 h]
theorem gq[Inhabited α]{p:α→Bool}{l:List α}:decide (0≤gV p l)=l.any p:=by
 rw[←PtD.IK];unfold gV;cases PtD.idx p l 0<;>simp
theorem aA.row[Inhabited α]{f:α→List Value}{xs:List α}{o:Nat}(h:aA w (.slice (some ⟨b,o,none⟩) n cap) sz (xs.map f))(hk:k<xs.length):w.rangeAt b (o+k*sz) (f (xs.getD k default)):=by
 obtain⟨⟨p,cap,e,hp⟩,hl⟩:=h;cases e;obtain⟨b,off,e,hr⟩:=hp (by intro e;rw[bR9] at e;subst e;simp at hk);cases e;refine hr k _ ?_;rw[bJ',bH8,bH9 hk];rfl
theorem aA.opened{f:α→List Value}{xs:List α}(h:aA w v sz (xs.map f)):∃ p cap,v=.slice p xs.length cap∧(xs≠[]→∃ b o,p=some ⟨b,o,none⟩)∧xs.length≤281474976710656:=by
 obtain⟨⟨p,cap,rfl,hp⟩,hl⟩:=h;rw[bH7] at *;refine⟨p,cap,rfl,fun hne=>?_,hl⟩;obtain⟨b,o,rfl,_⟩:=hp bH3;exact⟨b,o,rfl⟩
theorem iH[Inhabited α](f:Nat→α)(hi:i<n):((List.range n).map f)[i]?=some (f i):=by simp[hi]
def Here(hn:Hp)(w:World):Prop:=∀ e∈hn,w.heap[e.b]?=some (.cells e.cs e.t (0,0))
theorem Good.lie{hn:Hp}(hG:Good w0 mu hp w)(hm:∀ e∈hn,e∈hp):Here hn w:=fun e he=>hG.here e (hm e he)
theorem Here.sub{hn hm:Hp}(h:Here hn w)(hs:∀ e∈hm,e∈hn):Here hm w:=fun e he=>h e (hs e he)
theorem Acc.lie{ha:Hp}(hA:Acc e sz v ha xs)(h:Here ha w)(hle:xs.length≤281474976710656):aA w v sz xs:=by
 rcases hA.2 with⟨rfl,rfl,rfl⟩ | ⟨hne,g,cap,cur,rfl,rfl,hrow⟩
 ·exact⟨⟨none,0,rfl,fun h=>absurd rfl h⟩,hle⟩
 ·refine⟨⟨_,_,rfl,fun _=>⟨g,0,rfl,fun i c hc j u hj=>?_⟩⟩,hle⟩;have hb:=h _ (bN3.2 rfl);rw[cell_of_block hb];have hcl:=(hA.1 c (bV6 hc)).1;have hi:i<xs.length:=(bJ8.1 hc).1;have hjl:j<sz:=by rw[←hcl];exact (bJ8.1 hj).1
  have hf:=lS (fun c hc=>(hA.1 c hc).1) hc;rw[←hrow.take] at hf
  have hle:i*sz+j<xs.length*sz:=by
   calc i*sz+j<i*sz+sz:=by omega
    _=(i+1)*sz:=by rw[bN6]
    _≤_:=bK8 _ hi
  rw[←hf,bM7,if_pos hjl,bP2,bM7,if_pos hle] at hj;rw[bK2];simpa using hj
theorem iI{xs:List (List Value)}(h:w.heap[b]?=some (.cells xs.flatten.toArray t (0,0)))(hs:∀ c∈xs,c.length=sz)(hle:xs.length≤281474976710656):aA w (.slice (some ⟨b,0,none⟩) xs.length cap) sz xs:=by
 refine⟨⟨_,_,rfl,fun _=>⟨b,0,rfl,fun i c hc j u hj=>?_⟩⟩,hle⟩;rw[cell_of_block h];have hf:=lS hs hc;have hcl:=hs c (bV6 hc);have hjl:j<sz:=by rw[←hcl];exact (bJ8.1 hj).1
 rw[←hf,bM7,if_pos hjl,bP2] at hj;rw[bK2];simpa using hj
theorem o9(zl:List Value)(n sz:Nat)(hs:zl.length=sz)(h0:0<sz):madeCells zl.toArray (n*sz)=((List.replicate n zl).flatten).toArray:=by
 have h:=NY zl.toArray (by simpa [hs] using h0) n
 have e:∀ n,rep zl n=(List.replicate n zl).flatten:=by
  intro n
  induction n with
  | zero=>rfl
  | succ n ih=>rw[rep,ih,List.replicate_succ',bU7];simp
 rw[←e];simpa [madeCells,hs] using h
end
section
theorem fO:∀ (vs:List Value) (cs:Array Value) (o:Nat),(putAt cs o vs).size=cs.size:=by
 intro vs
 induction vs with
 | nil=>intro cs o;rfl
 | cons v r ih=>intro cs o;rw[putAt,ih];simp
theorem nG:∀ (vs:List Value) (cs:Array Value) (o:Nat),o+vs.length≤cs.size→(putAt cs o vs).toList=cs.toList.take o++vs++cs.toList.drop (o+vs.length):=by
 intro vs
 induction vs with
 | nil=>intro cs o h;simp[putAt]
 | cons v r ih=>
  intro cs o h;simp only[bL6] at h;rw[putAt,ih _ _ bB9];simp only[Array.toList_setIfInBounds];have ho:o<cs.toList.length:=by simp;omega
  have h1:(cs.toList.take o).length=o:=by simp;omega
  rw[bV9,if_pos ho,bX5,bY7,h1];have e1:o+1-o=1:=by omega
  have e2:o+1+r.length-o=r.length+1:=by omega
  rw[e1,e2,bT1 (show (cs.toList.take o).length≤o+1 by omega),bM0 (show (cs.toList.take o).length≤o+1+r.length by omega)];simp only[bL7,bN0,bI3,bL2,bQ2,bK7,bI0,bL6];rw[show o+1+r.length=o+(r.length+1) by omega]
theorem dU{α:Type}:∀ (xs:List (List α)),(∀ c∈xs,c.length=sz)→xs.flatten.length=xs.length*sz:=by
 intro xs
 induction xs with
 | nil=>intro _;simp
 | cons x r ih=>
  intro h;rw[bU1,bJ9,ih (fun c hc=>h c (bI5 _ hc)),h x (bI8 ..),bL6,bN6,Nat.add_comm]
theorem Row.nth{cur:Array Value}{xs:List (List Value)}(h:Row g cap cur sz n xs.flatten)(hall:∀ c∈xs,c.length=sz){u:Value}(hi:xs[i]?=some c)(hk:c[k]?=some u):Proofs.YtellmabgmnbhcaaGreat.nth cur.toList (i*sz+k)=some u:=by
 refine xw (n:=sz) (c:=c) ?_ hk;have hf:=lS hall hi;rw[←h.take] at hf;have hlt:i<xs.length:=(bJ8.1 hi).1;have hn:xs.length*sz=n*sz:=by rw[←dU xs hall,h.len]
 have hle:i*sz+sz≤n*sz:=by rw[←hn,←bN6];exact bK8 _ hlt
 rw[List.drop_take,bX0,bP7 bB3] at hf;exact hf
theorem Row.put{cur:Array Value}{xs:List (List Value)}(h:Row g cap cur sz n xs.flatten)(hall:∀ c∈xs,c.length=sz)(hi:xs[i]?=some c)(hk:k+vs.length≤sz):
  Row g cap (putAt cur (i*sz+k) vs) sz n (xs.set i (c.take k++vs++c.drop (k+vs.length))).flatten:=by
 have hlt:i<xs.length:=(bJ8.1 hi).1;have hc:xs[i]=c:=(bJ8.1 hi).2;have hcl:c.length=sz:=hall c (bV6 hi);have hn:xs.length*sz=n*sz:=by rw[←dU xs hall,h.len]
 have hle:i*sz+sz≤n*sz:=by rw[←hn,←bN6];exact bK8 _ hlt
 have hcap:n*sz≤cap*sz:=bK8 _ h.le;have hsz:=h.size
 have hxs:xs=xs.take i++c::xs.drop (i+1):=by
  rw[←hc];simp
 have hset:xs.set i (c.take k++vs++c.drop (k+vs.length))=xs.take i++(c.take k++vs++c.drop (k+vs.length))::xs.drop (i+1):=by
  rw[bV9,if_pos hlt]
 have hA:((xs.take i).flatten).length=i*sz:=by
  rw[dU (xs.take i) (fun c hc=>hall c (bX6 hc)),bK',bP7 bB3]
 have KE:cur.toList=(xs.take i).flatten++(c++((xs.drop (i+1)).flatten++cur.toList.drop (n*sz))):=by
  have h1:=bZ0 (n*sz) cur.toList;rw[h.take] at h1
  conv=>lhs;rw[←h1,hxs]
  rw[bU7,bU1,bK7,bK7]
 have hfl:(xs.set i (c.take k++vs++c.drop (k+vs.length))).flatten=(xs.take i).flatten++((c.take k++vs++c.drop (k+vs.length))++(xs.drop (i+1)).flatten):=by
  rw[hset,bU7,bU1]
 have hdl:((xs.drop (i+1)).flatten).length=n*sz-(i*sz+sz):=by
  rw[dU (xs.drop (i+1)) (fun c hc=>hall c (List.mem_of_mem_drop hc)),bN9,Nat.sub_mul,hn,bN6]
 refine⟨?_,h.le,h.max,by rw[fO];exact hsz,?_⟩
 ·rw[hfl];simp only[bJ9,hA,hdl,bK',bN9,hcl];omega
 ·rw[nG _ _ _ bB3,hfl]
  conv=>lhs;rw[KE]
  have hB:(c++((xs.drop (i+1)).flatten++cur.toList.drop (n*sz))).take k=c.take k:=by rw[bX5,show k-c.length=0 by omega];simp
  have hC:(c++((xs.drop (i+1)).flatten++cur.toList.drop (n*sz))).drop (k+vs.length)=c.drop (k+vs.length)++((xs.drop (i+1)).flatten++cur.toList.drop (n*sz)):=by rw[bY7,show k+vs.length-c.length=0 by omega];simp
  have hT:((xs.take i).flatten++(c++((xs.drop (i+1)).flatten++cur.toList.drop (n*sz)))).take (i*sz+k)=(xs.take i).flatten++c.take k:=by
   rw[bX5,hA,bT1 bB3,show i*sz+k-i*sz=k by omega,hB]
  have hD:((xs.take i).flatten++(c++((xs.drop (i+1)).flatten++cur.toList.drop (n*sz)))).drop (i*sz+k+vs.length)=c.drop (k+vs.length)++((xs.drop (i+1)).flatten++cur.toList.drop (n*sz)):=by
   rw[bY7,hA,bM0 bB3,show i*sz+k+vs.length-i*sz=k+vs.length by omega,hC];simp
  rw[hT,hD];have:(xs.take i).flatten++c.take k++vs++(c.drop (k+vs.length)++((xs.drop (i+1)).flatten++cur.toList.drop (n*sz)))=((xs.take i).flatten++(c.take k++vs++c.drop (k+vs.length)++(xs.drop (i+1)).flatten))++cur.toList.drop (n*sz):=by simp
  rw[this];refine bV1 ?_;simp only[bJ9,hA,hdl,bK',bN9,hcl];omega
open Classical in
noncomputable def SH (a e : mO) : Nat := if e = a then 1 else 0
noncomputable def pW (a : mO) : Hp → Nat
  | [] => 0
  | e :: r => SH a e + pW a r
theorem jk(a:mO):pW a []=0:=rfl
theorem bJ(a e:mO)(r:Hp):pW a (e::r)=SH a e+pW a r:=rfl
theorem eH(a:mO):∀ (h r:Hp),pW a (h++r)=pW a h+pW a r:=by
 intro h
 induction h with
 | nil=>intro r;simp[pW]
 | cons e h ih=>intro r;rw[bI0,bJ,bJ,ih];omega
theorem zW(a:mO):SH a a=1:=by simp[SH]
theorem KF{a:mO}:∀ {h:Hp},0<pW a h→a∈h:=by
 intro h
 induction h with
 | nil=>intro h;simp[pW] at h
 | cons e r ih=>
  intro h;by_cases he:e=a
  ·subst he;exact bI8 ..
  ·rw[bJ,show SH a e=0 by simp[SH,he]] at h;exact bI5 _ (ih bB3)
theorem KG{a:mO}:∀ {h:Hp},a∈h→∃ r,(a::r).Perm h:=by
 intro h hm;obtain⟨s,t,rfl⟩:=bW8 hm;exact⟨s++t,bS6.symm⟩
theorem vZ{a:mO}{r:Hp}(hp:h.Perm r):pW a h=pW a r:=by
 induction hp with
 | nil=>rfl
 | cons x _ ih=>rw[bJ,bJ,ih]
 | swap x y l=>rw[bJ,bJ,bJ,bJ];omega
 | trans _ _ h1 h2=>rw[h1,h2]
theorem dh:∀ {r h:Hp},(∀ a,pW a r≤pW a h)→aI r h:=by
 intro r
 induction r with
 | nil=>intros;trivial
 | cons e r ih=>
  intro h hc;have h1:=hc e;rw[bJ,zW] at h1;obtain⟨h',hp⟩:=KG (KF (a:=e) (h:=h) bB3);refine⟨h',hp,ih fun a=>?_⟩;have h2:=hc a;rw[←vZ hp,bJ,bJ] at h2;omega
theorem aI.cnt{r:Hp}(hl:aI r h)(a:mO):pW a r≤pW a h:=by
 obtain⟨x,hx⟩:=hl.perm;have:=vZ (a:=a) hx;rw[eH] at this;omega
theorem WJ:∀ {r h:Hp},(∀ a,pW a r=pW a h)→r.Perm h:=by
 intro r
 induction r with
 | nil=>
  intro h hc
  cases h with
  | nil=>exact .refl _
  | cons e h=>have:=hc e;rw[bJ,zW,jk] at this;omega
 | cons e r ih=>
  intro h hc;have h1:=hc e;rw[bJ,zW] at h1;obtain⟨h',hp⟩:=KG (KF (a:=e) (h:=h) bB3);refine ((ih fun a=>?_).cons e).trans hp;have h2:=hc a;rw[←vZ hp,bJ,bJ] at h2;omega
theorem aU{p:Prop}(h:p:=by (refine WJ fun a=>?_;simp only[eH,bJ,jk]<;>omega)):p:=h
theorem ak{p:Prop}(h:p:=by (refine dh fun a=>?_;simp only[eH,bJ,jk]<;>omega)):p:=h
theorem cnt1{r:Hp}{p:Prop}(hle:aI r h)(k:aI r h→p:=by (intro hle1;refine dh fun a=>?_;have:=aI.cnt hle1 a;simp only[eH,bJ,jk] at *;omega)):p:=k hle
def Own(e:TypeId)(sz:Nat)(v:Value)(h:Hp)(xs:List (List Value)):Prop:=
 (∀ c∈xs,c.length=sz∧c.all (·.oneCell')=true)∧((xs=[]∧v=.slice none 0 0∧h=[])∨∃ g cap cur,v=.slice (some ⟨g,0,none⟩) xs.length cap∧h=[⟨g,cur,e⟩]∧Row g cap cur sz xs.length xs.flatten)
theorem Acc.own(hA:Acc e sz v h xs):Own e sz v h xs:=⟨hA.1,hA.2.imp id fun h=>h.2⟩
theorem Own.opened(hA:Own e sz v h xs):∃ p cap,v=.slice p xs.length cap:=by
 rcases hA.2 with⟨rfl,rfl,rfl⟩ | ⟨g,cap,cur,rfl,rfl,hrow⟩
 ·exact⟨_,_,rfl⟩
 ·exact⟨_,_,rfl⟩
theorem Row.range{g cap cur sz n t}{xs:List (List Value)}(h:Row g cap cur sz n xs.flatten)(hall:∀ c∈xs,c.length=sz)(hb:w.heap[g]?=some (.cells cur t (0,0)))(hi:xs[i]?=some c):w.rangeAt g (0+i*sz) c:=by
 intro j u hj;rw[bK2,cell_of_block hb];have:=h.nth hall hi hj;rw[mZ] at this;simpa using this
theorem Own.lie(hA:Own e sz v h xs)(hh:Here h w)(hle:xs.length≤281474976710656):aA w v sz xs:=by
 rcases hA.2 with⟨rfl,rfl,rfl⟩ | ⟨g,cap,cur,rfl,rfl,hrow⟩
 ·exact⟨⟨none,0,rfl,fun h=>absurd rfl h⟩,hle⟩
 ·exact⟨⟨_,_,rfl,fun _=>⟨g,0,rfl,fun i c hc=>hrow.range (fun c hc=>(hA.1 c hc).1) (hh _ (bN3.2 rfl)) hc⟩⟩,hle⟩
theorem FK:∀ (xs:List (List Value)) (o:Nat),(∀ c∈xs,c.length=sz)→(∀ i c,xs[i]?=some c→w.rangeAt b (o+i*sz) c)→w.rangeAt b o xs.flatten:=by
 intro xs
 induction xs with
 | nil=>intro o _ _ j v hj;simp at hj
 | cons x r ih=>
  intro o hs h j v hj;have hx:=hs x (bI8 ..);rw[bU1] at hj;rcases bQ3 j x.length with hlt | hge
  ·rw[bT' hlt] at hj;have:=h 0 x rfl j v hj;simpa using this
  ·rw[bT6 hge] at hj
   have:=ih (o+sz) (fun c hc=>hs c (bI5 _ hc)) (fun i c hc=>by
    have:=h (i+1) c (by simpa using hc)
    rwa [bN6,show o+(i*sz+sz)=o+sz+i*sz by omega] at this) (j-x.length) v hj
   rwa [show o+sz+(j-x.length)=o+j by omega] at this
section
variable {P : Program} {T : Tab} {n : Nat} {w0 : World} {mu : List Nat} {l : Fm} {hp : Hp} {dd : Option Tmp} {ty : TypeId} {pos : String} {af : Array Edge} {gg : Option (Nat × Bool)} {Q : Exit → Fm → Hp → Prop} {all : Array Oper} {rest : List Oper}
theorem iC(ok:bC P T){jr c:Nat}{q:Addr}{p:Option Addr}(hx:ev l x=some (.slice (some q) k cap))(hy:ev l y=some (.slice p 0 c))(ht:lk T.sl t=some (e,sz))(hk:k≤cap):
  Hy P n w0 mu l hp ⟨dd,.call { callee:=.builtin .append,args:=#[x,y],argTypes:=#[t,t] },ty,pos,af,gg⟩ (.slice (some q) k cap):=by
 obtain⟨hu,hsz⟩:=ok.zJ ht;refine bQ fun a w hk' _=>?_;have hst:∀ q:Addr,(storeCells q []).run P w=.ok () w:=fun q=>by simp[storeCells]
 have hf:(Builtin.firstCells sz 0 (.slice p 0 c)).run P w=.ok #[] w:=by
  cases p with
  | none=>simp[Builtin.firstCells]
  | some b=>exact run_firstCells_some (P:=P) w sz 0 b 0 c [] bB5 bB5
 simp only[execOp,resolve,invoke,builtin,Sem.run_bind,Sem.run_pure,Result.andThen_ok,bP5,bL9,bO9,hk'.ev hx,hk'.ev hy];simp[Builtin.append_,run_underlying hu,run_sizeOf hsz w,Builtin.lenOf,hk,hf,hst]
theorem SI(ok:bC P T){jr cc:Nat}{ha:Hp}(hA:Own e sz v ha xs)(hd:Nat.blt d n=true)(hx:ev l x=some v)(hy:ev l y=some (.slice (some ⟨a,0,none⟩) 1 cc))(ht:lk T.sl t=some (e,sz))
  (hz:lk T.zs e=some z) (hzs:z.cells.size=sz) (hb:lk T.eb e=some jr) (hby:Nat.ble jr 4096=true) (hperm:(ha++hp').Perm hp) (hl:c.length=sz) (hnews:lI w0 mu hp a 0 c) (h1:c.all (·.oneCell')=true) (h63:xs.length<1000000)
  (h:∀ v' ha',Own e sz v' ha' (xs++[c])→Ops P n w0 mu all rest ((d,v')::l) (ha'++hp') Q):Ops P n w0 mu all (⟨some d,.call { callee:=.builtin .append,args:=#[x,y],argTypes:=#[t,t] },ty,pos,af,none⟩::rest) l hp Q:=by
 have wO:jr≤4096:=bM2 hby
 have hall:∀ c'∈xs++[c],c'.length=sz∧c'.all (·.oneCell')=true:=by
  intro c' hc';rcases bK4.1 hc' with hc' | hc'
  ·exact hA.1 c' hc'
  ·obtain rfl:=bN3.1 hc';exact⟨hl,h1⟩
 rcases hA.2 with⟨rfl,rfl,rfl⟩ | ⟨g,cap,cur,rfl,rfl,hrow⟩
 ·refine Gi ok hd hx hy ht hz hzs hb bB3 bF1 hnews bB3 bB3 fun g cap cur hr=>?_;have:=h (.slice (some ⟨g,0,none⟩) 1 cap) [⟨g,cur,e⟩] ⟨hall,.inr ⟨g,cap,cur,rfl,rfl,by simpa using hr⟩⟩;refine cZ _ ?_ this;exact (hperm.cons _:(⟨g,cur,e⟩::([]++hp')).Perm (⟨g,cur,e⟩::hp))
 ·refine vS ok hd hx hy ht hz hzs hb hperm hrow bF1 hnews h1 bB3 ?_ fun g cap cur hr=>?_
  ·have h2:(xs.length+1+(xs.length+1)/4+192)≤2000000:=by omega
   calc _≤2000000*jr:=bK8 _ h2
    _≤2000000*4096:=bS' _ wO
    _≤_:=by decide
  ·have:=h (.slice (some ⟨g,0,none⟩) (xs.length+1) cap) [⟨g,cur,e⟩] ⟨hall,.inr ⟨g,cap,cur,by simp,rfl,by simpa using hr⟩⟩;exact this
theorem eP(ok:bC P T){jr o cc:Nat}{cur:Array Value}{xs:List (List Value)}(hd:Nat.blt d n=true)(hx:ev l x=some (.slice (some ⟨g,0,none⟩) 0 cap))(hg:Row g cap cur sz 0 [])(hy:ev l y=some (.slice (some ⟨a,o,none⟩) m cc))(ht:lk T.sl t=some (e,sz))
  (hz:lk T.zs e=some z) (hzs:z.cells.size=sz) (hb:lk T.eb e=some jr) (hby:Nat.ble jr 4096=true) (hperm:(⟨g,cur,e⟩::hp').Perm hp) (hm:m=xs.length) (hall:∀ c∈xs,c.length=sz∧c.all (·.oneCell')=true) (hr:∀ i c,xs[i]?=some c→w0.rangeAt a (o+i*sz) c) (hmu:a∉mu) (h63:xs.length<1000000)
  (h:∀ v' ha',Own e sz v' ha' xs→Ops P n w0 mu all rest ((d,v')::l) (ha'++hp') Q):Ops P n w0 mu all (⟨some d,.call { callee:=.builtin .append,args:=#[x,y],argTypes:=#[t,t] },ty,pos,af,none⟩::rest) l hp Q:=by
 have wO:jr≤4096:=bM2 hby;have hfl:=dU xs (fun c hc=>(hall c hc).1);refine vS ok hd hx hy ht hz hzs hb hperm hg (news:=xs.flatten) (by rw[hm,hfl]) (yt (FK xs o (fun c hc=>(hall c hc).1) hr) hmu) ?_ bB3 ?_ fun g cap cur hr=>?_
 ·rw[List.all_flatten,bH'];exact fun c hc=>(hall c hc).2
 ·have h2:(0+m+(0+m)/4+192)≤2000000:=by omega
  calc _≤2000000*jr:=bK8 _ h2
   _≤2000000*4096:=bS' _ wO
   _≤_:=by decide
 ·rw[bK2,bI3,hm] at hr;have:=h (.slice (some ⟨g,0,none⟩) xs.length cap) [⟨g,cur,e⟩] ⟨hall,.inr ⟨g,cap,cur,rfl,rfl,hr⟩⟩;rw[bK2,hm];exact this
theorem iD(ok:bC P T)(hd:Nat.blt d n=true)(ht:lk T.sl t=some (e,sz))(h:∀ b,Ops P n w0 mu all rest ((d,.slice (some ⟨b,0,none⟩) 0 0)::l) (⟨b,#[],e⟩::hp) Q):Ops P n w0 mu all (⟨some d,.buildSlice t 0 #[],ty,pos,af,none⟩::rest) l hp Q:=by
 refine CG (b:=0) rfl hd #[] e rfl (fun b=>.slice (some ⟨b,0,none⟩) 0 0) (fun a w hk _=>?_) h;obtain⟨hu,hs⟩:=ok.zJ ht;simp[execOp,Instr.buildSlice,run_underlying hu w,run_sizeOf hs w,Instr.fill,go_sem]
theorem nH(ok:bC P T){u c:Nat}{p:Option Addr}(hx:ev l x=some (.slice p m c))(ht:lk T.sl t=some (e,sz)):Hy P n w0 mu l hp ⟨dd,.binOp .eql t x (.const (.slice none 0 0)) u,ty,pos,af,gg⟩ (.bool p.isNone):=by
 obtain⟨hu,hsz⟩:=ok.zJ ht;refine bQ fun a w hk' _=>?_;have h1:=Lib.run_eql_slice_nil (P:=P) w t e p m c 0 0 hu;have h2:=hk'.ev hx;have h3:a.eval (.const (.slice none 0 0))=.slice none 0 0:=rfl;simp only[execOp,h2,h3];cases p<;>simp[eqGuard,h1]
end
end
section
section
variable {P : Program} {T : Tab} {n : Nat} {w0 : World} {mu : List Nat} {l : Fm} {hp : Hp} {dd : Option Tmp} {ty : TypeId} {pos : String} {af : Array Edge} {gg : Option (Nat × Bool)} {Q : Exit → Fm → Hp → Prop} {all : Array Oper} {rest : List Oper}
theorem oN{t e:TypeId}(hu:P.underlying t=some (.slice e)):P.underlying t=some (.slice (P.elem t)):=by
 have:P.elem t=e:=by simp[Program.elem,hu]
 rw[this];exact hu
theorem wo:(⟨b,off,none⟩:Addr).add k=⟨b,off+k,none⟩:=Addr.add_lit ..
theorem wu(ok:bC P T){kl kh:IntKind}{lo hi:Operand}{i j:Int}{o' m' c':Nat}(hx:ev l x=some (.slice (some ⟨b,off,none⟩) m cap))(hlo:ev l lo=some (.int kl i))(hhi:ev l hi=some (.int kh j))(ht:lk T.sl t=some (e,sz))
  (h0:0≤i) (h1:i≤j) (h2:j≤cap) (h3:i<cap) (ho:off+i.toNat*sz=o') (hm:j.toNat-i.toNat=m') (hc:cap-i.toNat=c'):
  Hy P n w0 mu l hp ⟨dd,.slice t x (some lo) (some hi) none,ty,pos,af,gg⟩ (.slice (some ⟨b,o',none⟩) m' c'):=by
 obtain⟨hu,hsz⟩:=ok.zJ ht;subst ho hm hc;refine bQ fun a w hk _=>?_;have he:P.elem t=e:=by simp[Program.elem,hu]
 have hs:=run_sizeOf hsz w;have hne:¬ (cap=i.toNat):=by omega
 simp only[execOp,bL5,bZ6,hk.ev hx,hk.ev hlo,hk.ev hhi];simp only[Sem.run_bind];rw[run_sliceAt_slice (w:=w) t _ _ _ _ (oN hu),run_slice_lh (w:=w) t _ m cap (oN hu) kl kh i j h0 h1 h2,he,hs];simp[sliced,hne,wo]
theorem pX(ok:bC P T){p:Option Addr}{kh:IntKind}{hi:Operand}{j:Int}{m':Nat}(hx:ev l x=some (.slice p m cap))(hhi:ev l hi=some (.int kh j))(ht:lk T.sl t=some (e,sz))
  (h0:0≤j) (h2:j≤cap) (hm:j.toNat=m') (hp0:p=none∨∃ b off,p=some ⟨b,off,none⟩):
  Hy P n w0 mu l hp ⟨dd,.slice t x none (some hi) none,ty,pos,af,gg⟩ (.slice p m' cap):=by
 obtain⟨hu,hsz⟩:=ok.zJ ht;subst hm;refine bQ fun a w hk _=>?_;have he:P.elem t=e:=by simp[Program.elem,hu]
 have hs:=run_sizeOf hsz w;simp only[execOp,bL5,bZ6,hk.ev hx,hk.ev hhi];simp only[Sem.run_bind];rw[run_sliceAt_slice (w:=w) t _ _ _ _ (oN hu),run_slice_h (w:=w) t _ m cap (oN hu) kh j h0 h2,he,hs];rcases hp0 with rfl | ⟨b,off,rfl⟩
 ·simp[sliced]
 ·simp[sliced,wo]
theorem l9(ok:bC P T){kl:IntKind}{lo:Operand}{i:Int}{o' m' c':Nat}(hx:ev l x=some (.slice (some ⟨b,off,none⟩) m cap))(hlo:ev l lo=some (.int kl i))(ht:lk T.sl t=some (e,sz))
  (h0:0≤i) (h1:i≤m) (h3:i<cap) (ho:off+i.toNat*sz=o') (hm:m-i.toNat=m') (hc:cap-i.toNat=c'):
  Hy P n w0 mu l hp ⟨dd,.slice t x (some lo) none none,ty,pos,af,gg⟩ (.slice (some ⟨b,o',none⟩) m' c'):=by
 obtain⟨hu,hsz⟩:=ok.zJ ht;subst ho hm hc;refine bQ fun a w hk _=>?_;have he:P.elem t=e:=by simp[Program.elem,hu]
 have hs:=run_sizeOf hsz w;have hne:¬ (cap=i.toNat):=by omega
 simp only[execOp,bL5,bZ6,hk.ev hx,hk.ev hlo];simp only[Sem.run_bind];rw[run_sliceAt_slice (w:=w) t _ _ _ _ (oN hu),run_slice_l (w:=w) t _ m cap (oN hu) kl i h0 h1,he,hs];simp[sliced,hne,wo]
theorem zX(ok:bC P T){p:Option Addr}{kl:IntKind}{lo:Operand}{i:Int}(hx:ev l x=some (.slice p m cap))(hlo:ev l lo=some (.int kl i))(ht:lk T.sl t=some (e,sz))
  (h0:0≤i) (h1:i≤m):Hy P n w0 mu l hp ⟨dd,.slice t x (some lo) none none,ty,pos,af,gg⟩ (sliced p i.toNat m cap sz):=by
 obtain⟨hu,hsz⟩:=ok.zJ ht;refine bQ fun a w hk _=>?_;have he:P.elem t=e:=by simp[Program.elem,hu]
 have hs:=run_sizeOf hsz w;simp only[execOp,bL5,bZ6,hk.ev hx,hk.ev hlo];simp only[Sem.run_bind];rw[run_sliceAt_slice (w:=w) t _ _ _ _ (oN hu),run_slice_l (w:=w) t _ m cap (oN hu) kl i h0 h1,he,hs];simp
theorem SK:Nat.min k d=min k d:=rfl
theorem IL(ok:bC P T){t' o dl dc so sl sc:Nat}{tb:TypeId}{news:List Value}(hd:Nat.blt d n=true)(hx:ev l x=some (.slice (some ⟨b,o,none⟩) dl dc))(hy:ev l y=some (.slice (some ⟨a,so,none⟩) sl sc))(ht:lk T.sl t=some (e,sz))
  (hperm:(⟨b,cs,tb⟩::hp').Perm hp) (hl:news.length=min sl dl*sz) (hnews:lI w0 mu hp a so news) (h1:news.all (·.oneCell')=true) (hfit:o+news.length≤cs.size)
  (h:Ops P n w0 mu all rest ((d,.int .i64 (min sl dl:Nat))::l) (⟨b,putAt cs o news,tb⟩::hp') Q):Ops P n w0 mu all (⟨some d,.call { callee:=.builtin .copy,args:=#[x,y],argTypes:=#[t,t'] },ty,pos,af,none⟩::rest) l hp Q:=by
 intro ac w hk hG;have hput:∀ v,Knows n ((d,v)::l) (ac.put (some d) v):=fun v=>Knows.put (d:=some d) hk (fun t ht=>by cases ht;simpa using hd) v;obtain⟨hu,hsz⟩:=ok.zJ ht;have hG':=hG.perm hperm;have hb:=hG'.here _ (bI8 ..);have hsrc:∀ j u,news[j]?=some u→w.cell? ((⟨a,so,none⟩:Addr).add j)=some u:=fun j u hj=>by rw[Addr.add_mid];exact hnews w hG j u hj
 have hld:=run_loadCells_list (P:=P) w ⟨a,so,none⟩ news hsrc
 have hst:=run_storeCells_cells (P:=P) b o news 0 w
  (fun j hj=>by rw[cell_of_block hb];simp[show o+j<cs.size by omega])
  (fun j _=>fQ hb) (fun u hu=>(bH'.1 h1) u hu)
 simp only[bL4] at hst;refine wpList_plain rfl fun K hK=>?_;unfold Oper.wp execOp;have hs:=run_sizeOf hsz w
 have hr:(Builtin.copy_ #[t,t'] ty #[.slice (some ⟨b,o,none⟩) dl dc,.slice (some ⟨a,so,none⟩) sl sc]).run P w=.ok (goInt (min sl dl:Nat)) (w.setCells b o news):=by
  simp[Builtin.copy_,run_underlying hu,Builtin.lenOf,Builtin.firstCells,hs,SK,←hl,hld,hst]
 simp only[resolve,invoke,builtin,Sem.run_bind,Sem.run_pure,Result.andThen_ok,bP5,bL9,bO9,hk.ev hx,hk.ev hy,hr];exact hK _ _ (h _ _ (hput _) (Good.sets (w:=w) news cs o w hG'))
theorem SN(ok:bC P T){tn jr s:Nat}{kq kn:IntKind}{olds:List Value}(hd:Nat.blt d n=true)(hx:ev l x=some (.slice (some ⟨b,off,none⟩) s cap))(hy:ev l y=some (.int kq (k:Int)))(ht:lk T.sl t=some (e,sz))(htn:lk T.ik tn=some kn)
  (hz:lk T.zs e=some z) (hzs:z.cells.size=sz) (hb:lk T.eb e=some jr) (hby:Nat.ble jr 4096=true) (hl:olds.length=s*sz) (hnews:lI w0 mu hp b off olds) (hs0:0<sz) (hk0:0<k) (hroom:cap<s+k) (hsmall:s+k≤1000000)
  (h:∀ g cap' cur,cur.size=cap'*sz→s+k≤cap'→cap'≤maxLen→cur.toList.take (s*sz)=olds→Ops P n w0 mu all rest ((d,.slice (some ⟨g,0,none⟩) (s+k) cap')::l) (⟨g,cur,e⟩::hp) Q):Ops P n w0 mu all (⟨some d,.call { callee:=.builtin .append,args:=#[x,y],argTypes:=#[t,tn] },ty,pos,af,none⟩::rest) l hp Q:=by
 intro ac w hk hG;have hput:∀ v,Knows n ((d,v)::l) (ac.put (some d) v):=fun v=>Knows.put (d:=some d) hk (fun t ht=>by cases ht;simpa using hd) v;obtain⟨hu,hsz⟩:=ok.zJ ht;have hun:=ok.gik htn;have wO:jr≤4096:=bM2 hby;have hbb:=bH'.1 ok.eb _ (jC hb);simp only[beq_iff_eq] at hbb;obtain⟨i,hi,hiz,his,hib⟩:=sD hsz hbb (ok.NH hz);subst his hib
 have hold:(Builtin.firstCells i.size s (.slice (some ⟨b,off,none⟩) s cap)).run P w.drew=.ok olds.toArray w.drew:=
  run_firstCells_some w.drew i.size s ⟨b,off,none⟩ s cap olds (by rw[hl]) (fun j u hj=>by rw[Addr.add_mid];exact hnews w hG j u hj)
 have h48:k*i.bytes≤281474976710656:=by
  calc k*i.bytes≤1000000*4096:=bY3 bB3 wO
   _≤_:=by decide
 have hfit:Builtin.nextslicecap (s+k) cap*i.bytes≤281474976710656:=by
  refine growslice_fits_wide bB3 ?_;have h2:(s+k+(s+k)/4+192)≤2000000:=by omega
  calc _≤2000000*i.bytes:=bK8 _ h2
   _≤2000000*4096:=bS' _ wO
   _≤_:=by decide
 have hr:=Lib.run_append_grow_zeros (P:=P) w t tn ty e i z kq kn hu hun hi hiz (some ⟨b,off,none⟩) s cap olds hold k hk0 hs0 hroom bB3 h48 hfit;refine wpList_plain rfl fun K hK=>?_;unfold Oper.wp execOp;simp only[resolve,invoke,builtin,Sem.run_bind,Sem.run_pure,Result.andThen_ok,bP5,bL9,bO9,hk.ev hx,hk.ev hy,hr];have hge:=grownCap_ge w (s+k) cap e;have hcm:grownCap w (s+k) cap e≤maxLen:=grownCap_le_maxLen w (s+k) cap e bE';have hG2:=(hG.drawn (w.drawn+1)).alloc (olds.toArray++Builtin.zeroCells z.cells k++Builtin.zeroCells z.cells (grownCap w (s+k) cap e-(s+k))) e;refine hK _ _ (h _ _ _ ?_ hge hcm ?_ _ _ (hput _) hG2)
 ·simp only[Array.size_append,bV3,size_zeroCells,hzs,hl,←bR0]
  congr 1
  omega
 ·simp only[Array.toList_append,bK7];rw[←hl];exact bY2
theorem av3{t u:TypeId}{p:Int}{ky:IntKind}{c:Int}{q:Int}(hx:ev l x=some (.int .u64 p))(hy:ev l y=some (.int ky c))(h0:0≤c)(h1:c≤64)(hq:p/2 ^ c.toNat=q):Hy P n w0 mu l hp ⟨dd,.binOp .shr t x y u,ty,pos,af,gg⟩ (.int .u64 q):=
 bQ fun ac w hk _=>by
  subst hq;simp only[execOp,hk.ev hx,hk.ev hy];simp[eqGuard_shr,binOp_shr,shift_shr_u64 (yk:=ky) (h₀:=h0) (h₁:=h1)]
theorem aI9{f:FuncId}{xs:List Operand}{tys:Array TypeId}(hv:evs l xs=some vs)(hr:∀ w,Good w0 mu hp w→(callFunc f vs.toArray).run P w=.ok (.value v) w):Hy P n w0 mu l hp ⟨dd,.call { callee:=.value (.func f),args:=xs.toArray,argTypes:=tys },ty,pos,af,gg⟩ v:=by
 refine bQ fun a w hk hG=>?_;have e:xs.toArray.map a.eval=vs.toArray:=by rw[←hk.evs hv];simp
 rw[Conc.execOp_call_func rfl,e];exact hr w hG
end
theorem SQ{A D:List Value}(hA:cs.toList.take A.length=A)(hs:A.length+c.length+D.length≤cs.size):
  (putAt (putAt cs (A.length+c.length) D) A.length c).toList.take (A.length+c.length+D.length)=A++c++D:=by
 have h1:(putAt cs (A.length+c.length) D).size=cs.size:=fO ..;rw[nG _ _ _ bB3,nG _ _ _ bB3];have ht:cs.toList.length=cs.size:=bU6
 have e1:((cs.toList.take (A.length+c.length)++D++cs.toList.drop (A.length+c.length+D.length)).take A.length)=A:=by
  rw[bK7,bX5,bX0,bK',show A.length-min (A.length+c.length) cs.toList.length=0 by omega,show min A.length (A.length+c.length)=A.length by omega,hA];simp
 have e2:((cs.toList.take (A.length+c.length)++D++cs.toList.drop (A.length+c.length+D.length)).drop (A.length+c.length))=D++cs.toList.drop (A.length+c.length+D.length):=by
  rw[bK7,bY7,bM0 bD8,bK',show A.length+c.length-min (A.length+c.length) cs.toList.length=0 by omega];simp
 rw[e1,e2];have:A++c++(D++cs.toList.drop (A.length+c.length+D.length))=(A++c++D)++cs.toList.drop (A.length+c.length+D.length):=by simp
 rw[this];exact bV1 bB9
theorem Og{A D:List Value}(hA:cs.toList.take A.length=A)(hs:A.length+c.length+D.length≤cs.size):
  (putAt (putAt cs A.length c) (A.length+c.length) D).toList.take (A.length+c.length+D.length)=A++c++D:=by
 have h1:(putAt cs A.length c).size=cs.size:=fO ..;rw[nG _ _ _ bB3,nG _ _ _ bB3,hA];have e1:((A++c++cs.toList.drop (A.length+c.length)).take (A.length+c.length))=A++c:=bV1 bB5;rw[e1];exact bV1 bB9
end
section
section
variable {P : Program} {T : Tab} {n : Nat} {w0 : World} {mu : List Nat} {l : Fm} {hp : Hp} {dd : Option Tmp} {ty : TypeId} {pos : String} {af : Array Edge} {gg : Option (Nat × Bool)} {Q : Exit → Fm → Hp → Prop} {all : Array Oper} {rest : List Oper}
theorem aI'(ok:bC P T){c:Nat}{p:Option Addr}(hx:ev l x=some (.slice p m c))(ht:lk T.sl t=some (e,sz)):
  Hy P n w0 mu l hp ⟨dd,.call { callee:=.builtin .cap,args:=#[x],argTypes:=#[t] },ty,pos,af,gg⟩ (.int .i64 c):=by
 obtain⟨hu,hsz⟩:=ok.zJ ht;refine bQ fun a w hk _=>?_;have hr:=run_cap_slice (P:=P) w t ty p m c (oN hu);simp only[execOp,resolve,invoke,builtin,Sem.run_bind,Sem.run_pure,Result.andThen_ok,bP5,bL9,bO9,hk.ev hx,hr];rfl
theorem zY (ok : bC P T) {lf : Fm} {len:Nat}  {ps : List (Nat × Operand)} {vs : List (Nat × Value)} {zl : List Value} {out : Array Value} {out' : List Value} (ht : lk T.sl t = some (e, sz)) (hz : lk T.zs e = some z) (hzc : z.cells = zl.toArray) (hzs : Nat.beq zl.length sz = true) (hpos : (Nat.blt 0 (len * sz) && Nat.ble (len * sz) 16777216) = true) (hv : Fh lf ps = some vs) (hf : flS sz (rep zl len).toArray vs = some out) (hn : out = out'.toArray) :
    BV P n w0 mu all lf hp ⟨dd, .buildSlice t len ps.toArray, ty, pos, af, none⟩ (fun v hn => ∃ b, v = .slice (some ⟨b, 0, none⟩) len len ∧ hn = [⟨b, out'.toArray, e⟩]) := by
  subst hn;have hzs' : zl.length = sz := by simpa using hzs
  rw [bH6] at hpos;obtain ⟨hp1, hp2⟩ := hpos;replace hp1 : 0 < len * sz := by simpa using hp1
  replace hp2 : len * sz ≤ 16777216 := bM2 hp2
  have hsp : 0 < sz := by rcases bU' sz with h | h; · rw [h] at hp1; simp at hp1
                          · exact h
  refine Iy (F := fun b => .slice (some ⟨b, 0, none⟩) len len) rfl _ _ fun a w hk => ?_;have e1 : (ps.toArray.map fun x => (x.1, a.eval x.2)) = vs.toArray := by rw [← hk.Fh hv]; simp
  obtain ⟨hu, hs⟩ := ok.zJ ht;have hr := NY z.cells (by rw [hzc]; simpa [hzs'] using hsp) len;have hsz : z.cells.size = sz := by rw [hzc]; simpa using hzs'
  rw [hsz] at hr;simp only [execOp, Instr.buildSlice, Sem.run_bind, run_underlying hu w, Result.andThen_ok, run_sizeOf hs w, e1];rw [if_neg bB3];simp only [Sem.run_bind, Sem.run_pure, Result.andThen_ok, if_neg (show ¬ len * sz = 0 by omega), pK (ok.NH hz) w, hsz, hr];rw [show z.cells.toList = zl by rw [hzc]];simp only [bP4, J5 _ _ _ _ hf];simp [go_sem]
end
end
section
attribute [local irreducible] Hy St Ops DH dH
theorem Own.row(hA:Own e sz v h xs)(hn:xs.length=n)(h0:0<n):∃ g cap cur,v=.slice (some ⟨g,0,none⟩) n cap∧h=[⟨g,cur,e⟩]∧Row g cap cur sz n xs.flatten:=by
 rcases hA.2 with⟨rfl,rfl,rfl⟩ | ⟨g,cap,cur,rfl,rfl,hrow⟩
 ·simp at hn;omega
 ·subst hn;exact⟨g,cap,cur,rfl,rfl,hrow⟩
theorem dZ{xs:List (List Value)}(hall:∀ c∈xs,c.length=sz∧c.all (·.oneCell')=true)(hle:xs.length≤1000000):∃ v hn,Own e sz v hn xs:=by
 have hl:=dU xs (fun c hc=>(hall c hc).1);exact⟨_,_,hall,.inr ⟨0,xs.length,xs.flatten.toArray,rfl,rfl,⟨hl,bI9 _,by unfold maxLen;omega,by rw[bV3];exact hl,by rw[←hl,bN4]⟩⟩⟩
theorem IM{xs:List Int}:∀ c∈xs.map bY,c.length=1∧c.all (·.oneCell')=true:=fun c hc=>by obtain⟨x,_,rfl⟩:=bI7.1 hc;exact⟨rfl,rfl⟩
theorem aA.zZ{α:Type}{f:Nat→List Value}(hle:n≤281474976710656)(h:∀ i,i<n→w.rangeAt b (0+i*sz) (f i)):aA w (.slice (some ⟨b,0,none⟩) n cap) sz ((List.range n).map f):=by
 refine⟨⟨_,cap,by simp,fun _=>⟨b,0,rfl,fun i c hc=>?_⟩⟩,by simpa using hle⟩;have hi:i<n:=by have:=(bJ8.1 hc).1;simpa using this
 rw[iH _ hi] at hc;cases hc;exact h i hi
theorem map_range{β:Type}[Inhabited α](xs:List α)(f:α→β):(List.range xs.length).map (fun i=>f (xs.getD i default))=xs.map f:=by
 apply bQ8;intro i;by_cases hi:i<xs.length
 ·simp[hi]
 ·simp[hi]
theorem WL(A L R:Hp):(L++(R++A)).Perm (A++(L++R)):=by
 rw[←bK7];exact bJ5
theorem Good.here'{hi:Hp}(hG:Good w0 mu hp w)(hm:aI hi hp):Here hi w:=(hG.le hm).here
theorem Row.cut{cur:Array Value}{xs:List (List Value)}(h:Row g cap cur sz n xs.flatten)(hall:∀ c∈xs,c.length=sz)(hi:xs[i]?=some c):(cur.toList.drop (i*sz)).take sz=c:=by
 have hf:=lS hall hi;rw[←h.take] at hf;have hlt:i<xs.length:=(bJ8.1 hi).1;have hn:xs.length*sz=n*sz:=by rw[←dU xs hall,h.len]
 have hle:i*sz+sz≤n*sz:=by rw[←hn,←bN6];exact bK8 _ hlt
 rwa [List.drop_take,bX0,bP7 bB3] at hf
theorem wz{l:Fm}{Q:Exit→Fm→Hp→Prop}{all:Array Oper}{rest:List Oper}{ty:TypeId}{pos:String}{af:Array Edge}{jr cc:Nat}{ha:Hp}(hp':Hp)(hA:Own e sz v ha xs)(h:∀ v' ha',Own e sz v' ha' (xs++[c])→Ops Tryz.prog n w0 mu all rest ((d,v')::l) (ha'++hp') Q)(h63:xs.length<1000000)(hnews:lI w0 mu hp a 0 c)
  (hperm:(ha++hp').Perm hp) (hd:Nat.blt d n=true:=by rfl) (hx:ev l x=some v:=by rfl) (hy:ev l y=some (.slice (some ⟨a,0,none⟩) 1 cc):=by rfl) (ht:lk Tb.sl t=some (e,sz):=by rfl)
  (hz:lk Tb.zs e=some z:=by rfl) (hzs:z.cells.size=sz:=by rfl) (hb:lk Tb.eb e=some jr:=by rfl) (hby:Nat.ble jr 4096=true:=by rfl) (hl:c.length=sz:=by rfl) (h1:c.all (·.oneCell')=true:=by rfl):Ops Tryz.prog n w0 mu all (⟨some d,.call { callee:=.builtin .append,args:=#[x,y],argTypes:=#[t,t] },ty,pos,af,none⟩::rest) l hp Q:=
 SI aB hA hd hx hy ht hz hzs hb hby hperm hl hnews h1 h63 h
theorem pY{l:List α}{a:α}(h:l[i]?=some a):l.set i a=l:=by
 apply bQ8;intro j;by_cases hj:i=j
 ·subst hj;have hlt:=(bJ8.1 h).1;rw[List.getElem?_set_self hlt,h]
 ·rw[bZ7 hj]
theorem Own.aa6{xs:List Int}(hA:Own e 1 v h (xs.map bY))(hk:k<xs.length):∃ g cap cur,v=.slice (some ⟨g,0,none⟩) xs.length cap∧h=[⟨g,cur,e⟩]∧nth cur.toList k=some (.int .i64 (xs.getD k 0))∧k+1≤cur.size ∧
  ∀ z,Own e 1 v [⟨g,cur.setIfInBounds k (.int .i64 z),e⟩] ((xs.set k z).map bY):=by
 obtain⟨g,cap,cur,rfl,rfl,hr⟩:=hA.row (n:=xs.length) bB5 bB3;have hall:∀ c∈xs.map bY,c.length=1:=fun c hc=>(IM c hc).1
 have hi:(xs.map bY)[k]?=some (bY (xs.getD k 0)):=by
  rw[bJ',bH8,bH9 hk];rfl
 have h1:=hr.nth hall hi (k:=0) rfl;rw[bK3,bL4] at h1;have hsz:=hr.size;have hle:=hr.le;refine⟨g,cap,cur,rfl,rfl,h1,by omega,fun z=>⟨IM,.inr ⟨g,cap,_,by simp,rfl,?_⟩⟩⟩;have h2:=hr.put hall hi (k:=0) (vs:=[.int .i64 z]) bB5;have e1:(bY (xs.getD k 0)).take 0++[Value.int .i64 z]++(bY (xs.getD k 0)).drop (0+[Value.int .i64 z].length)=bY z:=rfl;rw[e1,bK3,bL4] at h2;have e2:((xs.set k z).map bY).length=xs.length:=by simp
 rw[e2,bN8];exact h2
theorem WM{a b c:Hp}(h:a=b)(h2:aI b c):aI a c:=h▸h2
theorem Own.sV(hA:Own e sz v h xs):∃ p cap,v=.slice p xs.length cap∧xs.length≤cap:=by
 rcases hA.2 with⟨rfl,rfl,rfl⟩ | ⟨g,cap,cur,rfl,rfl,hrow⟩
 ·exact⟨_,_,rfl,bI9 _⟩
 ·exact⟨_,_,rfl,hrow.le⟩
theorem aV{o:Nat}{us:List Value}(h:w.rangeAt b o vs)(hu:(vs.drop k).take n=us):w.rangeAt b (o+k) us:=by
 intro j u hj;subst hu;rw[bM7] at hj;split at hj
 ·rw[bP2] at hj;rw[bV2];exact h (k+j) u hj
 ·cases hj
theorem dW[Inhabited α]{xs:List α}(h:k<xs.length):xs.take (k+1)=xs.take k++[xs.getD k default]:=by
 rw[bM5 h,bH8,bH9 h];rfl
end
section
attribute [local irreducible] Hy St Ops DH dH
theorem Fn.some{P:Program}{f:FuncId}{args:Array Value}{R:Value→Hp→Prop}(h:Fn P f args w mu R):∃ v hp,R v hp:=by
 obtain⟨e,w',fr,⟨v,hp,_,_,hr⟩,_⟩:=h [];exact⟨v,hp,hr⟩
section
variable {P : Program} {T : Tab} {n : Nat} {w0 : World} {mu : List Nat} {l : Fm} {dd : Option Nat} {ty : TypeId} {pos : String} {af : Array Edge} {gg : Option (Nat × Bool)}
end
section
variable {n : Nat} {w0 : World} {mu : List Nat} {l : Fm} {hp : Hp} {Q : Exit → Fm → Hp → Prop} {all : Array Oper} {rest : List Oper} {ty : TypeId} {pos : String} {af : Array Edge}
theorem wB{jr cc:Nat}{ha:Hp}(ys:List (List Value))(hp':Hp)(hA:Own e sz v ha xs)(h0:0<xs.length)(h:∀ v' ha',Own e sz v' ha' (xs++ys)→Ops Tryz.prog n w0 mu all rest ((d,v')::l) (ha'++hp') Q)(h63:xs.length+m<1000000)(hm:ys.length=m)(hall:∀ c∈ys,c.length=sz∧c.all (·.oneCell')=true)(hnews:lI w0 mu hp a 0 ys.flatten)
  (hperm:(ha++hp').Perm hp) (hd:Nat.blt d n=true:=by rfl) (hx:ev l x=some v:=by rfl) (hy:ev l y=some (.slice (some ⟨a,0,none⟩) m cc):=by rfl) (ht:lk Tb.sl t=some (e,sz):=by rfl)
  (hz:lk Tb.zs e=some z:=by rfl) (hzs:z.cells.size=sz:=by rfl) (hb:lk Tb.eb e=some jr:=by rfl) (hby:Nat.ble jr 4096=true:=by rfl):Ops Tryz.prog n w0 mu all (⟨some d,.call { callee:=.builtin .append,args:=#[x,y],argTypes:=#[t,t] },ty,pos,af,none⟩::rest) l hp Q:=by
 have wO:jr≤4096:=bM2 hby;have hfl:=dU ys (fun c hc=>(hall c hc).1);rcases hA.2 with⟨rfl,rfl,rfl⟩ | ⟨g,cap,cur,rfl,rfl,hrow⟩
 ·simp at h0
 ·refine vS aB hd hx hy ht hz hzs hb hperm hrow (news:=ys.flatten) (by rw[hfl,hm]) hnews ?_ bB3 ?_ fun g cap cur hr=>?_
  ·rw[List.all_flatten,bH'];exact fun c hc=>(hall c hc).2
  ·have h2:(xs.length+m+(xs.length+m)/4+192)≤2000000:=by omega
   calc _≤2000000*jr:=bK8 _ h2
    _≤2000000*4096:=bS' _ wO
    _≤_:=by decide
  ·have:=h (.slice (some ⟨g,0,none⟩) (xs.length+m) cap) [⟨g,cur,e⟩] ⟨fun c hc=>?_,.inr ⟨g,cap,cur,by rw[bJ9,hm],rfl,by rw[bJ9,hm,bU7];exact hr⟩⟩
   ·exact this
   ·rcases bK4.1 hc with hc | hc
    ·exact hA.1 c hc
    ·exact hall c hc
end
section
variable {P : Program} {T : Tab} {n : Nat} {w0 : World} {mu : List Nat} {l : Fm} {hp : Hp} {dd : Option Nat} {ty : TypeId} {pos : String} {af : Array Edge} {gg : Option (Nat × Bool)} {t u : TypeId} {x y : Operand}
theorem D8(hx:ev l x=some (.int .u64 pi))(hy:ev l y=some (.int .u64 qi))(p q:Nat)(hpi:pi=(p:Int))(hqi:qi=(q:Int))(h1:p<18446744073709551616)(h2:q<18446744073709551616):Hy P n w0 mu l hp ⟨dd,.binOp .and t x y u,ty,pos,af,gg⟩ (.int .u64 ((p &&& q:Nat):Int)):=
 bQ fun ac w hk _=>by
  subst hpi hqi;have:=u64_and_nat p q h1 h2;simp only[execOp,hk.ev hx,hk.ev hy];simp[eqGuard_and,binOp_and,intBits_and,this]
theorem QH(hx:ev l x=some (.int .u64 pi))(hy:ev l y=some (.int .u64 qi))(p q:Nat)(hpi:pi=(p:Int))(hqi:qi=(q:Int))(h1:p<18446744073709551616)(h2:q<18446744073709551616):Hy P n w0 mu l hp ⟨dd,.binOp .or t x y u,ty,pos,af,gg⟩ (.int .u64 ((p ||| q:Nat):Int)):=
 bQ fun ac w hk _=>by
  subst hpi hqi;have:=u64_or_nat p q h1 h2;simp only[execOp,hk.ev hx,hk.ev hy];simp[eqGuard_or,binOp_or,intBits_or,this]
theorem Gu(hx:ev l x=some (.int .u64 pi))(hy:ev l y=some (.int .u64 qi))(p q:Nat)(hpi:pi=(p:Int))(hqi:qi=(q:Int))(h1:p<18446744073709551616)(h2:q<18446744073709551616):Hy P n w0 mu l hp ⟨dd,.binOp .andNot t x y u,ty,pos,af,gg⟩ (.int .u64 ((p &&& (18446744073709551615-q):Nat):Int)):=
 bQ fun ac w hk _=>by
  subst hpi hqi;have:=u64_andNot_nat p q h1 h2;simp only[execOp,hk.ev hx,hk.ev hy];simp[eqGuard_andNot,binOp_andNot,intBits_andNot,this]
theorem IP{ky:IntKind}(hx:ev l x=some (.int .u64 pi))(hy:ev l y=some (.int ky qi))(p c:Nat)(hpi:pi=(p:Int))(hqi:qi=(c:Int))(h1:c≤64):Hy P n w0 mu l hp ⟨dd,.binOp .shr t x y u,ty,pos,af,gg⟩ (.int .u64 ((p >>> c:Nat):Int)):=
 bQ fun ac w hk _=>by
  subst hpi hqi;simp only[execOp,hk.ev hx,hk.ev hy];have e:(p:Int)/2 ^ ((c:Int).toNat)=((p >>> c:Nat):Int):=by rw[bP6];simp
  simp[eqGuard_shr,binOp_shr,shift_shr_u64 (yk:=ky) (h₀:=bW9 c) (h₁:=by omega)];simpa using e
theorem Aa{ky:IntKind}(hx:ev l x=some (.int .u64 pi))(hy:ev l y=some (.int ky qi))(p c:Nat)(hpi:pi=(p:Int))(hqi:qi=(c:Int))(h1:c≤64):Hy P n w0 mu l hp ⟨dd,.binOp .shl t x y u,ty,pos,af,gg⟩ (.int .u64 (((p <<< c)%18446744073709551616:Nat):Int)):=
 bQ fun ac w hk _=>by
  subst hpi hqi;simp only[execOp,hk.ev hx,hk.ev hy];have e:IntKind.u64.wrap ((p:Int)*2 ^ ((c:Int).toNat))=(((p <<< c)%18446744073709551616:Nat):Int):=by rw[IntKind.wrap_u64,Nat.shiftLeft_eq];simp
  simp[eqGuard_shl,binOp_shl,shift_shl_u64 (yk:=ky) (h₀:=bW9 c) (h₁:=by omega)];simpa using e
theorem av4{ky:IntKind}(hx:ev l x=some (.int .i64 pi))(hy:ev l y=some (.int ky qi))(p c:Nat)(hpi:pi=(p:Int))(hqi:qi=(c:Int))(h1:c≤64):Hy P n w0 mu l hp ⟨dd,.binOp .shr t x y u,ty,pos,af,gg⟩ (.int .i64 ((p >>> c:Nat):Int)):=
 bQ fun ac w hk _=>by
  subst hpi hqi;simp only[execOp,hk.ev hx,hk.ev hy];have e:(p:Int)/2 ^ ((c:Int).toNat)=((p >>> c:Nat):Int):=by rw[bP6];simp
  have hs:=shift_shr .i64 ky (p:Int) (c:Int) (bW9 c) (by show (c:Int)≤64;omega);simp only[eqGuard_shr,binOp_shr,hs,e];simp
theorem D9{ky:IntKind}(hx:ev l x=some (.int .i64 pi))(hy:ev l y=some (.int ky qi))(p c:Nat)(hpi:pi=(p:Int))(hqi:qi=(c:Int))(h1:c≤64)(hb:p <<< c<9223372036854775808):Hy P n w0 mu l hp ⟨dd,.binOp .shl t x y u,ty,pos,af,gg⟩ (.int .i64 ((p <<< c:Nat):Int)):=
 bQ fun ac w hk _=>by
  subst hpi hqi;simp only[execOp,hk.ev hx,hk.ev hy]
  have e:IntKind.i64.wrap ((p:Int)*2 ^ ((c:Int).toNat))=((p <<< c:Nat):Int):=by
   have h2:(p:Int)*2 ^ ((c:Int).toNat)=((p <<< c:Nat):Int):=by rw[Nat.shiftLeft_eq];simp
   rw[h2,IntKind.wrap_i64];generalize p <<< c=z at hb;omega
  have hs:=shift_shl .i64 ky (p:Int) (c:Int) (bW9 c) (by show (c:Int)≤64;omega);simp only[eqGuard_shl,binOp_shl,hs,e];simp
theorem uK{k:IntKind}(hx:ev l x=some (.int k pi))(hy:ev l y=some (.int k qi))(p q:Nat)(hpi:pi=(p:Int))(hqi:qi=(q:Int))(hq:0<q):Hy P n w0 mu l hp ⟨dd,.binOp .rem t x y u,ty,pos,af,gg⟩ (.int k ((p%q:Nat):Int)):=
 bQ fun ac w hk _=>by
  subst hpi hqi;have h1:(p:Int).tmod q=((p%q:Nat):Int):=by rw[Int.tmod_eq_emod_of_nonneg bB3];simp
  have h2:¬ (q=0):=by omega
  simp only[execOp,hk.ev hx,hk.ev hy];simp[eqGuard_rem,binOp_rem,Op.intDiv,h1,h2]
theorem uM(hx:ev l x=some (.int .i64 pi))(hy:ev l y=some (.int .i64 qi))(p q:Nat)(hpi:pi=(p:Int))(hqi:qi=(q:Int))(hq:0<q)(hb:p<9223372036854775808):Hy P n w0 mu l hp ⟨dd,.binOp .quo t x y u,ty,pos,af,gg⟩ (.int .i64 ((p/q:Nat):Int)):=
 bQ fun ac w hk _=>by
  subst hpi hqi;have h1:(p:Int).tdiv q=((p/q:Nat):Int):=by rw[Int.tdiv_eq_ediv_of_nonneg bB3];simp
  have h2:¬ (q=0):=by omega
  have h3:p/q≤p:=Nat.div_le_self _ _
  have h4:IntKind.i64.wrap ((p/q:Nat):Int)=((p/q:Nat):Int):=by
   generalize p/q=z at h3;rw[IntKind.wrap_i64];omega
  simp only[execOp,hk.ev hx,hk.ev hy];rw[show ((p/q:Nat):Int)=(p:Int)/(q:Int) by simp] at h4;simp[eqGuard_quo,binOp_quo,Op.intDiv,h1,h2,h4]
end
section
variable {n : Nat} {w0 : World} {mu : List Nat} {l : Fm} {hp : Hp} {Q : Exit → Fm → Hp → Prop} {all : Array Oper} {rest : List Oper} {ty : TypeId} {pos : String} {af : Array Edge} {ds : List (Nat × Nat)} {tail : List Oper} {i : Nat} {iv fr : Fm}
theorem SS{dj:Nat}{want b:Bool}{op:Op}(hj:(all[j]?).bind (·.dst)=some dj:=by rfl)(hb:look (aT ds iv af.toList++l) dj=some (.bool b):=by rfl)(hdj:Nat.blt dj n=true:=by rfl)(hlk:lk ds i=some d:=by rfl)
  (hy:jd b want=true→Hy Tryz.prog n w0 mu (aT ds iv af.toList++l) hp ⟨some d,op,ty,pos,af,some (j,want)⟩ v) (h:dH Tryz.prog n w0 mu all ds tail l hp Q (i+1) rest ((i,gv (jd b want) v)::iv) ((d,gv (jd b want) v)::fr)):dH Tryz.prog n w0 mu all ds tail l hp Q i (⟨some d,op,ty,pos,af,some (j,want)⟩::rest) iv fr:=
 VU hlk hj hb hdj hy h
theorem Vh{dj:Nat}{want b:Bool}{op:Op}(hj:(all[j]?).bind (·.dst)=some dj:=by rfl)(hb:look l dj=some (.bool b):=by rfl)(hdj:Nat.blt dj n=true:=by rfl)(hd:Nat.blt d n=true:=by rfl)
  (hy:jd b want=true→Hy Tryz.prog n w0 mu l hp ⟨some d,op,ty,pos,af,some (j,want)⟩ v) (h:Ops Tryz.prog n w0 mu all rest ((d,gv (jd b want) v)::l) hp Q):Ops Tryz.prog n w0 mu all (⟨some d,op,ty,pos,af,some (j,want)⟩::rest) l hp Q:=
 Sj hd hj hb hdj hy h
theorem av5{dj:Nat}{want c0 b:Bool}{op:Op}(hj:(all[j]?).bind (·.dst)=some dj:=by rfl)(hb:look l dj=some (gv c0 (.bool b)):=by rfl)(hdj:Nat.blt dj n=true:=by rfl)(hd:Nat.blt d n=true:=by rfl)
  (hy:c0=true→jd b want=true→Hy Tryz.prog n w0 mu l hp ⟨some d,op,ty,pos,af,some (j,want)⟩ v) (h:Ops Tryz.prog n w0 mu all rest ((d,gv (c0&&jd b want) v)::l) hp Q):Ops Tryz.prog n w0 mu all (⟨some d,op,ty,pos,af,some (j,want)⟩::rest) l hp Q:=
 Dy hd hj hb hdj hy h
end
section
variable {n : Nat} {w0 : World} {mu : List Nat} {l : Fm} {hp : Hp} {all : Array Oper} {ty : TypeId} {pos : String} {af : Array Edge} {ds : List (Nat × Nat)} {S E : List Nat} {iv : Fm} {Rs : List (Nat × RT)} {X : Fm → Prop} {Z : List (Nat × RT) → Prop} {i d : Nat}
theorem av6{dj:Nat}{want b:Bool}{op:Op}(hy:∀ hx,jd b want=true→Hy Tryz.prog n w0 mu (aT ds iv af.toList++l) (hx++hp) ⟨some d,op,ty,pos,af,some (j,want)⟩ v)(h:jg Tryz.prog n w0 mu all ds l hp X S ((i,gv (jd b want) v)::iv))
  (ho:all[i]?=some ⟨some d,op,ty,pos,af,some (j,want)⟩:=by rfl) (hj:(all[j]?).bind (·.dst)=some dj:=by rfl) (hb:look (aT ds iv af.toList++l) dj=some (.bool b):=by rfl) (hdj:Nat.blt dj n=true:=by rfl):jg Tryz.prog n w0 mu all ds l hp X (i::S) iv:=
 ⟨_,_,ho,fun hx=>⟨dj,true,b,v,hj,hb,hdj,fun _ hg=>hy hx hg,rfl⟩,h⟩
theorem eBS{len:Nat}{ps:List (Nat×Operand)}{vs:List (Nat×Value)}{zl:List Value}{out:Array Value}(out':List Value)(h:iP Tryz.prog n w0 mu all ds l hp iv Z E ((i,fun v hn=>∃ b,v=.slice (some ⟨b,0,none⟩) len len∧hn=[⟨b,out'.toArray,e⟩])::Rs))(ho:all[i]?=some ⟨some d,.buildSlice t len ps.toArray,ty,pos,af,none⟩:=by rfl)(ht:lk Tb.sl t=some (e,sz):=by rfl)(hz:lk Tb.zs e=some z:=by rfl)(hzc:z.cells=zl.toArray:=by (first | ((simp only[Value.cells])<;>rfl) | rfl))(hzs:Nat.beq zl.length sz=true:=by rfl)(hpos:(Nat.blt 0 (len*sz)&&Nat.ble (len*sz) 16777216)=true:=by rfl)(hv:Fh (aT ds iv af.toList++l) ps=some vs:=by rfl)(hf:flS sz (rep zl len).toArray vs=some out:=by rfl)(hn:out=out'.toArray:=by rfl):iP Tryz.prog n w0 mu all ds l hp iv Z (i::E) Rs:=
 Kv ho (zY aB ht hz hzc hzs hpos hv hf hn) ⟨_,_,0,rfl,rfl⟩ h
end
end
section
def isQ:Op→Bool
 | .assign _=>true
 | .move _=>true
 | _=>false
def IQ(ops:Array Oper)(k i:Nat):Bool:=
 match ops[k]?,ops[i]? with
 | some ok,some oi=>
  !Nat.beq i k&&ok.guard.isNone&&isQ ok.op&&(oi.after.all fun e=>!Region.binds .any e||mem (DL ops k (deps ops k)) e.on) &&
   (List.range ops.size).all fun t=>Nat.beq t k||mem (DL ops k (deps ops k)) t||(Region.waitsFor .any ops t k&&Region.waitsFor .any ops t i) ||
    (match ops[t]? with | some ot=>We ot.op&&ok.apart ops ot&&!Region.waitsFor .any ops t k | none=>false)
 | _,_=>false
section
variable {P : Program} {ops : Array Oper} {Q' : Exit → Act → World → Prop} {k i : Nat} {listed : Array Bool}
theorem SV{oi oj:Oper}(hj:ops[j]?=some oj)(hap:oi.apart ops oj=true)(hsi:∀ cs b,oi.op≠.select cs b)(hsj:∀ cs b,oj.op≠.select cs b)
  (hP:∀ c a w,¬ Q' (.panic c) a w) (hO:¬ LetsOut Q') {K K2:Act→World→Prop} {a:Act} 
  (hy:Yields P ops oi v a) (h:wpOp P ops Q' j K a w) (hK:∀ a' w',Yields P ops oi v a'→K a' w'→K2 (a'.put oi.dst v) w'):wpOp P ops Q' j K2 (a.put oi.dst v) w:=by
 obtain⟨h1,h2,h3⟩:=Oper.apart_spec hap
 have keep:∀ (a:Act),Yields P ops oi v a→∀ u,Yields P ops oi v (a.put oj.dst u):=fun a hy u=>
  hy.of_same (execOp_put oi hsi a oj.dst u h3) (wanted_put oi a oj.dst u h3)
 have keepD:∀ d,Yields P ops oi v { a with defers:=d::a.defers }:=fun d=>hy.of_same rfl rfl;unfold wpOp at *;simp only[hj] at *;rw[wanted_put oj a oi.dst v h1];split
 ·rename_i hw;simp only[hw,if_true] at h;rcases h with h | ⟨hasks,hlets⟩
  case inr=>exact absurd hlets hO
  refine .inl ?_;unfold Oper.wp at *;rw[execOp_put oj hsj a oi.dst v h1];generalize (execOp a.eval oj).run P w=r at *
  cases r with
  | ok n w'=>
   cases n<;>simp only[Oper.upon] at h ⊢
   case value u=>rw[Act.put_comm a v u h2];exact hK _ _ (keep a hy u) h
   case skip=>rw[Act.put_comm a v undef h2];exact hK _ _ (keep a hy _) h
   case defer d=>
    have:=hK _ _ (keep _ (keepD d) undef) h;rw[←Act.put_comm _ v undef h2,←Act.put_defers] at this;exact this
   case enter f args=>
    refine Calls.mono h fun e w'' he=>?_
    cases e with
    | returned u=>
     show K2 ((a.put oi.dst v).put oj.dst u) w''
     rw[Act.put_comm a v u h2];exact hK _ _ (keep a hy u) he
    | panicked c=>exact absurd he (hP _ _ _)
    | outgrown=>exact he
   case row row args=>exact Rows.mono h fun u w'' he=>by rw[Act.put_comm a v u h2];exact hK _ _ (keep a hy u) he
  | halt x w'=>
   cases x<;>simp only[Oper.upon] at h ⊢
   case panic u=>exact absurd h (hP _ _ _)
 ·rename_i hw;simp only[hw] at h;rw[Act.put_comm a v undef h2];exact hK _ _ (keep a hy _) h
def Unl(listed:Array Bool)(n:Nat):Prop:=∀ T:List Nat,T.Nodup→(∀ t∈T,listed.getD t true=false)→T.length≤n
theorem Unl.set(h:Unl listed (n+1))(hj:listed.getD j true=false)(hs:j<listed.size):Unl (listed.setIfInBounds j true) n:=by
 intro T hT hu;have hjT:j∉T:=fun hm=>by have:=hu j hm;simp[hs] at this
 have:=h (j::T) (bO4.2 ⟨hjT,hT⟩) (fun t ht=>by
  rcases bJ3.1 ht with rfl | ht
  ·exact hj
  ·have h1:=hu t ht
   rwa [getD_set_ne true (show j≠t from fun e=>hjT (by rw[e];exact ht))] at h1)
 simpa using this
theorem WN:∀ (n:Nat) (T:List Nat),T.Nodup→(∀ t∈T,t<n)→T.length≤n:=by
 intro n
 induction n with
 | zero=>
  intro T hT hl
  cases T with
  | nil=>exact bI9 _
  | cons a r=>exact absurd (hl a (bI8 ..)) bB3
 | succ n ih=>
  intro T hT hl;by_cases hn:n∈T
  ·have h1:=ih (T.erase n) (hT.erase n) fun t ht=>by
    have h2:=(hT.mem_erase_iff).1 ht;have h3:=hl t h2.2;have h4:=h2.1;omega
   rw[List.length_erase_of_mem hn] at h1;omega
  ·have:=ih T hT fun t ht=>by
    have h3:=hl t ht;have h4:t≠n:=fun e=>hn (by rw[←e];exact ht);omega
   omega
theorem KH{k:Nat}{o:Oper}{e:Edge}(ho:ops[t]?=some o)(he:e∈o.after)(hb:Region.binds .any e=true)(hek:e.on=k):Region.waitsFor .any ops t k=true:=by
 unfold Region.waitsFor;rw[ho];exact Array.any_eq_true'.2 ⟨e,he,by simp[hb,hek]⟩
theorem Oh{k:Nat}(ht:t∈Region.ready .any ops (listed.setIfInBounds k true))(hk:t≠k)(hw:Region.waitsFor .any ops t k=false):t∈Region.ready .any ops listed:=by
 obtain⟨h0,o,ho,ha⟩:=mem_ready.1 ht;refine mem_ready.2 ⟨by rwa [getD_set_ne true (bP0 hk)] at h0,o,ho,fun e he hb=>?_⟩;have h1:=ha e he hb;by_cases hek:e.on=k
 ·exfalso;have:Region.waitsFor .any ops t k=true:=KH ho he hb hek;rw[hw] at this;cases this
 ·rwa [getD_set_ne false (bP0 hek)] at h1
theorem Oi(hB:IQ ops k i=true)(hP:∀ c a w,¬ Q' (.panic c) a w)(hO:¬ LetsOut Q'):
  ∀ (fuel:Nat) (listed:Array Bool) (a:Act) (w:World),listed.size=ops.size→Closed ops listed→Unl listed fuel→wpAny P .any (addEdge ops k i) Q' fuel listed a w→wpAny P .any ops Q' fuel listed a w:=by
 unfold IQ at hB
 cases hok:ops[k]? with
 | none=>rw[hok] at hB;cases hB
 | some ok=>
  cases hoi:ops[i]? with
  | none=>rw[hok,hoi] at hB;cases hB
  | some oi=>
   rw[hok,hoi] at hB;simp only[bH6] at hB;obtain⟨⟨⟨⟨hne,hgu⟩,hq⟩,au5⟩,hall⟩:=hB;have hik:i≠k:=fun e=>by rw[e] at hne;simp at hne
   have Sz:ok.guard=none:=by simpa using hgu
   have his:i<ops.size:=(bK5.1 hoi).1;have hks:k<ops.size:=(bK5.1 hok).1;have aT9:∀ cs b,ok.op≠.select cs b:=fun cs b e=>by rw[e] at hq;cases hq
   have hqy:∀ a:Act,∃ u,Yields P ops ok u a:=fun a=>by
    obtain⟨d,op,ty,pos,af,gu⟩:=ok;simp only at Sz;subst Sz;cases op<;>simp only[isQ,bO6] at hq
    ·exact⟨_,.inl ⟨by simp[Region.wanted],fun w=>by simp[execOp];rfl⟩⟩
    ·exact⟨_,.inl ⟨by simp[Region.wanted],fun w=>by simp[execOp];rfl⟩⟩
   have hqk:∀ {u:Value} {a:Act} {w:World} {K:Act→World→Prop},Yields P ops ok u a→wpOp P ops Q' k K a w→K (a.put ok.dst u) w:=by
    intro u a w K hy h;unfold wpOp at h;simp only[hok] at h;rcases hy with⟨hw,hv⟩ | ⟨hw,rfl⟩
    ·simp only[hw,if_true] at h;rcases h with h | ⟨_,h⟩
     ·simp only[Oper.wp,hv w,Oper.upon] at h;exact h
     ·exact absurd h hO
    ·simp only[hw,bO6,if_false] at h;exact h
   have Iz:∀ listed:Array Bool,listed.size=ops.size→Closed ops listed→k∈Region.ready .any ops listed→listed.getD i true=false→i∈Region.ready .any ops listed:=by
    intro listed hsz hcl hr hi;refine mem_ready.2 ⟨hi,oi,hoi,fun e he hb=>?_⟩;have h1:=(bN2.1 au5) e he;rw[hb] at h1;exact vV hcl hr _ (by simpa using h1)
   have yx:∀ listed:Array Bool,listed.size=ops.size→k∈Region.ready .any ops listed→listed.getD i true=true→k∈Region.ready .any (addEdge ops k i) listed:=by
    intro listed hsz hk hi;refine oL hk ?_
    cases hc:listed.getD i false with
    | true=>rfl
    | false=>rw[getD_in bB3 hc] at hi;cases hi
   have claim:∀ (m:Nat) (IH:∀ f,f≤m→∀ (listed:Array Bool) (a:Act) (w:World),listed.size=ops.size→Closed ops listed→Unl listed f→wpAny P .any (addEdge ops k i) Q' f listed a w→wpAny P .any ops Q' f listed a w)
     (listed:Array Bool) (a:Act) (w:World) (u:Value),listed.size=ops.size→Closed ops listed→Unl listed (m+1)→k∈Region.ready .any ops listed→Yields P ops ok u a→wpAny P .any (addEdge ops k i) Q' (m+1) listed a w→wpAny P .any ops Q' m (listed.setIfInBounds k true) (a.put ok.dst u) w:=by
    intro m
    induction m with
    | zero=>
     intro IH listed a w u hsz hcl hun hk hy h;have hk0:=(mem_ready.1 hk).1
     cases hi:listed.getD i true with
     | true=>
      have h1:=hqk hy (ny (h.2 k (yx listed hsz hk hi)))
      exact IH 0 (bI9 _) _ _ _ bH1 (hcl.set hk) (hun.set hk0 bB3) h1
     | false=>
      have:=hun [k,i] (by simp[bP0 hik]) (by intro t ht;simp only[bJ3,List.mem_nil_iff,or_false] at ht;rcases ht with rfl | rfl;exact hk0;exact hi)
      simp at this
    | succ m ih=>
     intro IH listed a w u hsz hcl hun hk hy h;have hk0:=(mem_ready.1 hk).1
     have direct:listed.getD i true=true→wpAny P .any ops Q' (m+1) (listed.setIfInBounds k true) (a.put ok.dst u) w:=fun hi=>by
      have h1:=hqk hy (ny (h.2 k (yx listed hsz hk hi)));exact IH (m+1) (bI9 _) _ _ _ bH1 (hcl.set hk) (hun.set hk0 bB3) h1
     refine⟨fun hnil=>?_,fun t ht=>?_⟩
     ·cases hi:listed.getD i true with
      | true=>exact (direct hi).1 hnil
      | false=>
       have:=ready_mono (Iz listed hsz hcl hk hi) hik;rw[hnil] at this;cases this
     ·have ht0:=(mem_ready.1 ht)
      obtain⟨hl0,ot,hot,hat⟩:=ht0;have htk:t≠k:=fun e=>by subst e;simp[hsz,hks] at hl0
      have hts:t<ops.size:=(bK5.1 hot).1;have h2:=bH'.1 hall t (bJ1.2 hts);simp only[bJ7,bH6,Nat.beq_eq] at h2;rcases h2 with ((h2 | h2) | h2) | h2
      ·exact absurd h2 htk
      ·exfalso;have h3:=vV hcl hk t h2;rw[getD_set_ne true (bP0 htk)] at hl0;rw[sJ hl0 bB3 false] at h3;cases h3
      ·have h3:=Wi hot ht h2.2;rw[getD_set_ne false (bP0 hik)] at h3
       have hi:listed.getD i true=true:=by
        cases hc:listed.getD i true with
        | true=>rfl
        | false=>rw[sJ hc bB3 false] at h3;cases h3
       exact (direct hi).2 t ht
      ·rw[hot] at h2;simp only[bH6,bJ6] at h2;obtain⟨⟨hns,hap⟩,hnw⟩:=h2;have htr:=Oh ht htk hnw;have h4:=ny (h.2 t (jM htk htr));refine SV hot hap aT9 (Ky hns) hP hO hy h4 fun a' w' hy' h5=>?_;have h6:=ih (fun f hf=>IH f bB3) (listed.setIfInBounds t true) a' w' u bH1 (hcl.set htr) (hun.set (mem_ready.1 htr).1 bB3) (ready_mono hk (bP0 htk)) hy' h5;rwa [Array.setIfInBounds_comm _ _ htk] at h6
   intro fuel
   induction fuel using Nat.strongRecOn with
   | ind fuel ih=>
   cases fuel with
   | zero=>
    intro listed a w hsz hcl hun h;refine⟨?_,h.2⟩;rw[bM9];intro j hj;have:=hun [j] bB5 (by intro t ht;rw[bN3.1 ht];exact (mem_ready.1 hj).1)
    simp at this
   | succ fuel=>
    intro listed a w hsz hcl hun h;refine⟨fun hnil=>h.1 ?_,fun j hj=>?_⟩
    ·rw[bM9];intro t ht;have:=DR ht;rw[hnil] at this;cases this
    ·by_cases hin:j∈Region.ready .any (addEdge ops k i) listed
     ·exact wpOp_mono (fun a w h=>ih fuel bB3 _ a w bH1 (hcl.set hj) (hun.set (mem_ready.1 hj).1 (by rw[hsz];obtain⟨_,o,ho,_⟩:=mem_ready.1 hj;exact (bK5.1 ho).1)) h) (ny (h.2 j hin))
     ·have hjk:j=k:=bT9 fun hc=>hin (jM hc hj);subst hjk;obtain⟨u,hy⟩:=hqy a;exact hy.wpOp hok (claim fuel (fun f hf=>ih f bB3) listed a w u hsz hcl hun hj hy h)
theorem WO{P:Program}{l:Fm}{Q:Exit→Fm→Hp→Prop}{ops ops':Array Oper}(k i:Nat)(hB:IQ ops k i=true)(he:addEdge ops k i=ops')(h:lT P n w0 mu ops' l hp (V9 Q)):lT P n w0 mu ops l hp (V9 Q):=by
 subst he;intro a w hk hG;have:=h a w hk hG;rw[yz] at this;refine Oi hB ?_ ?_ _ _ _ _ bB5 (fun j oj _ hl=>by rw[getD_replicate_false] at hl;cases hl) ?_ this
 ·rintro c a w ⟨l,hp,_,_,h⟩;exact h
 ·rintro⟨a,w,l,hp,_,_,h⟩;exact h
 ·intro T hT hu;refine WN _ T hT fun t ht=>?_;have:=hu t ht;rcases bQ3 t ops.size with h | h
  ·exact h
  ·rw[Array.getD_eq_getD_getElem?,Array.getElem?_eq_none (by simpa using h)] at this;simp at this
end
section
variable {n : Nat} {w0 : World} {mu : List Nat} {l : Fm} {hp : Hp} {Q : Exit → Fm → Hp → Prop}
def drop1(k:Nat):Fm→Fm
 | []=>[]
 | p::r=>if p.1=k then drop1 k r else p::drop1 k r
theorem Oj(k:Nat):∀ (l:Fm) (t:Nat) (v:Value),look (drop1 k l) t=some v→look l t=some v:=by
 intro l
 induction l with
 | nil=>intro t v h;exact h
 | cons p r ih=>
  obtain⟨j,u⟩:=p;intro t v h
  have key:∀ t v,look (drop1 k r) t=some v→t≠k:=by
   intro t v;clear h ih
   induction r with
   | nil=>intro h;cases h
   | cons p r ih=>
    obtain⟨j,u⟩:=p;intro h;unfold drop1 at h;by_cases hj:j=k
    ·rw[if_pos hj] at h;exact ih h
    ·rw[if_neg hj] at h;simp only[look] at h
     cases hb:Nat.beq j t with
     | true=>have:=bO8 hb;omega
     | false=>rw[hb] at h;exact ih h
  unfold drop1 at h;by_cases hj:j=k
  ·rw[if_pos hj] at h;have hne:=key t v h;simp only[look]
   have hb:Nat.beq j t=false:=by
    cases hb:Nat.beq j t with
    | true=>have:=bO8 hb;omega
    | false=>rfl
   rw[hb];exact ih t v h
  ·rw[if_neg hj] at h;simp only[look] at h ⊢
   cases hb:Nat.beq j t with
   | true=>rw[hb] at h;exact h
   | false=>rw[hb] at h;exact ih t v h
theorem aJ1{c:Code}(k:Nat){l':Fm}(h:St Tryz.prog n w0 mu c l' hp Q)(hl:drop1 k l=l':=by (simp only[drop1,xZ,bI0,bI3,Nat.reduceEqDiff,Nat.reduceAdd,bK2,reduceIte,if_true,if_false];rfl)):St Tryz.prog n w0 mu c l hp Q:=by
 subst hl;intro a w hk hG;exact h a w ⟨hk.size,hk.defers,fun t v ht=>hk.has t v (Oj k l t v ht)⟩ hG
theorem WQ{ops':List Oper}(k i:Nat)(h:lT Tryz.prog n w0 mu ops'.toArray l hp (V9 Q))(he:addEdge ops.toArray k i=ops'.toArray:=by (simp only[addEdge,List.modify_toArray,bY9,bY',List.push_toArray,bI0,bI3];rfl))(hB:IQ ops.toArray k i=true:=by kernel_rfl):lT Tryz.prog n w0 mu ops.toArray l hp (V9 Q):=WO k i hB he h
end
end
section
def gX(P:Program)(n:Nat)(w0:World)(mu:List Nat)(all:Array Oper)(ds:List (Nat×Nat))(l:Fm)(h0:Hp)(aX:Fm)(X:Fm→Hp→Prop):List Nat→Fm→Hp→Prop
 | [],bz,h=>X bz h
 | i::r,bz,h=>∃ o,all[i]?=some o∧((o.dst.isSome=true∧∃ R:RT,BV P n w0 mu all (aT ds (bz++aX) o.after.toList++l) h o R∧∀ v hn,R v hn→gX P n w0 mu all ds l h0 aX X r ((i,v)::bz) (hn++h)) ∨
   (o.dst=none∧∃ h',HyS P n w0 mu (aT ds (bz++aX) o.after.toList++l) h o h'∧aI h0 h'∧gX P n w0 mu all ds l h0 aX X r bz h'))
def DS(P:Program)(n:Nat)(w0:World)(mu:List Nat)(all:Array Oper)(ds:List (Nat×Nat))(l:Fm)(h0 hp:Hp)(t0:Nat)(X:Fm→Prop):List Nat→Fm→Prop
 | [],iv=>X iv
 | i::S,iv=>∃ o v,all[i]?=some o∧(∀ hx,wU P n w0 mu all (aT ds iv o.after.toList++l) (bif Region.waitsFor .any all t0 i then hx++hp else hx++h0) o v)∧DS P n w0 mu all ds l h0 hp t0 X S ((i,v)::iv)
def wX(all:Array Oper):List Nat→Bool
 | i::j::r=>Region.waitsFor .any all j i&&wX all (j::r)
 | _=>true
def uN(ops:Array Oper)(k n:Nat):Bool:=
 (List.range k).all fun i=>(match bF ops i with | some d=>Nat.blt d n | none=>true)&&(List.range k).all fun j=>Nat.beq i j||(match bF ops i,bF ops j with | some a,some b=>!Nat.beq a b | _,_=>true)
def uO(k:Nat)(S C:List Nat):Bool:=decide ((S++C).Nodup)&&(S++C).all (fun i=>Nat.blt i k)&&(List.range k).all fun i=>mem (S++C) i
def ug(ops:Array Oper)(k:Nat):Bool:=
 decide (k=ops.size)||(decide (k<ops.size)&&Region.sinkB .any ops k&&Region.chainB .any ops k&&Region.seqB .any ops (ops.size-k) k ((Array.replicate k true)++(Array.replicate (ops.size-k) false)))
def Ol(ops:Array Oper)(n k t0:Nat)(S C:List Nat):Bool:=
 uN ops k n&&pM ops&&uO k S C&&wX ops C&&ug ops k&&(List.range k).all fun i=>(bF ops i).isSome||Nat.beq i t0||Region.waitsFor .any ops i t0
structure uP(n:Nat)(w0:World)(mu:List Nat)(all:Array Oper)(l aX bz:Fm)(h:Hp)(listed:Array Bool)(a:Act)(w:World):Prop where
 size:a.tmps.size=n
 defers:a.defers=[]
 has:∀ t v,look l t=some v→a.tmps.getD t undef=v
 good:Good w0 mu h w
 wY:∀ i v,lk aX i=some v→listed.getD i false=true→∀ d,bF all i=some d→a.tmps.getD d undef=v
 qI:∀ i v,(i,v)∈bz→listed.getD i false=true∧∀ d,bF all i=some d→a.tmps.getD d undef=v
theorem Ea{all:Array Oper}:∀ {c:Nat} {r:List Nat} {i:Nat},wX all (c::r)=true→i∈r→∃ p,p∈c::r∧p≠i∧Region.waitsFor .any all i p=true∨i∈c::r∧False∨∃ p∈c::r,Region.waitsFor .any all i p=true:=by
 intro c r
 induction r generalizing c with
 | nil=>intro i _ h;cases h
 | cons j r ih=>
  intro i h hi;simp only[wX,bH6] at h;rcases bJ3.1 hi with rfl | hi
  ·exact⟨c,.inr (.inr ⟨c,bI8 ..,h.1⟩)⟩
  ·obtain⟨p,hp⟩:=ih h.2 hi;rcases hp with⟨_,_,h3⟩ | ⟨_,h3⟩ | ⟨p,h1,h2⟩
   ·exact⟨p,.inr (.inr ⟨p,bI5 _ ‹_›,h3⟩)⟩
   ·exact h3.elim
   ·exact⟨p,.inr (.inr ⟨p,bI5 _ h1,h2⟩)⟩
section
variable {P : Program} {n : Nat} {w0 : World} {mu : List Nat} {l : Fm} {h0 hp : Hp} {Q : Exit → Fm → Hp → Prop} {all : Array Oper} {aX : Fm} {k t0 : Nat} {ds : List (Nat × Nat)}
theorem aa7(hd:uN all k n=true)(hi:i<k)(h:bF all i=some d):d<n:=by
 have:=bH'.1 hd i (bJ1.2 hi);rw[bH6,h] at this;simpa using this.1
theorem aa8(hd:uN all k n=true)(hi:i<k)(hj:j<k)(hij:i≠j)(h1:bF all i=some a)(h2:bF all j=some b):a≠b:=by
 have:=bH'.1 hd i (bJ1.2 hi);rw[bH6] at this;have:=bH'.1 this.2 j (bJ1.2 hj);rw[h1,h2,bJ7] at this;rcases this with h | h
 ·exact absurd (bO8 h) hij
 ·intro e;subst e;simp at h
theorem qg{bz SX:Fm}{h':Hp}{listed:Array Bool}{a:Act}{w':World}{o:Oper}{v:Value}(hm:uP n w0 mu all l aX bz h listed a w)(ho:all[i]?=some o)(hi:i<k)(hun:listed.getD i true=false)(hs:i<listed.size)
  (hd:uN all k n=true) (hf:bW l (dstsOf all k)=true) (hG:Good w0 mu h' w') (hSk:∀ j v,lk aX j=some v→j<k) (hEk:∀ j v,(j,v)∈bz→j<k)
  (hv:(lk aX i=some v∧SX=bz)∨(lk aX i=none∧SX=(i,v)::bz)):uP n w0 mu all l aX SX h' (listed.setIfInBounds i true) (a.put o.dst v) w':=by
 have hod:bF all i=o.dst:=by simp[bF,ho]
 have hput:∀ t,(∀ d,o.dst=some d→t≠d)→(a.put o.dst v).tmps.getD t undef=a.tmps.getD t undef:=by
  intro t ht
  cases hdd:o.dst with
  | none=>rfl
  | some d=>simp[Act.put,bQ0 (bP0 (ht d hdd))]
 have hself:∀ d,o.dst=some d→(a.put o.dst v).tmps.getD d undef=v:=by
  intro d hdd;have:=aa7 hd hi (hod.trans hdd);rw[hdd];simp[Act.put,hm.size,this]
 have hother:∀ j d,j<k→j≠i→bF all j=some d→(a.put o.dst v).tmps.getD d undef=a.tmps.getD d undef:=fun j d hj hji hdj=>hput d fun d' hd'=>aa8 hd hj hi hji hdj (hod.trans hd');refine⟨?_,?_,fun t u hu=>?_,hG,fun j u hj hl d hdj=>?_,fun j u hj=>?_⟩
 ·cases o.dst<;>simpa [Act.put] using hm.size
 ·cases o.dst<;>exact hm.defers
 ·rw[hput t fun d hdd e=>?_]
  ·exact hm.has t u hu
  ·subst e;have:=DF _ hf (bI7.2 ⟨i,bJ1.2 hi,hod.trans hdd⟩);rw[this] at hu;cases hu
 ·by_cases hji:j=i
  ·subst hji;rcases hv with⟨h1,_⟩ | ⟨h1,_⟩
   ·rw[h1] at hj;cases hj;exact hself d (hod▸hdj)
   ·rw[h1] at hj;cases hj
  ·rw[hother j d (hSk j u hj) hji hdj];exact hm.wY j u hj (by rwa [getD_set_ne false (bP0 hji)] at hl) d hdj
 ·have hold:(j,u)∈bz→(listed.setIfInBounds i true).getD j false=true∧∀ d,bF all j=some d→(a.put o.dst v).tmps.getD d undef=u:=fun hj=>by
   have h1:=hm.qI j u hj;have hji:j≠i:=fun e=>by subst e;rw[getD_both hun] at h1;cases h1.1
   exact⟨getD_set_true h1.1,fun d hdj=>by rw[hother j d (hEk j u hj) hji hdj];exact h1.2 d hdj⟩
  rcases hv with⟨_,rfl⟩ | ⟨_,rfl⟩
  ·exact hold hj
  ·rcases bJ3.1 hj with hj | hj
   ·cases hj;exact⟨by simp[hs],fun d hdj=>hself d (hod▸hdj)⟩
   ·exact hold hj
theorem nI(hds:∀ k d,lk ds k=some d→bF all k=some d){dw bz:Fm}{listed:Array Bool}{a:Act}{o:Oper}(hm:uP n w0 mu all l aX bz h listed a w)(hiv:∀ j u,look dw j=some u→lk bz j=some u∨lk aX j=some u)
  (hl:∀ e∈o.after,Region.binds .any e=true→listed.getD e.on false=true):Knows n (aT ds dw o.after.toList++l) a:=by
 refine⟨hm.size,hm.defers,fun t v h=>?_⟩;rcases fV h with h | ⟨_,h⟩
 ·obtain⟨e,he,h1,h2,h3⟩:=zS (iY h);rcases hiv _ _ h3 with h4 | h4
  ·exact (hm.qI _ _ (jC h4)).2 t (hds _ _ h2)
  ·exact hm.wY _ _ h4 (hl e (by simpa using he) h1) t (hds _ _ h2)
 ·exact hm.has t v h
theorem Om{α:Type}:∀ (a b:List (Nat×α)) (i:Nat),lk (a++b) i=match lk a i with | some v=>some v | none=>lk b i:=by
 intro a
 induction a with
 | nil=>intro b i;rfl
 | cons p r ih=>
  intro b i;obtain⟨j,v⟩:=p;rw[bI0,bZ,bZ,ih];by_cases h:j=i
  ·subst h;simp
  ·simp[h]
theorem kC{listed:Array Bool}(h:listed.getD j true=true):(listed.setIfInBounds i true).getD j true=true:=by
 by_cases hij:i=j
 ·subst hij;simp only[Array.getD_eq_getD_getElem?,Array.getElem?_setIfInBounds] at h ⊢;simp;split<;>simp
 ·rw[getD_set_ne true hij];exact h
theorem Ec(hds:∀ k d,lk ds k=some d→bF all k=some d){Q':Exit→Act→World→Prop}{X:Fm→Hp→Prop}(hk:k≤all.size)(hd:uN all k n=true)(hf:bW l (dstsOf all k)=true)(hback:pM all=true)(hle0:aI h0 hp)
  (Ac:∀ i,i<k→bF all i=none→i=t0∨Region.waitsFor .any all i t0=true)
  {dn:Nat→Bool} (hS:∀ i v,lk aX i=some v→i<k∧(dn i=false→∃ o dw,all[i]?=some o∧qP dw aX∧∀ hx,wU P n w0 mu all (aT ds dw o.after.toList++l) (bif Region.waitsFor .any all t0 i then hx++hp else hx++h0) o v))
  (htail:∀ bz h listed,HeadInv .any all k listed→(∀ i,i<k→listed.getD i true=true)→X bz h→∀ a w,uP n w0 mu all l aX bz h listed a w→(∀ i v,(i,v)∈bz→i<k)→wpAny P .any all Q' g listed a w)
  (oC:∀ listed,HeadInv .any all k listed→∀ i,i<k→listed.getD i true=false→∀ t,k≤t→t∉Region.ready .any all listed):
  ∀ f r bz h listed a w,leftOf k listed=f→HeadInv .any all k listed→(∀ i,dn i=true→listed.getD i true=true)→uP n w0 mu all l aX bz h listed a w→(∀ i v,(i,v)∈bz→i<k)→(∀ i∈r,i<k∧listed.getD i true=false∧lk aX i=none)→r.Nodup→wX all r=true→(∀ i,i<k→listed.getD i true=false→(∃ v,lk aX i=some v)∨i∈r) →
   aI h0 h→(listed.getD t0 false=false→aI hp h)→gX P n w0 mu all ds l h0 aX X r bz h→wpAny P .any all Q' (f+g) listed a w:=by
 intro f
 induction f with
 | zero=>
  intro r bz h listed a w hlf inv hdone hm hEk hr hnd fD hcov hle wP hD
  have hall:∀ i,i<k→listed.getD i true=true:=by
   intro i hi
   cases hc:listed.getD i true with
   | true=>rfl
   | false=>
    exfalso;have:i∈(List.range k).filter fun i=>!listed.getD i true:=bN'.2 ⟨bJ1.2 hi,by simp only[hc,bL1]⟩;have h2:=bQ6 this;unfold leftOf at hlf;omega
  cases r with
  | nil=>
   rw[bK2]
   exact htail bz h listed inv hall hD a w hm hEk
  | cons c r=>
   have h1:=hr c (bI8 ..);rw[hall c h1.1] at h1
   exact absurd h1.2.1 bB4
 | succ f ih=>
  intro r bz h listed a w hlf inv hdone hm hEk hr hnd fD hcov hle wP hD;rw[show f+1+g=(f+g)+1 by omega]
  have hex:∃ i,i<k∧listed.getD i true=false:=by
   have h2:0<leftOf k listed:=by omega
   obtain⟨i,hi⟩:=bS5 h2;rw[bN'] at hi;exact⟨i,bJ1.1 hi.1,by simpa using hi.2⟩
  obtain⟨i0,su,hi0⟩:=hex;refine⟨fun hnil=>?_,fun i hi=>?_⟩
  ·exfalso;obtain⟨i,⟨hik,hil⟩,hmin⟩:=exists_least (p:=fun i=>i<k∧listed.getD i true=false) ⟨i0,su,hi0⟩
   have hr:i∈Region.ready .any all listed:=by
    rw[mem_ready];have hs:i<all.size:=by omega
    refine⟨hil,all[i],by simp[hs],fun e he hb=>?_⟩;have hb2:=bH'.1 hback i (bJ1.2 hs);simp only[bO3 hs] at hb2;have hb3:=(bN2.1 hb2) e he;simp only[hb,bK1,bL3,bX4] at hb3
    cases hc:listed.getD e.on false with
    | true=>rfl
    | false=>
     have h5:=hmin e.on ⟨by omega,getD_in bC4 hc⟩;omega
   rw[hnil] at hr;cases hr
  ·have hik:i<k:=by
    rcases bQ3 i k with h | h
    ·exact h
    ·exact absurd hi (oC listed inv i0 su hi0 i h)
   obtain⟨hun,o,ho,hall⟩:=mem_ready.1 hi;have hsz:i<listed.size:=by rw[inv.size];omega
   have uG:listed.getD i false=false:=getD_both hun;have hleft:leftOf k (listed.setIfInBounds i true)=f:=by have:=pO hik bC4 hun;omega
   have hwl:∀ t,Region.waitsFor .any all i t=true→listed.getD t false=true:=fun t ht=>by
    obtain⟨oj,h6,e,he,hb,heq⟩:=Region.waitsFor_spec ht;rw[ho] at h6;cases h6;rw[←heq];exact hall e he hb
   unfold wpOp;simp only[ho]
   cases CW:lk aX i with
   | some v=>
    obtain⟨_,hyy⟩:=hS i v CW
    have hdn:dn i=false:=by
     cases hc:dn i with
     | false=>rfl
     | true=>rw[hdone i hc] at hun;cases hun
    obtain⟨o',dw,ho',hmo,hy⟩:=hyy hdn;rw[ho] at ho';cases ho';have hkn:=nI (o:=o) hds hm (dw:=dw) (fun j u hu=>.inr (hmo j u bD4)) hall;have hir:i∉r:=fun hm'=>by rw[(hr i hm').2.2] at CW;cases CW
    have hnext:∀ w',Good w0 mu h w'→wpAny P .any all Q' (f+g) (listed.setIfInBounds i true) (a.put o.dst v) w':=fun w' hG'=>by
     refine ih r bz h _ _ _ hleft (inv.set hi hik) (fun j hj=>kC (hdone j hj)) (qg hm ho hik hun hsz hd hf hG' (fun j u hu=>(hS j u hu).1) hEk (.inl ⟨CW,rfl⟩)) hEk (fun j hj=>?_) hnd fD (fun j hj hl=>?_) hle (fun ht=>?_) hD
     ·have hji:i≠j:=fun e=>hir (e▸hj);exact⟨(hr j hj).1,by rw[getD_set_ne true hji];exact (hr j hj).2.1,(hr j hj).2.2⟩
     ·refine hcov j hj ?_;by_cases hji:i=j
      ·subst hji;simp[hsz] at hl
      ·rwa [getD_set_ne true hji] at hl
     ·refine wP ?_;by_cases hji:i=t0
      ·subst hji;exact uG
      ·rwa [getD_set_ne false hji] at ht
    obtain⟨hx,h3,kK⟩:∃ hx,wU P n w0 mu all (aT ds dw o.after.toList++l) hx o v∧hx.Perm h:=by
     cases hwt:Region.waitsFor .any all t0 i with
     | true=>
      have ht0:listed.getD t0 false=false:=by
       cases hc:listed.getD t0 false with
       | false=>rfl
       | true=>
        obtain⟨oj,h6,e,he,hb,heq⟩:=Region.waitsFor_spec hwt;have:=inv.closed t0 oj h6 hc e he hb;rw[heq,uG] at this;cases this
      obtain⟨x,hxp⟩:=(wP ht0).perm;have h4:=hy x;rw[hwt] at h4
      exact⟨x++hp,h4,bJ5.trans hxp⟩
     | false=>
      obtain⟨x,hxp⟩:=hle.perm;have h4:=hy x;rw[hwt] at h4;exact⟨x++h0,h4,bJ5.trans hxp⟩
    have hgd:Good w0 mu hx w:=hm.good.perm kK;replace hnext:∀ w',Good w0 mu hx w'→wpAny P .any all Q' (f+g) (listed.setIfInBounds i true) (a.put o.dst v) w':=fun w' hG'=>hnext w' (hG'.perm kK.symm);unfold wU at h3
    cases hg:o.guard with
    | none=>
     rw[hg] at h3;rw[if_pos bD2]
     exact .inl (h3 a w hkn hgd _ _ hnext)
    | some jw=>
     obtain⟨j,want⟩:=jw;rw[hg] at h3;obtain⟨dj,c0,b,u,hj,hb,hdj,hy,hvv⟩:=h3;have hw:=jL hkn hg hj hb hdj
     cases hc:(c0&&jd b want) with
     | true=>
      rw[hc] at hw hvv;rw[if_pos hw];rw[bH6] at hc;rw[show v=u from hvv] at hnext
      exact .inl (hy hc.1 hc.2 a w hkn hgd _ _ hnext)
     | false=>
      rw[hc] at hw hvv;rw[if_neg bF'];rw[show v=undef from hvv] at hnext
      exact hnext w hgd
   | none=>
    have hir:i∈r:=by
     rcases hcov i hik hun with⟨v,hv⟩ | h
     ·rw[CW] at hv;cases hv
     ·exact h
    cases r with
    | nil=>cases hir
    | cons c r=>
     have hic:i=c:=by
      rcases bJ3.1 hir with h | h
      ·exact h
      ·exfalso;obtain⟨p,hp⟩:=Ea fD h;rcases hp with⟨h1,_,h3⟩ | ⟨_,h3⟩ | ⟨p,h1,h3⟩
       ·have:=(hr p h1).2.1;have h5:=hwl p h3;rw[getD_both this] at h5;cases h5
       ·exact h3
       ·have:=(hr p h1).2.1;have h5:=hwl p h3;rw[getD_both this] at h5;cases h5
     subst hic;rw[bO4] at hnd
     have Ad:wX all r=true:=by
      cases r with
      | nil=>rfl
      | cons j r=>simp only[wX,bH6] at fD;exact fD.2
     have hr':∀ j∈r,j<k∧(listed.setIfInBounds i true).getD j true=false∧lk aX j=none:=fun j hj=>by
      have h1:=hr j (bI5 _ hj);have hji:i≠j:=fun e=>hnd.1 (e▸hj);exact⟨h1.1,by rw[getD_set_ne true hji];exact h1.2.1,h1.2.2⟩
     have wV:∀ j,j<k→(listed.setIfInBounds i true).getD j true=false→(∃ v,lk aX j=some v)∨j∈r:=fun j hj hl=>by
      by_cases hji:i=j
      ·subst hji;simp[hsz] at hl
      ·rw[getD_set_ne true hji] at hl;rcases hcov j hj hl with h | h
       ·exact .inl h
       ·exact .inr ((bJ3.1 h).resolve_left (bP0 hji))
     have hkn:=nI (o:=o) hds hm (dw:=bz++aX) (fun j u hu=>by
      rw[jD,Om] at hu
      cases hE:lk bz j with
      | some v=>rw[hE] at hu;exact .inl hu
      | none=>rw[hE] at hu;exact .inr hu) hall
     unfold gX at hD;obtain⟨o',ho',hD⟩:=hD;rw[ho] at ho';cases ho';rcases hD with⟨hds',R,⟨hg,hE⟩,hD⟩ | ⟨hdn,h',⟨hg,_,hSt⟩,hle',hD⟩
     ·rw[if_pos (hg _ hkn)];refine .inl (hE a w [] hkn (by simpa using hm.good) _ _ fun v hn w' hR hG'=>?_);rw[bI3] at hG';have hlen:∀ x:Hp,aI x h→aI x (hn++h):=fun x hx=>dh fun b=>by have:=hx.cnt b;rw[eH];omega
      refine ih r ((i,v)::bz) (hn++h) _ _ _ hleft (inv.set hi hik) (fun j hj=>kC (hdone j hj)) (qg hm ho hik hun hsz hd hf hG' (fun j u hu=>(hS j u hu).1) hEk (.inr ⟨CW,rfl⟩)) (fun j u hu=>?_) hr' hnd.2 Ad wV (hlen _ hle) (fun ht=>hlen _ (wP ?_)) (hD v hn hR)
      ·rcases bJ3.1 hu with hu | hu
       ·cases hu;exact hik
       ·exact hEk j u hu
      ·by_cases hji:i=t0
       ·subst hji;exact uG
       ·rwa [getD_set_ne false hji] at ht
     ·rw[if_pos bD2];refine .inl (hSt a w hkn hm.good _ _ fun w' hG'=>?_)
      have hmc:uP n w0 mu all l aX bz h' (listed.setIfInBounds i true) a w':=by
       refine⟨hm.size,hm.defers,hm.has,hG',fun j u hj hl d hdj=>?_,fun j u hj=>⟨getD_set_true (hm.qI j u hj).1,(hm.qI j u hj).2⟩⟩;have hji:i≠j:=fun e=>by subst e;rw[CW] at hj;cases hj
       exact hm.wY j u hj (by rwa [getD_set_ne false hji] at hl) d hdj
      refine ih r bz h' _ _ _ hleft (inv.set hi hik) (fun j hj=>kC (hdone j hj)) hmc hEk hr' hnd.2 Ad wV hle' (fun ht=>?_) hD;exfalso;rcases Ac i hik (by simp[bF,ho,hdn]) with e | e
      ·subst e;rw[show (listed.setIfInBounds i true).getD i false=true by simp[hsz]] at ht;cases ht
      ·have:=getD_set_true (i:=i) (hwl t0 e);rw[this] at ht;cases ht
theorem Gv(hds:∀ k d,lk ds k=some d→bF all k=some d){Q':Exit→Act→World→Prop}{X:Fm→Hp→Prop}(hk:k≤all.size)(hd:uN all k n=true)(hf:bW l (dstsOf all k)=true)(hback:pM all=true)(hle0:aI h0 hp)
  (Ac:∀ i,i<k→bF all i=none→i=t0∨Region.waitsFor .any all i t0=true)
  (hS:∀ i v,lk aX i=some v→i<k∧∃ o dw,all[i]?=some o∧qP dw aX∧∀ hx,wU P n w0 mu all (aT ds dw o.after.toList++l) (bif Region.waitsFor .any all t0 i then hx++hp else hx++h0) o v)
  (htail:∀ bz h listed,HeadInv .any all k listed→(∀ i,i<k→listed.getD i true=true)→X bz h→∀ a w,uP n w0 mu all l aX bz h listed a w→(∀ i v,(i,v)∈bz→i<k)→wpAny P .any all Q' g listed a w)
  (oC:∀ listed,HeadInv .any all k listed→∀ i,i<k→listed.getD i true=false→∀ t,k≤t→t∉Region.ready .any all listed):
  ∀ f r bz h listed a w,leftOf k listed=f→HeadInv .any all k listed→uP n w0 mu all l aX bz h listed a w→(∀ i v,(i,v)∈bz→i<k)→(∀ i∈r,i<k∧listed.getD i true=false∧lk aX i=none)→r.Nodup→wX all r=true→(∀ i,i<k→listed.getD i true=false→(∃ v,lk aX i=some v)∨i∈r) →
   aI h0 h→(listed.getD t0 false=false→aI hp h)→gX P n w0 mu all ds l h0 aX X r bz h→wpAny P .any all Q' (f+g) listed a w:=
 fun f r bz h listed a w h1 h2 h3=>Ec hds hk hd hf hback hle0 Ac (dn:=fun _=>false) (fun i v hi=>⟨(hS i v hi).1,fun _=>(hS i v hi).2⟩) htail oC f r bz h listed a w h1 h2 (fun i h=>by cases h) h3
theorem Oo{X:Fm→Prop}:∀ (S:List Nat) (iv:Fm),S.Nodup→(∀ i∈S,lk iv i=none)→Uq iv→DS P n w0 mu all ds l h0 hp t0 X S iv →
  (∀ i v,lk iv i=some v→∃ o dw,all[i]?=some o∧qP dw iv∧∀ hx,wU P n w0 mu all (aT ds dw o.after.toList++l) (bif Region.waitsFor .any all t0 i then hx++hp else hx++h0) o v) →
  ∃ aX,X aX∧Uq aX∧(∀ i,(∃ v,lk aX i=some v)↔i∈S∨∃ v,lk iv i=some v)∧∀ i v,lk aX i=some v→∃ o dw,all[i]?=some o∧qP dw aX∧∀ hx,wU P n w0 mu all (aT ds dw o.after.toList++l) (bif Region.waitsFor .any all t0 i then hx++hp else hx++h0) o v:=by
 intro S
 induction S with
 | nil=>intro iv _ _ hu h hs;exact⟨iv,h,hu,fun i=>by simp,hs⟩
 | cons i S ih=>
  rintro iv hnd hno hu ⟨o,v,ho,hy,h⟩ hs;rw[bO4] at hnd;have hi:=hno i (bI8 ..)
  obtain⟨aX,hX,hu2,hk,hs2⟩:=ih ((i,v)::iv) hnd.2 (fun j hj=>by rw[bZ,if_neg bE9];exact hno j (bI5 _ hj)) (Ip hi hu) h (fun j u hj=>by
   rw[bZ] at hj;by_cases hij:i=j
   ·subst hij;rw[if_pos rfl] at hj;cases hj;exact⟨o,iv,ho,ni hi,hy⟩
   ·rw[if_neg hij] at hj;obtain⟨o',dw,h1,h2,h3⟩:=hs j u hj
    exact⟨o',dw,h1,fun a b hab=>ni hi a b (h2 a b hab),h3⟩)
  refine⟨aX,hX,hu2,fun j=>?_,hs2⟩;rw[hk,bJ3,bZ];by_cases hij:i=j
  ·subst hij;simp
  ·rw[if_neg hij];simp[bP0 hij]
theorem WR(k t0:Nat)(S C:List Nat)(h0:Hp)(hB:Ol ops.toArray n k t0 S C=true)(hf:bW l (dstsOf ops.toArray k)=true)(hle0:aI h0 hp)(hds:dB ops 0=ds)
  (h:DS P n w0 mu ops.toArray ds l h0 hp t0 (fun aX=>gX P n w0 mu ops.toArray ds l h0 aX (fun bz hc=>Ops P n w0 mu ops.toArray (ops.drop k) (bV ds (bz++aX)++l) hc Q) C [] hp) S []):lT P n w0 mu ops.toArray l hp Q:=by
 intro a w hk hG;simp only[Ol,bH6] at hB;obtain⟨⟨⟨⟨⟨hd,hback⟩,uQ⟩,fD⟩,jm⟩,Ac⟩:=hB;simp only[uO,bH6,decide_eq_true_eq] at uQ;obtain⟨⟨hnd,hlt⟩,hcov⟩:=uQ;have hlt':∀ i∈S++C,i<k:=fun i hi=>by have:=bH'.1 hlt i hi;simpa using this
 rw[bM3] at hnd;obtain⟨Iu,Oq,hSC⟩:=hnd;obtain⟨aX,hX,VY,yw,hsS⟩:=Oo S [] Iu (fun _ _=>rfl) (fun _ _ h=>by cases h) h (fun i v hv=>by cases hv);simp only[lk,reduceCtorEq,exists_false,or_false] at yw
 have hks:k≤ops.toArray.size:=by
  simp only[ug,bJ7,bH6,decide_eq_true_eq] at jm;rcases jm with h | h<;>omega
 have ru:∀ i d,lk ds i=some d→bF ops.toArray i=some d:=fun i d h=>by rw[←hds] at h;have:=(lN ops 0 i d h).2;simpa [bF] using this
 have inv0:HeadInv .any ops.toArray k (Array.replicate ops.toArray.size false):=
  ⟨by simp,fun j oj _ hl=>bC0,fun t _ ht=>getD_in bG3 (getD_replicate_false _ _)⟩
 have IU:∀ i,i<k→(Array.replicate ops.toArray.size false).getD i true=false:=fun i hi=>getD_in bH4 (getD_replicate_false _ _)
 have hleft:leftOf k (Array.replicate ops.toArray.size false)=k:=by
  unfold leftOf;rw[bP'.2]
  ·simp
  ·intro i hi;simp only[IU i bE6,bL1]
 have key:=Gv ru (P:=P) (n:=n) (w0:=w0) (mu:=mu) (l:=l) (hp:=hp) (h0:=h0) (all:=ops.toArray) (aX:=aX) (k:=k) (t0:=t0) (g:=ops.toArray.size-k) (Q':=QQ n w0 mu Q) (X:=fun bz hc=>Ops P n w0 mu ops.toArray (ops.drop k) (bV ds (bz++aX)++l) hc Q) hks hd hf hback hle0
  (fun i hi hdn=>by
   have:=bH'.1 Ac i (bJ1.2 hi);rw[hdn] at this;simp only[bW7,bL3,bJ7] at this;rcases this with h | h
   ·exact .inl (bO8 h)
   ·exact .inr h)
  (fun i v hv=>⟨hlt' i (bJ2 _ ((yw i).1 ⟨v,hv⟩)),hsS i v hv⟩)
  (fun bz h listed inv hall hX a w hmid hEk=>by
   have xE:Knows n (bV ds (bz++aX)++l) a:=by
    refine⟨hmid.size,hmid.defers,fun t v ht=>?_⟩;rcases fV ht with ht | ⟨_,ht⟩
    ·obtain⟨j,h1,h2⟩:=jX (iY ht);rcases bK4.1 h1 with h1 | h1
     ·exact (hmid.qI j v h1).2 t (ru _ _ h2)
     ·have hj:=VY j v h1;have hjk:=hlt' j (bJ2 _ ((yw j).1 ⟨v,hj⟩));refine hmid.wY j v hj ?_ t (ru _ _ h2);have h5:=hall j hjk
      cases hcc:listed.getD j false with
      | true=>rfl
      | false=>rw[getD_in bC4 hcc] at h5;cases h5
    ·exact hmid.has t v ht
   have hfin:=hX a w xE hmid.good;simp only[ug,bJ7,bH6,decide_eq_true_eq] at jm;rcases jm with KI | ⟨⟨⟨xy,hs⟩,hc⟩,hseq⟩
   ·have e0:ops.drop k=[]:=bM0 (by simp at KI;omega);rw[e0] at hfin;rw[show ops.toArray.size-k=0 by omega];refine⟨?_,hfin⟩;rw[bM9];intro i hi;obtain⟨hun,o,ho,_⟩:=mem_ready.1 hi;have hi':i<k:=by rw[KI];exact (bK5.1 ho).1
    rw[hall i hi'] at hun;cases hun
   ·have hl:listed=(Array.replicate k true)++(Array.replicate (ops.toArray.size-k) false):=by
     apply Array.ext
     ·simp[inv.size];simp at xy;omega
     ·intro i h1 h2;by_cases hi:i<k
      ·have:=hall i hi;simp[h1] at this;rw[bT8 bE6];simpa using this
      ·have h3:=inv.tail i bB3 bE2;simp[h1] at h3;rw[bT5 bB9];simpa using h3
    have hdl:(ops.drop k).length=ops.toArray.size-k:=by simp
    rw[←hdl]
    exact wpAny_of_seq (ops.drop k) k listed a w (fun j=>by simp) bF7 hfin)
  (fun listed inv i hi hun t ht=>by
   simp only[ug,bJ7,bH6,decide_eq_true_eq] at jm;rcases jm with h | ⟨⟨⟨xy,hs⟩,hc⟩,hseq⟩
   ·intro hr;obtain⟨_,o,ho,_⟩:=mem_ready.1 hr;have:=(bK5.1 ho).1;omega
   ·exact tail_waits hs hc xy inv _ i rfl hi hun t ht)
  k C [] hp _ a { w with drawn:=w.drawn+1 } hleft inv0 ⟨hk.size,hk.defers,hk.has,hG.drawn _,fun i v _ hl=>bC0,fun i v hv=>by cases hv⟩ (fun i v hv=>by cases hv)
  (fun i hi=>⟨hlt' i (bI4 _ hi),IU i (hlt' i (bI4 _ hi)),by
   cases hv:lk aX i with
   | none=>rfl
   | some v=>exact absurd rfl (hSC i ((yw i).1 ⟨v,hv⟩) i hi)⟩) Oq fD
  (fun i hi _=>by
   have:=gY (bH'.1 hcov i (bJ1.2 hi));rcases bK4.1 this with h | h
   ·exact .inl ((yw i).2 h)
   ·exact .inr h) hle0 (fun _=>aI.refl _) hX
 have e:k+(ops.toArray.size-k)=ops.toArray.size:=by omega
 rw[e] at key;exact key
end
attribute [local irreducible] Hy St Ops DH dH jg iP gQ
section
variable {P : Program} {n : Nat} {w0 : World} {mu : List Nat} {l lf : Fm} {h0 hp hc : Hp} {Q : Exit → Fm → Hp → Prop} {all : Array Oper} {aX iv bz : Fm} {k t0 i d : Nat} {ds : List (Nat × Nat)} {S r : List Nat} {X : Fm → Prop} {Y : Fm → Hp → Prop} {op : Op} {ty : TypeId} {pos : String} {af : Array Edge} {v : Value}
theorem av7(h:X iv):DS P n w0 mu all ds l h0 hp t0 X [] iv:=h
theorem aJ2(ho:all[i]?=some ⟨some d,op,ty,pos,af,none⟩)(hwt:Region.waitsFor .any all t0 i=true)(hy:∀ hx,Hy P n w0 mu (aT ds iv af.toList++l) (hx++hp) ⟨some d,op,ty,pos,af,none⟩ v)(h:DS P n w0 mu all ds l h0 hp t0 X S ((i,v)::iv)):DS P n w0 mu all ds l h0 hp t0 X (i::S) iv:=⟨_,v,ho,fun hx=>by rw[hwt];exact hy hx,h⟩
theorem aa9(ho:all[i]?=some ⟨some d,op,ty,pos,af,none⟩)(hwt:Region.waitsFor .any all t0 i=false)(hy:∀ hx,Hy P n w0 mu (aT ds iv af.toList++l) (hx++h0) ⟨some d,op,ty,pos,af,none⟩ v)(h:DS P n w0 mu all ds l h0 hp t0 X S ((i,v)::iv)):DS P n w0 mu all ds l h0 hp t0 X (i::S) iv:=⟨_,v,ho,fun hx=>by rw[hwt];exact hy hx,h⟩
theorem di(h:Y bz hc):gX P n w0 mu all ds l h0 aX Y [] bz hc:=h
theorem aa'{R:RT}{gg:Option (Nat×Bool)}(ho:all[i]?=some ⟨some d,op,ty,pos,af,gg⟩)(he:BV P n w0 mu all (aT ds (bz++aX) af.toList++l) hc ⟨some d,op,ty,pos,af,gg⟩ R)(h:∀ v hn,R v hn→gX P n w0 mu all ds l h0 aX Y r ((i,v)::bz) (hn++hc)):gX P n w0 mu all ds l h0 aX Y (i::r) bz hc:=⟨_,ho,.inl ⟨rfl,R,he,h⟩⟩
theorem av8{o:Oper}(hg:o.guard=none)(hy:∀ hx,Hy P n w0 mu lf (hx++hp) o v):BV P n w0 mu all lf hp o (fun u hn=>u=v∧hn=[]):=
 ⟨fun a _=>by simp[Region.wanted,hg],fun a w hx hk hG K Q hK=>by
  have:=hy hx;unfold Hy at this
  exact this a w hk hG K Q fun w' hG'=>hK v [] w' ⟨rfl,rfl⟩ hG'⟩
theorem aU1(ho:all[i]?=some ⟨some d,op,ty,pos,af,none⟩)(hy:∀ hx,Hy P n w0 mu (aT ds (bz++aX) af.toList++l) (hx++hc) ⟨some d,op,ty,pos,af,none⟩ v)(h:gX P n w0 mu all ds l h0 aX Y r ((i,v)::bz) hc):gX P n w0 mu all ds l h0 aX Y (i::r) bz hc:=
 aa' ho (av8 rfl hy) (by rintro _ _ ⟨rfl,rfl⟩;exact h)
theorem Ed{T:Tab}(ok:bC P T){t:TypeId}{cs':Array Value}{tb:TypeId}(ho:all[i]?=some ⟨none,.store t x y,ty,pos,af,none⟩)
  (hx:ev (aT ds (bz++aX) af.toList++l) x=some (.pointer (some ⟨b,off,none⟩))) (hy:ev (aT ds (bz++aX) af.toList++l) y=some v) (lC:v.cells=vs.toArray) (hs:lk T.sz t=some sz) (hl:vs.length=sz) (hperm:(⟨b,cs,tb⟩::hp').Perm hc) (hv1:vs.all (·.oneCell')=true) (hlt:off+vs.length≤cs.size) (hput:putAt cs off vs=cs')
  (hle:aI h0 (⟨b,cs',tb⟩::hp')) (h:gX P n w0 mu all ds l h0 aX Y r bz (⟨b,cs',tb⟩::hp')):gX P n w0 mu all ds l h0 aX Y (i::r) bz hc:=by
 refine⟨_,ho,.inr ⟨rfl,⟨b,cs',tb⟩::hp',⟨rfl,rfl,fun a w hk hG K Q' hK=>?_⟩,hle,h⟩⟩;subst hput;have hG':=hG.perm hperm;have hb:=hG'.here _ (bI8 ..)
 have hst:=run_storeCells_cells (P:=P) b off vs 0 w
  (fun j hj=>by rw[cell_of_block hb];simp[show off+j<cs.size by omega])
  (fun j _=>fQ hb) (fun u hu=>(bH'.1 hv1) u hu)
 unfold Oper.wp
 have hrun:(execOp a.eval ⟨none,.store t x y,ty,pos,af,none⟩).run P w=.ok .skip (w.setCells b off vs):=by
  simp only[execOp,hk.ev hx,hk.ev hy];simp only[bL4] at hst;simp[Instr.storeAt,Instr.sureAddr,storeVar,lC,run_sizeOf (show fK P t=some vs.length by rw[hl];exact ok.zO hs) w,hst]
 rw[hrun];exact hK _ (Good.sets (w:=w) vs cs off w hG')
end
section
variable {n : Nat} {w0 : World} {mu : List Nat} {l lf : Fm} {h0 hp hc : Hp} {Q : Exit → Fm → Hp → Prop} {all : Array Oper} {aX iv bz : Fm} {k t0 i d : Nat} {ds : List (Nat × Nat)} {S r : List Nat} {X : Fm → Prop} {Y : Fm → Hp → Prop} {op : Op} {ty : TypeId} {pos : String} {af : Array Edge} {v : Value}
theorem uh{id:Nat}{tl:List Oper}(k t0:Nat)(S C:List Nat)(h0:Hp)(h:DS Tryz.prog n w0 mu ops.toArray ds l h0 hp t0 (fun aX=>gX Tryz.prog n w0 mu ops.toArray ds l h0 aX (fun bz hc=>Ops Tryz.prog n w0 mu ops.toArray tl (bV ds (bz++aX)++l) hc Q) C [] hp) S [])
  (hle0:aI h0 hp:=by (exact ak)) (hds:dB ops 0=ds:=by (simp only[dB,Nat.reduceAdd,bK2];rfl)) (htl:ops.drop k=tl:=by (simp only[bL2,bL',List.drop_nil];rfl)) (hm:Tryz.prog.follows .mixedOrders=true:=by kernel_rfl) (hB:Ol ops.toArray n k t0 S C=true:=by decide +kernel) (hf:bW l (dstsOf ops.toArray k)=true:=by rfl):St Tryz.prog n w0 mu (.region id ops.toArray true) l hp Q:=
 xx hm (WR k t0 S C h0 hB hf hle0 hds bH2)
theorem kU{G R:Prop}(k:R)(h:yC R→G:=by (intro nR;(repeat (first | (with_reducible apply av7) | ((with_reducible apply aJ2);rfl;decide +kernel;(intro hxS;(first | exact Wy))) | ((with_reducible apply aa9);rfl;decide +kernel;(intro hxS;(first | exact Wy)))));exact nR.get)):G:=h ⟨k⟩
theorem yH{f:FuncId}{xs:List Operand}{tys:Array TypeId}{R:RT}(hcl:∀ w,Good w0 mu hc w→Fn Tryz.prog f vs.toArray w [] R)(h:∀ v hn,R v hn→gX Tryz.prog n w0 mu all ds l h0 aX Y r ((i,v)::bz) (hn++hc))(ho:all[i]?=some ⟨some d,.call { callee:=.value (.func f),args:=xs.toArray,argTypes:=tys },ty,pos,af,none⟩:=by rfl)(bM:mem iV f=true:=by rfl)(hv:evs (aT ds (bz++aX) af.toList++l) xs=some vs:=by rfl):gX Tryz.prog n w0 mu all ds l h0 aX Y (i::r) bz hc:=
 aa' ho (Qz (fA f bM) hv hcl) h
theorem Ae{len:Nat}{ps:List (Nat×Operand)}{vs:List (Nat×Value)}{zl:List Value}{out:Array Value}(out':List Value)(h:∀ b,gX Tryz.prog n w0 mu all ds l h0 aX Y r ((i,.slice (some ⟨b,0,none⟩) len len)::bz) (⟨b,out'.toArray,e⟩::hc))(ho:all[i]?=some ⟨some d,.buildSlice t len ps.toArray,ty,pos,af,none⟩:=by rfl)(ht:lk Tb.sl t=some (e,sz):=by rfl)(hz:lk Tb.zs e=some z:=by rfl)(hzc:z.cells=zl.toArray:=by (first | ((simp only[Value.cells])<;>rfl) | rfl))(hzs:Nat.beq zl.length sz=true:=by rfl)(hpos:(Nat.blt 0 (len*sz)&&Nat.ble (len*sz) 16777216)=true:=by rfl)(hv:Fh (aT ds (bz++aX) af.toList++l) ps=some vs:=by rfl)(hf:flS sz (rep zl len).toArray vs=some out:=by rfl)(hn:out=out'.toArray:=by rfl):gX Tryz.prog n w0 mu all ds l h0 aX Y (i::r) bz hc:=
 aa' ho (zY aB ht hz hzc hzs hpos hv hf hn) (by rintro _ _ ⟨b,rfl,rfl⟩;exact h b)
theorem je{t:TypeId}{cs':Array Value}{tb:TypeId}(h:gX Tryz.prog n w0 mu all ds l h0 aX Y r bz (⟨b,cs',tb⟩::hp'))(hperm:(⟨b,cs,tb⟩::hp').Perm hc)(ho:all[i]?=some ⟨none,.store t x y,ty,pos,af,none⟩:=by rfl)
  (hx:ev (aT ds (bz++aX) af.toList++l) x=some (.pointer (some ⟨b,off,none⟩)):=by rfl) (hy:ev (aT ds (bz++aX) af.toList++l) y=some v:=by rfl) (lC:v.cells=vs.toArray:=by (first | ((simp only[Value.cells])<;>rfl) | rfl)) (hs:lk Tb.sz t=some sz:=by rfl) (hl:vs.length=sz:=by rfl) (hv1:vs.all (·.oneCell')=true:=by first | rfl | (focus (simp;done))) (hlt:off+vs.length≤cs.size:=by first | omega | (focus (simp;done)) | (focus (simp;omega))) (hput:putAt cs off vs=cs':=by (first | ((simp only[putAt,Value.cells,bP4,bO7,bR3,bR4,bL2,bL',bL7,bN0,bI0,bI3,bI'])<;>rfl) | rfl))
  (hle:aI h0 (⟨b,cs',tb⟩::hp'):=by (exact ak)):gX Tryz.prog n w0 mu all ds l h0 aX Y (i::r) bz hc:=Ed aB ho hx hy lC hs hl hperm hv1 hlt hput hle h
theorem kV{rest:List Oper}{fr:Fm}(h:Ops Tryz.prog n w0 mu all rest (fr++l) hc Q)(hfr:bV ds iv=fr:=by (simp only[bV,bZ,bI0,bI3,reduceIte,Nat.reduceEqDiff];rfl)):Ops Tryz.prog n w0 mu all rest (bV ds iv++l) hc Q:=by rw[hfr];exact h
end
end
section
def SY:List (Nat×Value×Hp)→Hp
 | []=>[]
 | p::r=>p.2.2++SY r
def fmD:List (Nat×Value×Hp)→Fm
 | []=>[]
 | p::r=>(p.1,p.2.1)::fmD r
theorem QI:∀ {Dn:List (Nat×Value×Hp)} {i:Nat} {v:Value},(i,v)∈fmD Dn↔∃ hn,(i,v,hn)∈Dn:=by
 intro Dn
 induction Dn with
 | nil=>intro i v;simp[fmD]
 | cons p r ih=>
  intro i v;obtain⟨j,u,hu⟩:=p;simp only[fmD,bJ3,ih];constructor
  ·rintro (h | ⟨hn,h⟩)
   ·cases h;exact⟨hu,.inl rfl⟩
   ·exact⟨hn,.inr h⟩
  ·rintro⟨hn,h | h⟩
   ·cases h;exact .inl rfl
   ·exact .inr ⟨hn,h⟩
section
variable {P : Program} {n : Nat} {w0 : World} {mu : List Nat} {l : Fm} {h0 hp : Hp} {Q : Exit → Fm → Hp → Prop} {all : Array Oper} {aX : Fm} {k t0 : Nat} {ds : List (Nat × Nat)}
theorem av9(hds:∀ k d,lk ds k=some d→bF all k=some d){Q':Exit→Act→World→Prop}(hk:k≤all.size)(hd:uN all k n=true)(hf:bW l (dstsOf all k)=true)(hback:pM all=true)(hle0:aI h0 hp)
  (hS:∀ i v,lk aX i=some v→i<k∧∃ o dw,all[i]?=some o∧qP dw aX∧∀ hx,wU P n w0 mu all (aT ds dw o.after.toList++l) (bif Region.waitsFor .any all t0 i then hx++hp else hx++h0) o v)
  {E C:List Nat} {Rf:Nat→RT}
  (hE:∀ i∈E,i<k∧lk aX i=none∧∃ o,all[i]?=some o∧BV P n w0 mu all (aT ds aX o.after.toList++l) hp o (Rf i))
  (Iw:E.Nodup) (hCS:∀ i∈C,∀ {v:Value},lk aX i≠some v) (aU2:∀ i∈E,i∉C)
  (hcov:∀ i,i<k→(∃ v,lk aX i=some v)∨i∈E∨i∈C)
  (hCE:∀ i∈C,∀ listed,i∈Region.ready .any all listed→(∀ j∈C,listed.getD j true=false)→∀ j∈E,listed.getD j false=true)
  (oC:∀ listed,HeadInv .any all k listed→∀ i,i<k→listed.getD i true=false→∀ t,k≤t→t∉Region.ready .any all listed)
  (cont:∀ f Dn listed a w,leftOf k listed=f→HeadInv .any all k listed→((Dn.map (·.1)).Perm E)→(∀ p∈Dn,Rf p.1 p.2.1 p.2.2)→uP n w0 mu all l aX (fmD Dn) (SY Dn++hp) listed a w→(∀ i∈E,listed.getD i true=true)→(∀ i∈C,listed.getD i true=false)→wpAny P .any all Q' (f+g) listed a w):
  ∀ f E' Dn listed a w,leftOf k listed=f→HeadInv .any all k listed→((Dn.map (·.1))++E').Perm E→(∀ p∈Dn,Rf p.1 p.2.1 p.2.2)→uP n w0 mu all l aX (fmD Dn) (SY Dn++hp) listed a w→(∀ p∈Dn,listed.getD p.1 true=true)→(∀ i∈E',listed.getD i true=false)→(∀ i∈C,listed.getD i true=false)→wpAny P .any all Q' (f+g) listed a w:=by
 intro f
 induction f with
 | zero=>
  intro E' Dn listed a w hlf inv kK hR hm hDl hEl WS
  cases E' with
  | nil=>
   rw[bI'] at kK
   exact cont 0 Dn listed a w hlf inv kK hR hm (fun i hi=>by
    obtain⟨p,hp1,rfl⟩:=bI7.1 (kK.mem_iff.2 hi)
    exact hDl p hp1) WS
  | cons c r=>
   exfalso;have hcE:c∈E:=kK.mem_iff.1 (bI4 _ (bI8 ..));have h1:=(hE c hcE).1;have:c∈(List.range k).filter fun i=>!listed.getD i true:=bN'.2 ⟨bJ1.2 h1,by simp only[hEl c (bI8 ..),bL1]⟩;have h2:=bQ6 this;unfold leftOf at hlf
   omega
 | succ f ih=>
  intro E' Dn listed a w hlf inv kK hR hm hDl hEl WS
  cases E' with
  | nil=>
   rw[bI'] at kK
   exact cont (f+1) Dn listed a w hlf inv kK hR hm (fun i hi=>by
    obtain⟨p,hp1,rfl⟩:=bI7.1 (kK.mem_iff.2 hi)
    exact hDl p hp1) WS
  | cons c r=>
  generalize hEE:c::r=E' at kK hEl;have hcE':c∈E':=by rw[←hEE];exact bI8 ..
  have hcE:c∈E:=kK.mem_iff.1 (bI4 _ hcE')
  have hEk:∀ i v,(i,v)∈fmD Dn→i<k:=fun i v hiv=>by
   obtain⟨hn,h1⟩:=QI.1 hiv;exact (hE i (kK.mem_iff.1 (bJ2 _ (bI7.2 ⟨_,h1,rfl⟩)))).1
  have aU4:aI hp (SY Dn++hp):=aI.right _ _;have aJ3:aI h0 (SY Dn++hp):=dh fun b=>by have:=hle0.cnt b;rw[eH];omega
  rw[show f+1+g=(f+g)+1 by omega];obtain⟨i0,su,hi0⟩:∃ i,i<k∧listed.getD i true=false:=⟨c,(hE c hcE).1,hEl c hcE'⟩
  refine⟨fun hnil=>?_,fun i hi=>?_⟩
  ·exfalso;obtain⟨i,⟨hik,hil⟩,hmin⟩:=exists_least (p:=fun i=>i<k∧listed.getD i true=false) ⟨i0,su,hi0⟩
   have hr:i∈Region.ready .any all listed:=by
    rw[mem_ready];have hs:i<all.size:=by omega
    refine⟨hil,all[i],by simp[hs],fun e he hb=>?_⟩;have hb2:=bH'.1 hback i (bJ1.2 hs);simp only[bO3 hs] at hb2;have hb3:=(bN2.1 hb2) e he;simp only[hb,bK1,bL3,bX4] at hb3
    cases hc:listed.getD e.on false with
    | true=>rfl
    | false=>
     have h5:=hmin e.on ⟨by omega,getD_in bC4 hc⟩;omega
   rw[hnil] at hr;cases hr
  ·have hik:i<k:=by
    rcases bQ3 i k with h | h
    ·exact h
    ·exact absurd hi (oC listed inv i0 su hi0 i h)
   obtain⟨hun,o,ho,hall⟩:=mem_ready.1 hi;have hsz:i<listed.size:=by rw[inv.size];omega
   have uG:listed.getD i false=false:=getD_both hun;have hleft:leftOf k (listed.setIfInBounds i true)=f:=by have:=pO hik bC4 hun;omega
   have hwl:∀ t,Region.waitsFor .any all i t=true→listed.getD t false=true:=fun t ht=>by
    obtain⟨oj,h6,e,he,hb,heq⟩:=Region.waitsFor_spec ht;rw[ho] at h6;cases h6;rw[←heq];exact hall e he hb
   unfold wpOp;simp only[ho]
   cases CW:lk aX i with
   | some v=>
    obtain⟨_,o',dw,ho',hmo,hy⟩:=hS i v CW;rw[ho] at ho';cases ho';have hkn:=nI (o:=o) hds hm (dw:=dw) (fun j u hu=>.inr (hmo j u bD4)) hall;have hiE:i∉E:=fun hm'=>by rw[(hE i hm').2.1] at CW;cases CW
    have hnext:∀ w',Good w0 mu (SY Dn++hp) w'→wpAny P .any all Q' (f+g) (listed.setIfInBounds i true) (a.put o.dst v) w':=fun w' hG'=>by
     refine ih E' Dn _ _ _ hleft (inv.set hi hik) kK hR (qg hm ho hik hun hsz hd hf hG' (fun j u hu=>(hS j u hu).1) hEk (.inl ⟨CW,rfl⟩)) (fun p hp1=>kC (hDl p hp1)) (fun j hj=>?_) (fun j hj=>?_)
     ·have hji:i≠j:=fun e=>hiE (by rw[e];exact kK.mem_iff.1 (bI4 _ hj));rw[getD_set_ne true hji];exact hEl j hj
     ·have hji:i≠j:=fun e=>by subst e;exact hCS _ hj CW
      rw[getD_set_ne true hji];exact WS j hj
    obtain⟨hx,h3,kK⟩:∃ hx,wU P n w0 mu all (aT ds dw o.after.toList++l) hx o v∧hx.Perm (SY Dn++hp):=by
     cases hwt:Region.waitsFor .any all t0 i with
     | true=>
      have ht0:listed.getD t0 false=false:=by
       cases hc:listed.getD t0 false with
       | false=>rfl
       | true=>
        obtain⟨oj,h6,e,he,hb,heq⟩:=Region.waitsFor_spec hwt;have:=inv.closed t0 oj h6 hc e he hb;rw[heq,uG] at this;cases this
      obtain⟨x,hxp⟩:=aU4.perm;have h4:=hy x;rw[hwt] at h4
      exact⟨x++hp,h4,bJ5.trans hxp⟩
     | false=>
      obtain⟨x,hxp⟩:=aJ3.perm;have h4:=hy x;rw[hwt] at h4;exact⟨x++h0,h4,bJ5.trans hxp⟩
    have hgd:Good w0 mu hx w:=hm.good.perm kK;replace hnext:∀ w',Good w0 mu hx w'→wpAny P .any all Q' (f+g) (listed.setIfInBounds i true) (a.put o.dst v) w':=fun w' hG'=>hnext w' (hG'.perm kK.symm);unfold wU at h3
    cases hg:o.guard with
    | none=>
     rw[hg] at h3;rw[if_pos bD2]
     exact .inl (h3 a w hkn hgd _ _ hnext)
    | some jw=>
     obtain⟨j,want⟩:=jw;rw[hg] at h3;obtain⟨dj,c0,b,u,hj,hb,hdj,hy,hvv⟩:=h3;have hw:=jL hkn hg hj hb hdj
     cases hc:(c0&&jd b want) with
     | true=>
      rw[hc] at hw hvv;rw[if_pos hw];rw[bH6] at hc;rw[show v=u from hvv] at hnext
      exact .inl (hy hc.1 hc.2 a w hkn hgd _ _ hnext)
     | false=>
      rw[hc] at hw hvv;rw[if_neg bF'];rw[show v=undef from hvv] at hnext
      exact hnext w hgd
   | none=>
    rcases (hcov i hik).resolve_left (fun ⟨v,hv⟩=>by rw[CW] at hv;cases hv) with hiE | hiC
    ·have aU5:i∈E':=by
      rcases bK4.1 (kK.mem_iff.2 hiE) with h | h
      ·obtain⟨p,hp1,rfl⟩:=bI7.1 h;rw[hDl p hp1] at hun;cases hun
      ·exact h
     obtain⟨_,_,o',ho',hg,hEo⟩:=hE i hiE;rw[ho] at ho';cases ho';have hkn:=nI (o:=o) hds hm (dw:=aX) (fun j u hu=>.inr bD4) hall;rw[if_pos (hg _ hkn)];refine .inl (hEo a w (SY Dn) hkn hm.good _ _ fun v hn w' hRi hG'=>?_);obtain⟨s,t,hst⟩:=bW8 aU5
     have aJ5:(((i,v,hn)::Dn).map (·.1)++(s++t)).Perm E:=by
      refine List.Perm.trans ?_ kK;rw[hst,bL9,bI0,←bK7,←bK7];exact bS6.symm
     have hnd':i∉s++t:=fun hm'=>by
      have h5:=kK.nodup_iff.2 Iw;rw[bM3] at h5;have h6:=h5.2.1;rw[hst] at h6;have h7:=(bS6 (a:=i) (l₁:=s) (l₂:=t)).nodup_iff.1 h6;exact (bO4.1 h7).1 hm'
     refine ih (s++t) ((i,v,hn)::Dn) _ _ _ hleft (inv.set hi hik) aJ5 (fun p hp1=>?_) (qg (SX:=(i,v)::fmD Dn) hm ho hik hun hsz hd hf (by rw[SY,bK7];exact hG') (fun j u hu=>(hS j u hu).1) hEk (.inr ⟨CW,rfl⟩)) (fun p hp1=>?_) (fun j hj=>?_) (fun j hj=>?_)
     ·rcases bJ3.1 hp1 with rfl | hp1
      ·exact hRi
      ·exact hR p hp1
     ·rcases bJ3.1 hp1 with rfl | hp1
      ·simp[hsz]
      ·exact kC (hDl p hp1)
     ·have hji:i≠j:=fun e=>hnd' (e▸hj);rw[getD_set_ne true hji];refine hEl j ?_;rw[hst];rcases bK4.1 hj with h | h
      ·exact bJ2 _ h
      ·exact bI4 _ (bI5 _ h)
     ·have hji:i≠j:=fun e=>by subst e;exact aU2 _ hiE hj
      rw[getD_set_ne true hji];exact WS j hj
    ·exfalso;have h5:=hCE i hiC listed hi WS c hcE;rw[getD_both (hEl c hcE')] at h5;cases h5
theorem ab1:∀ (Dn:List (Nat×Value×Hp)) (c:Ch),(∀ p∈Dn,c p.1=p.2)→SY Dn=Qx c (Dn.map (·.1)):=by
 intro Dn
 induction Dn with
 | nil=>intro c _;rfl
 | cons p r ih=>
  intro c h;rw[SY,bL9,Qx,ih c (fun q hq=>h q (bI5 _ hq)),h p (bI8 ..)]
theorem WT{c:Ch}{L M:List Nat}(h:L.Perm M):(Qx c L).Perm (Qx c M):=by
 induction h with
 | nil=>exact .refl _
 | cons x _ ih=>exact bX1 _ ih
 | swap x y l=>
  simp only[Qx];rw[←bK7,←bK7]
  exact bY5 _ bJ5
 | trans _ _ h1 h2=>exact h1.trans h2
def IV(ops:Array Oper)(n k t0:Nat)(S E C:List Nat):Bool:=
 uN ops k n&&pM ops&&uO k S (E++C)&&wX ops C&&(match C with | []=>true | c::_=>E.all fun j=>Region.waitsFor .any ops c j)&&ug ops k&&(List.range k).all fun i=>(bF ops i).isSome||Nat.beq i t0||Region.waitsFor .any ops i t0
def WU(Dn:List (Nat×Value×Hp)):Ch:=fun i=>match lk Dn i with | some x=>x | none=>(undef,[])
theorem ab2:∀ {Dn:List (Nat×Value×Hp)},(Dn.map (·.1)).Nodup→∀ p∈Dn,WU Dn p.1=p.2:=by
 intro Dn
 induction Dn with
 | nil=>intro _ p h;cases h
 | cons q r ih=>
  intro hnd p hp;rw[bL9,bO4] at hnd;unfold WU;obtain⟨j,x⟩:=q;rw[bZ];rcases bJ3.1 hp with rfl | hp
  ·simp
  ·have hne:j≠p.1:=fun e=>hnd.1 (by simp only at e ⊢;rw[e];exact bI7.2 ⟨p,hp,rfl⟩);rw[if_neg hne];exact ih hnd.2 p hp
theorem S9(k t0:Nat)(S E C:List Nat)(h0:Hp)(hB:IV ops.toArray n k t0 S E C=true)(hf:bW l (dstsOf ops.toArray k)=true)(hle0:aI h0 hp)(hds:dB ops 0=ds)
  (h:DS P n w0 mu ops.toArray ds l h0 hp t0 (fun aX=>iP P n w0 mu ops.toArray ds l hp aX (fun Rs=>DN (fun iv bl=>gX P n w0 mu ops.toArray ds l h0 aX (fun bz hc=>Ops P n w0 mu ops.toArray (ops.drop k) (bV ds (bz++aX)++l) hc Q) C iv (bl++hp)) Rs) E []) S []):lT P n w0 mu ops.toArray l hp Q:=by
 intro a w hkn hG;simp only[IV,bH6] at hB;obtain⟨⟨⟨⟨⟨⟨hd,hback⟩,uQ⟩,fD⟩,hhead⟩,jm⟩,Ac⟩:=hB;simp only[uO,bH6,decide_eq_true_eq] at uQ;obtain⟨⟨hnd,hlt⟩,hcov⟩:=uQ;have hlt':∀ i∈S++(E++C),i<k:=fun i hi=>by have:=bH'.1 hlt i hi;simpa using this
 rw[bM3,bM3] at hnd;obtain⟨Iu,⟨Iw,Oq,hEC⟩,aU6⟩:=hnd;obtain⟨aX,hX,VY,yw,hsS⟩:=Oo S [] Iu (fun _ _=>rfl) (fun _ _ h=>by cases h) h (fun i v hv=>by cases hv);simp only[lk,reduceCtorEq,exists_false,or_false] at yw;have hX2:=Ku (Y:=fun Rs=>DN (fun iv bl=>gX P n w0 mu ops.toArray ds l h0 aX (fun bz hc=>Ops P n w0 mu ops.toArray (ops.drop k) (bV ds (bz++aX)++l) hc Q) C iv (bl++hp)) Rs∧Rs.map (·.1)=E.reverse) E [] (fun NI h1 h2=>⟨h2,by simpa using h1⟩) hX;obtain⟨RE,⟨hXE,aU7⟩,yx,hsE⟩:=Qw E [] Iw (fun _ _=>rfl) hX2 (fun i R hi=>by cases hi);simp only[lk,reduceCtorEq,exists_false,or_false] at yx
 have hks:k≤ops.toArray.size:=by
  simp only[ug,bJ7,bH6,decide_eq_true_eq] at jm;rcases jm with h | h<;>omega
 have ru:∀ i d,lk ds i=some d→bF ops.toArray i=some d:=fun i d h=>by rw[←hds] at h;have:=(lN ops 0 i d h).2;simpa [bF] using this
 have inv0:HeadInv .any ops.toArray k (Array.replicate ops.toArray.size false):=
  ⟨by simp,fun j oj _ hl=>bC0,fun t _ ht=>getD_in bG3 (getD_replicate_false _ _)⟩
 have IU:∀ i,i<k→(Array.replicate ops.toArray.size false).getD i true=false:=fun i hi=>getD_in bH4 (getD_replicate_false _ _)
 have hleft:leftOf k (Array.replicate ops.toArray.size false)=k:=by
  unfold leftOf;rw[bP'.2]
  ·simp
  ·intro i hi;simp only[IU i bE6,bL1]
 have av':∀ i,i∈E++C→lk aX i=none:=fun i hi=>by
  cases hv:lk aX i with
  | none=>rfl
  | some v=>exact absurd rfl (aU6 i ((yw i).1 ⟨v,hv⟩) i hi)
 have hS':∀ i v,lk aX i=some v→i<k∧∃ o dw,ops.toArray[i]?=some o∧qP dw aX∧∀ hx,wU P n w0 mu ops.toArray (aT ds dw o.after.toList++l) (bif Region.waitsFor .any ops.toArray t0 i then hx++hp else hx++h0) o v:=fun i v hv=>⟨hlt' i (bJ2 _ ((yw i).1 ⟨v,hv⟩)),hsS i v hv⟩
 have oC:∀ listed,HeadInv .any ops.toArray k listed→∀ i,i<k→listed.getD i true=false→∀ t,k≤t→t∉Region.ready .any ops.toArray listed:=fun listed inv i hi hun t ht=>by
  simp only[ug,bJ7,bH6,decide_eq_true_eq] at jm;rcases jm with h | ⟨⟨⟨xy,hs⟩,hc⟩,hseq⟩
  ·intro hr;obtain⟨_,o,ho,_⟩:=mem_ready.1 hr;have:=(bK5.1 ho).1;omega
  ·exact tail_waits hs hc xy inv _ i rfl hi hun t ht
 have aw0:(RE.map (·.1)).Perm E:=by rw[aU7];exact List.reverse_perm E
 have hE':∀ i∈E,i<k∧lk aX i=none∧∃ o,ops.toArray[i]?=some o∧BV P n w0 mu ops.toArray (aT ds aX o.after.toList++l) hp o (match lk RE i with | some R=>R | none=>fun _ _=>False):=fun i hi=>by
  obtain⟨R,hR⟩:=(yx i).2 hi;obtain⟨_,o,ho,he,_⟩:=hsE i R (jC hR);refine⟨hlt' i (bI4 _ (bJ2 _ hi)),av' i (bJ2 _ hi),o,ho,?_⟩;rw[hR];exact he
 have an4:∀ i,i<k→(∃ v,lk aX i=some v)∨i∈E∨i∈C:=fun i hi=>by
  have:=gY (bH'.1 hcov i (bJ1.2 hi));rcases bK4.1 this with h | h
  ·exact .inl ((yw i).2 h)
  ·exact .inr (bK4.1 h)
 have hCE:∀ i∈C,∀ listed:Array Bool,i∈Region.ready .any ops.toArray listed→(∀ j∈C,listed.getD j true=false)→∀ j∈E,listed.getD j false=true:=fun i hi listed hr WS j hj=>by
  obtain⟨hun,o,ho,hall⟩:=mem_ready.1 hr
  have hwl:∀ t,Region.waitsFor .any ops.toArray i t=true→listed.getD t false=true:=fun t ht=>by
   obtain⟨oj,h6,e,he,hb,heq⟩:=Region.waitsFor_spec ht;rw[ho] at h6;cases h6;rw[←heq];exact hall e he hb
  cases C with
  | nil=>cases hi
  | cons c r=>
   rcases bJ3.1 hi with rfl | hir
   ·exact hwl j (bH'.1 hhead j hj)
   ·exfalso;obtain⟨p,hp⟩:=Ea fD hir;rcases hp with⟨h1,_,h3⟩ | ⟨_,h3⟩ | ⟨p,h1,h3⟩
    ·have h5:=hwl p h3;rw[getD_both (WS p h1)] at h5;cases h5
    ·exact h3
    ·have h5:=hwl p h3;rw[getD_both (WS p h1)] at h5;cases h5
 have key:=av9 (g:=ops.toArray.size-k) (Q':=QQ n w0 mu Q) ru hks hd hf hback hle0 hS' (C:=C) hE' Iw (fun i hi v hv=>by rw[av' i (bI4 _ hi)] at hv;cases hv) (fun i hi hc=>hEC i hi i hc rfl) an4 hCE oC ?_ k E [] (Array.replicate ops.toArray.size false) a { w with drawn:=w.drawn+1 } hleft inv0 bB5 (fun p hp=>by cases hp)
  ⟨hkn.size,hkn.defers,hkn.has,hG.drawn _,fun i v _ hl=>bC0,fun i v hv=>by cases hv⟩ (fun p hp=>by cases hp) (fun i hi=>IU i (hlt' i (bI4 _ (bJ2 _ hi)))) (fun i hi=>IU i (hlt' i (bI4 _ (bI4 _ hi))))
 ·have e:k+(ops.toArray.size-k)=ops.toArray.size:=by omega
  rw[e] at key;exact key
 intro f Dn listed a w hlf inv kK hR hm hEl WS;have VX:(Dn.map (·.1)).Nodup:=kK.nodup_iff.2 Iw;have hch:=ab2 VX;have hbl:SY Dn=Qx (WU Dn) (Dn.map (·.1)):=ab1 Dn _ hch;have aJ6:(Qx (WU Dn) (RE.map (·.1))).Perm (SY Dn):=by rw[hbl];exact WT (aw0.trans kK.symm)
 have hval:∀ i R,(i,R)∈RE→∃ hn,(i,(WU Dn i).1,hn)∈Dn∧R (WU Dn i).1 (WU Dn i).2:=fun i R hi=>by
  have h1:i∈Dn.map (·.1):=kK.mem_iff.2 (aw0.mem_iff.1 (bI7.2 ⟨_,hi,rfl⟩));obtain⟨p,hp1,hp2⟩:=bI7.1 h1;subst hp2;have h2:=hR p hp1;rw[(hsE p.1 R hi).1] at h2;rw[hch p hp1];exact⟨p.2.2,hp1,h2⟩
 have ab3:Kq (WU Dn) RE:=Ir RE fun p hp=>(hval p.1 p.2 hp).choose_spec.2;have hD:=au1 RE _ (WU Dn) hXE ab3
 refine Gv ru (P:=P) (n:=n) (w0:=w0) (mu:=mu) (l:=l) (hp:=hp) (h0:=h0) (all:=ops.toArray) (aX:=aX) (k:=k) (t0:=t0) (g:=ops.toArray.size-k) (Q':=QQ n w0 mu Q) (X:=fun bz hc=>Ops P n w0 mu ops.toArray (ops.drop k) (bV ds (bz++aX)++l) hc Q) hks hd hf hback hle0
  (fun i hi hdn=>by
   have:=bH'.1 Ac i (bJ1.2 hi);rw[hdn] at this;simp only[bW7,bL3,bJ7] at this;rcases this with h | h
   ·exact .inl (bO8 h)
   ·exact .inr h)
  hS' (fun bz h listed inv hall hX a w hmid hEk=>?_) oC f C (Fp (WU Dn) RE) (Qx (WU Dn) (RE.map (·.1))++hp) listed a w hlf inv ⟨hm.size,hm.defers,hm.has,hm.good.perm (bY5 _ aJ6),hm.wY,fun i v hv=>?_⟩ (fun i v hv=>?_) (fun i hi=>⟨hlt' i (bI4 _ (bI4 _ hi)),WS i hi,av' i (bI4 _ hi)⟩) Oq fD (fun i hi hl=>?_) (dh fun b=>by have:=hle0.cnt b;rw[eH];omega) (fun _=>aI.right _ _) hD
 ·have xE:Knows n (bV ds (bz++aX)++l) a:=by
   refine⟨hmid.size,hmid.defers,fun t v ht=>?_⟩;rcases fV ht with ht | ⟨_,ht⟩
   ·obtain⟨j,h1,h2⟩:=jX (iY ht);rcases bK4.1 h1 with h1 | h1
    ·exact (hmid.qI j v h1).2 t (ru _ _ h2)
    ·have hj:=VY j v h1;have hjk:=hlt' j (bJ2 _ ((yw j).1 ⟨v,hj⟩));refine hmid.wY j v hj ?_ t (ru _ _ h2);have h5:=hall j hjk
     cases hcc:listed.getD j false with
     | true=>rfl
     | false=>rw[getD_in bC4 hcc] at h5;cases h5
   ·exact hmid.has t v ht
  have hfin:=hX a w xE hmid.good;simp only[ug,bJ7,bH6,decide_eq_true_eq] at jm;rcases jm with KI | ⟨⟨⟨xy,hs⟩,hc⟩,hseq⟩
  ·have e0:ops.drop k=[]:=bM0 (by simp at KI;omega);rw[e0] at hfin;rw[show ops.toArray.size-k=0 by omega];refine⟨?_,hfin⟩;rw[bM9];intro i hi;obtain⟨hun,o,ho,_⟩:=mem_ready.1 hi;have hi':i<k:=by rw[KI];exact (bK5.1 ho).1
   rw[hall i hi'] at hun;cases hun
  ·have hl:listed=(Array.replicate k true)++(Array.replicate (ops.toArray.size-k) false):=by
    apply Array.ext
    ·simp[inv.size];simp at xy;omega
    ·intro i h1 h2;by_cases hi:i<k
     ·have:=hall i hi;simp[h1] at this;rw[bT8 bE6];simpa using this
     ·have h3:=inv.tail i bB3 bE2;simp[h1] at h3;rw[bT5 bB9];simpa using h3
   have hdl:(ops.drop k).length=ops.toArray.size-k:=by simp
   rw[←hdl];exact wpAny_of_seq (ops.drop k) k listed a w (fun j=>by simp) bF7 hfin
 ·obtain⟨h1,R,hR1⟩:=CS RE hv;obtain⟨hn,h2,_⟩:=hval i R hR1;rw[h1];exact hm.qI i _ (QI.2 ⟨hn,h2⟩)
 ·obtain⟨h1,R,hR1⟩:=CS RE hv;exact (hE' i (aw0.mem_iff.1 (bI7.2 ⟨_,hR1,rfl⟩))).1
 ·rcases an4 i hi with h | h | h
  ·exact .inl h
  ·rw[hEl i h] at hl;cases hl
  ·exact .inr h
end
attribute [local irreducible] Hy St Ops DH dH jg iP gQ
section
variable {n : Nat} {w0 : World} {mu : List Nat} {l : Fm} {h0 hp : Hp} {Q : Exit → Fm → Hp → Prop} {ds : List (Nat × Nat)}
theorem Ee{id:Nat}{tl:List Oper}(k t0:Nat)(S E C:List Nat)(h0:Hp)(h:DS Tryz.prog n w0 mu ops.toArray ds l h0 hp t0 (fun aX=>iP Tryz.prog n w0 mu ops.toArray ds l hp aX (fun Rs=>DN (fun iv bl=>gX Tryz.prog n w0 mu ops.toArray ds l h0 aX (fun bz hc=>Ops Tryz.prog n w0 mu ops.toArray tl (bV ds (bz++aX)++l) hc Q) C iv (bl++hp)) Rs) E []) S [])
  (hle0:aI h0 hp:=by (exact ak)) (hds:dB ops 0=ds:=by (simp only[dB,Nat.reduceAdd,bK2];rfl)) (htl:ops.drop k=tl:=by (simp only[bL2,bL',List.drop_nil];rfl)) (hm:Tryz.prog.follows .mixedOrders=true:=by kernel_rfl) (hB:IV ops.toArray n k t0 S E C=true:=by decide +kernel) (hf:bW l (dstsOf ops.toArray k)=true:=by rfl):St Tryz.prog n w0 mu (.region id ops.toArray true) l hp Q:=
 xx hm (S9 k t0 S E C h0 hB hf hle0 hds bH2)
end
section
variable {n : Nat} {w0 : World} {mu : List Nat} {l : Fm} {h0 hp : Hp} {all : Array Oper} {iv : Fm} {t0 i d : Nat} {ds : List (Nat × Nat)} {S : List Nat} {X : Fm → Prop} {ty : TypeId} {pos : String} {af : Array Edge} {v : Value}
theorem Ef{f:FuncId}{xs:List Operand}{tys:Array TypeId}(hc:∀ w hx,Good w0 mu (hx++hp) w→Fn Tryz.prog f vs.toArray w [] (fun u _=>u=v))(h:DS Tryz.prog n w0 mu all ds l h0 hp t0 X S ((i,v)::iv))(ho:all[i]?=some ⟨some d,.call { callee:=.value (.func f),args:=xs.toArray,argTypes:=tys },ty,pos,af,none⟩:=by rfl)(hwt:Region.waitsFor .any all t0 i=true:=by decide +kernel)(bM:mem iV f=true:=by rfl)(hv:evs (aT ds iv af.toList++l) xs=some vs:=by rfl):DS Tryz.prog n w0 mu all ds l h0 hp t0 X (i::S) iv:=
 aJ2 ho hwt (fun hx=>fM (fA f bM) hv (fun w hG=>hc w hx hG)) h
theorem aw1{f:FuncId}{xs:List Operand}{tys:Array TypeId}(hc:∀ w hx,Good w0 mu (hx++h0) w→Fn Tryz.prog f vs.toArray w [] (fun u _=>u=v))(h:DS Tryz.prog n w0 mu all ds l h0 hp t0 X S ((i,v)::iv))(ho:all[i]?=some ⟨some d,.call { callee:=.value (.func f),args:=xs.toArray,argTypes:=tys },ty,pos,af,none⟩:=by rfl)(hwt:Region.waitsFor .any all t0 i=false:=by decide +kernel)(bM:mem iV f=true:=by rfl)(hv:evs (aT ds iv af.toList++l) xs=some vs:=by rfl):DS Tryz.prog n w0 mu all ds l h0 hp t0 X (i::S) iv:=
 aa9 ho hwt (fun hx=>fM (fA f bM) hv (fun w hG=>hc w hx hG)) h
end
section
variable {n : Nat} {w0 : World} {mu : List Nat} {l : Fm} {h0 hc : Hp} {all : Array Oper} {aX bz : Fm} {i d : Nat} {ds : List (Nat × Nat)} {r : List Nat} {Y : Fm → Hp → Prop} {ty : TypeId} {pos : String} {af : Array Edge}
theorem IW{t:TypeId}{ps:List (Nat×Operand)}{vs:List (Nat×Value)}{pl:List (Nat×Nat)}{zc out out':Array Value}(h:gX Tryz.prog n w0 mu all ds l h0 aX Y r ((i,.agg out')::bz) hc)(ho:all[i]?=some ⟨some d,.build t ps.toArray,ty,pos,af,none⟩:=by rfl)(hz:lk Tb.zs t=some z:=by rfl)(hzc:z.cells=zc:=by (first | ((simp only[Value.cells])<;>rfl) | rfl))(hpl:lk Tb.pl t=some pl:=by rfl)(hv:Fh (aT ds (bz++aX) af.toList++l) ps=some vs:=by rfl)(hf:fl pl zc vs=some out:=by rfl)(hn:out=out':=by (first | ((simp only[putAt,Value.cells,bP4,bO7,bR3,bR4,bL2,bL',bL7,bN0,bI0,bI3,bI'])<;>rfl) | rfl)):gX Tryz.prog n w0 mu all ds l h0 aX Y (i::r) bz hc:=
 aU1 ho (fun hx=>Ii aB hz hzc hpl hv hf hn) h
theorem cSame {t : TypeId}      {tb : TypeId} (h : gX Tryz.prog n w0 mu all ds l h0 aX Y r bz hc) (ho : all[i]? = some ⟨none, .store t x y, ty, pos, af, none⟩ := by rfl)
    (hx : ev (aT ds (bz ++ aX) af.toList ++ l) x = some (.pointer (some ⟨b, 0, none⟩)) := by rfl) (hm : (⟨b, cs, tb⟩ : mO) ∈ hc := by (first | (with_reducible apply mh) | (focus ((repeat (first | (with_reducible apply mh) | (with_reducible apply mt) | (with_reducible apply bI4))); done)))) (hy : ev (aT ds (bz ++ aX) af.toList ++ l) y = some v := by rfl) (lC : v.cells = vs.toArray := by (first | ((simp only [Value.cells]) <;> rfl) | rfl)) (hs : lk Tb.sz t = some sz := by rfl) (hl : vs.length = sz := by rfl) (hv1 : vs.all (·.oneCell') = true := by first | rfl | (focus (simp; done))) (hlt : 0 + vs.length ≤ cs.size := by first | omega | (focus (simp; done)) | (focus (simp; omega))) (hput : putAt cs 0 vs = cs := by (first | ((simp only [putAt, Value.cells, bP4, bO7, bR3, bR4, bL2, bL', bL7, bN0, bI0, bI3, bI']) <;> rfl) | rfl))
    (hle : aI h0 hc := by (exact ak)) : gX Tryz.prog n w0 mu all ds l h0 aX Y (i :: r) bz hc := by
  refine ⟨_, ho, .inr ⟨rfl, hc, ⟨rfl, rfl, fun a w hk hG K Q' hK => ?_⟩, hle, h⟩⟩;obtain ⟨s, t', rfl⟩ := bW8 hm;have hG' := hG.perm (hp' := ⟨b, cs, tb⟩ :: (s ++ t')) bS6.symm;have hb := hG'.here _ (bI8 ..)
  have hst := run_storeCells_cells (P := Tryz.prog) b 0 vs 0 w
    (fun j hj => by rw [cell_of_block hb]; have h3 : j < cs.size := by omega
                    simp [h3])
    (fun j _ => fQ hb) (fun u hu => (bH'.1 hv1) u hu)
  unfold Oper.wp
  have hrun : (execOp a.eval ⟨none, .store t x y, ty, pos, af, none⟩).run Tryz.prog w = .ok .skip (w.setCells b 0 vs) := by
    simp only [execOp, hk.ev hx, hk.ev hy];simp only [bL4] at hst;simp [Instr.storeAt, Instr.sureAddr, storeVar, lC, run_sizeOf (show fK Tryz.prog t = some vs.length by rw [hl]; exact aB.zO hs) w, hst]
  rw [hrun];have h2 := Good.sets (w := w) vs cs 0 w hG';rw [hput] at h2;exact hK _ (h2.perm bS6)
end
section
variable {n : Nat} {w0 : World} {mu : List Nat} {l : Fm} {h0 hc : Hp} {all : Array Oper} {aX bz : Fm} {i d : Nat} {ds : List (Nat × Nat)} {r : List Nat} {Y : Fm → Hp → Prop} {ty : TypeId} {pos : String} {af : Array Edge}
theorem WV{t:TypeId}{cs':Array Value}{tb:TypeId}(h:gX Tryz.prog n w0 mu all ds l h0 aX Y r bz (⟨b,cs',tb⟩::hp'))(ho:all[i]?=some ⟨none,.store t x y,ty,pos,af,none⟩:=by rfl)
  (hx:ev (aT ds (bz++aX) af.toList++l) x=some (.pointer (some ⟨b,off,none⟩)):=by rfl) (hy:ev (aT ds (bz++aX) af.toList++l) y=some v:=by rfl) (lC:v.cells=vs.toArray:=by (first | ((simp only[Value.cells])<;>rfl) | rfl)) (hs:lk Tb.sz t=some sz:=by rfl) (hl:vs.length=sz:=by rfl) (hperm:(⟨b,cs,tb⟩::hp').Perm hc:=by (first | (with_reducible apply p0) | (with_reducible apply p1) | (with_reducible apply p2) | (with_reducible apply p3) | (with_reducible apply p4) | (with_reducible apply p5))) (hv1:vs.all (·.oneCell')=true:=by first | rfl | (focus (simp;done))) (hlt:off+vs.length≤cs.size:=by first | omega | (focus (simp;done)) | (focus (simp;omega))) (hput:putAt cs off vs=cs':=by (first | ((simp only[putAt,Value.cells,bP4,bO7,bR3,bR4,bL2,bL',bL7,bN0,bI0,bI3,bI'])<;>rfl) | rfl))
  (hle:aI h0 (⟨b,cs',tb⟩::hp'):=by (exact ak)):gX Tryz.prog n w0 mu all ds l h0 aX Y (i::r) bz hc:=Ed aB ho hx hy lC hs hl hperm hv1 hlt hput hle h
end
section
variable {n : Nat} {w0 : World} {mu : List Nat} {l : Fm} {hp : Hp} {all : Array Oper} {iv : Fm} {i d : Nat} {ds : List (Nat × Nat)} {S : List Nat} {X : Fm → Prop} {ty : TypeId} {pos : String} {af : Array Edge} {v : Value}
end
end
section
section
variable {P : Program} {n : Nat} {w0 : World} {mu : List Nat} {l : Fm} {hp : Hp} {Q : Exit → Fm → Hp → Prop} {all : Array Oper} {kd : Nat → Kd} {val : Ch → Nat → Value} {k : Nat}
end
section
variable {P : Program} {n : Nat} {w0 : World} {mu : List Nat} {l : Fm} {h0 hp : Hp} {Q : Exit → Fm → Hp → Prop} {all : Array Oper} {aX : Fm} {k t0 : Nat} {ds : List (Nat × Nat)}
end
def sW(ops:Array Oper)(n k:Nat)(S E D D2 C:List Nat):Bool:=
 match C with
 | []=>false
 | t0::_=>decide (k≤ops.size)&&zQ ops k n&&uN ops ops.size n&&pM ops&&uO ops.size (S++E++D++D2) C&&wX ops C&&(S.all fun j=>Region.waitsFor .any ops t0 j)&&(E.all fun j=>Region.waitsFor .any ops t0 j)&&(D2++C).all (fun j=>Nat.ble k j) &&
  ((List.range ops.size).all fun i=>(bF ops i).isSome||Nat.beq i t0||Region.waitsFor .any ops i t0) &&
  ((List.range ops.size).all fun i=>Nat.blt i k||(E.all fun j=>Region.waitsFor .any ops i j)||(List.range ops.size).any fun j=>Nat.ble k j&&Region.waitsFor .any ops i j)
theorem KJ {K:Nat} {listed : Array Bool} (hk : k ≤ K) (h : ∀ t, k ≤ t → t < K → listed.getD t true = false) : leftOf K listed = leftOf k listed + (K - k) := by
  induction K with
  | zero => have : k = 0 := by omega
            subst this; rfl
  | succ K ih =>
    by_cases e : k = K + 1
    · subst e; omega
    · have h1 := ih bB3 (fun t h2 h3 => h t h2 bB3)
      have h2 := h K bB3 bB3;unfold leftOf at h1 ⊢;rw [bO5, bW6, bJ9, h1];have : ([K].filter fun i => !listed.getD i true) = [K] := by simp only [bW2, h2, bL1, List.filter_nil, if_true]
      rw [this, bZ1];omega
section
variable {P : Program} {n : Nat} {w0 : World} {mu : List Nat} {l : Fm} {hp : Hp} {Q : Exit → Fm → Hp → Prop} {ds : List (Nat × Nat)}
theorem WW{lf:Fm}{o:Oper}(hy:Fj P n w0 mu lf [] o v):Fj P n w0 mu lf h o v:=⟨hy.1,fun a w hk hG=>hy.2 a w hk (hG.sub (List.nil_sublist _))⟩
theorem WX{lf:Fm}{o:Oper}{all:Array Oper}(hy:Fj P n w0 mu lf [] o v):wU P n w0 mu all lf h o v:=by
 unfold wU;rw[hy.1];intro a w hk hG K Q' hK;unfold Oper.wp;rw[hy.2 a w hk (hG.sub (List.nil_sublist _))];exact hK _ hG
end
section
variable {n : Nat} {w0 : World} {mu : List Nat} {l : Fm} {hp : Hp} {Q : Exit → Fm → Hp → Prop} {ds : List (Nat × Nat)}
end
end
section
def EoD(P:Program)(n:Nat)(w0:World)(mu:List Nat)(all:Array Oper)(ds:List (Nat×Nat))(l:Fm)(hp:Hp)(dw:Fm)(kd:Nat→Kd)(val:Ch→Nat→Value)(k i:Nat)(o:Oper)(R:RT):Prop:=
 BV P n w0 mu all (aT ds dw o.after.toList++l) hp o R∨∃ m Rm,m<k∧kd m=.e Rm∧(∀ c,val c m=(c m).1)∧Region.waitsFor .any all i m=true∧∀ v hn,Rm v hn→BV P n w0 mu all (aT ds ((m,v)::dw) o.after.toList++l) (hn++hp) o R
def Af(P:Program)(n:Nat)(w0:World)(mu:List Nat)(all:Array Oper)(ds:List (Nat×Nat))(l:Fm)(hp:Hp)(iv:Fm)(X:List (Nat×RT)→Prop):List Nat→List (Nat×RT)→Prop
 | [],Rs=>X Rs
 | i::E,Rs=>∃ o R,all[i]?=some o∧(BV P n w0 mu all (aT ds iv o.after.toList++l) hp o R∨∃ m Rm,lk Rs m=some Rm∧Region.waitsFor .any all i m=true∧∀ v hn,Rm v hn→BV P n w0 mu all (aT ds ((m,v)::iv) o.after.toList++l) (hn++hp) o R)∧(∃ v hn,R v hn)∧Af P n w0 mu all ds l hp iv X E ((i,R)::Rs)
theorem WY{kd:Nat→Kd}{c:Ch}{listed:Array Bool}(he:FC (kd m)=true)(hl:listed.getD m false=true):∀ k,m<k→∃ hx,(mP kd c listed k).Perm (hx++(c m).2):=by
 intro k
 induction k with
 | zero=>intro h;omega
 | succ k ih=>
  intro h;simp only[mP];by_cases hmk:m=k
  ·subst hmk;refine⟨mP kd c listed m,?_⟩;rw[show nO kd c listed m=(c m).2 by unfold nO;rw[he,hl];rfl];exact bJ5
  ·obtain⟨hx,hp⟩:=ih bB3;exact⟨nO kd c listed k++hx,by rw[bK7];exact hp.append_left _⟩
section
variable {P : Program} {n : Nat} {w0 : World} {mu : List Nat} {l : Fm} {hp : Hp} {all : Array Oper} {ds : List (Nat × Nat)}
theorem WZ{iv:Fm}{X:List (Nat×RT)→Prop}:∀ (E:List Nat) (Rs:List (Nat×RT)),E.Nodup→(∀ i∈E,lk Rs i=none)→Af P n w0 mu all ds l hp iv X E Rs →
  (∀ i R,(i,R)∈Rs→lk Rs i=some R∧∃ o,all[i]?=some o∧(BV P n w0 mu all (aT ds iv o.after.toList++l) hp o R∨∃ m Rm,lk Rs m=some Rm∧Region.waitsFor .any all i m=true∧∀ v hn,Rm v hn→BV P n w0 mu all (aT ds ((m,v)::iv) o.after.toList++l) (hn++hp) o R)∧∃ v hn,R v hn) →
  ∃ RE,X RE∧(∀ i,(∃ R,lk RE i=some R)↔i∈E∨∃ R,lk Rs i=some R)∧∀ i R,(i,R)∈RE→lk RE i=some R∧∃ o,all[i]?=some o∧(BV P n w0 mu all (aT ds iv o.after.toList++l) hp o R∨∃ m Rm,lk RE m=some Rm∧Region.waitsFor .any all i m=true∧∀ v hn,Rm v hn→BV P n w0 mu all (aT ds ((m,v)::iv) o.after.toList++l) (hn++hp) o R)∧∃ v hn,R v hn:=by
 intro E
 induction E with
 | nil=>intro Rs _ _ h hs;exact⟨Rs,h,fun i=>by simp,hs⟩
 | cons i E ih=>
  rintro Rs hnd hno ⟨o,R,ho,hy,N8,h⟩ hs;rw[bO4] at hnd;have hi:=hno i (bI8 ..)
  have hmo:∀ m Rm,lk Rs m=some Rm→lk ((i,R)::Rs) m=some Rm:=fun m Rm hm=>by
   rw[bZ,if_neg (by rintro rfl;rw[hi] at hm;cases hm)];exact hm
  obtain⟨RE,hX,hk,hs2⟩:=ih ((i,R)::Rs) hnd.2 (fun j hj=>by rw[bZ,if_neg bE9];exact hno j (bI5 _ hj)) h (fun j R' hj=>by
   rcases bJ3.1 hj with hj | hj
   ·cases hj;refine⟨by rw[bZ,if_pos rfl],o,ho,?_,N8⟩;rcases hy with hy | ⟨m,Rm,h1,h2⟩
    ·exact .inl hy
    ·exact .inr ⟨m,Rm,hmo m Rm h1,h2⟩
   ·obtain⟨h1,o',h2,hy',h3⟩:=hs j R' hj;refine⟨hmo j R' h1,o',h2,?_,h3⟩;rcases hy' with hy | ⟨m,Rm,h1,h2⟩
    ·exact .inl hy
    ·exact .inr ⟨m,Rm,hmo m Rm h1,h2⟩)
  refine⟨RE,hX,fun j=>?_,hs2⟩;rw[hk,bJ3,bZ];by_cases hij:i=j
  ·subst hij;simp
  ·rw[if_neg hij];constructor
   ·rintro (h | h)
    ·exact .inl (.inr h)
    ·exact .inr h
   ·rintro ((h | h) | h)
    ·exact absurd h.symm hij
    ·exact .inl h
    ·exact .inr h
theorem Tc{iv:Fm}{X Y:List (Nat×RT)→Prop}:∀ (E:List Nat) (Rs:List (Nat×RT)) (V5:∀ NI,NI.map (·.1)=E.reverse++Rs.map (·.1)→X NI→Y NI),Af P n w0 mu all ds l hp iv X E Rs→Af P n w0 mu all ds l hp iv Y E Rs:=by
 intro E
 induction E with
 | nil=>intro Rs V5 h;exact V5 Rs bB5 h
 | cons i E ih=>
  rintro Rs V5 ⟨o,R,h1,h2,h3,h4⟩;exact⟨o,R,h1,h2,h3,ih _ (fun NI e=>V5 NI (by rw[e];simp)) h4⟩
end
section
variable {P : Program} {n : Nat} {w0 : World} {mu : List Nat} {l : Fm} {hp : Hp} {Q : Exit → Fm → Hp → Prop} {all : Array Oper} {kd : Nat → Kd} {val : Ch → Nat → Value} {k : Nat}
theorem Ot{ds:List (Nat×Nat)}(hds:∀ k d,lk ds k=some d→bF all k=some d){Q':Exit→Act→World→Prop}(hk:k≤all.size)(hd:zQ all k n=true)(hf:bW l (dstsOf all k)=true)(hback:pM all=true)
  (hS:∀ i o v,i<k→all[i]?=some o→kd i=.s v→(∀ c,val c i=v)∧∃ dw,(∀ j u,look dw j=some u→j<k∧∀ c,val c j=u)∧∀ hx,wU P n w0 mu all (aT ds dw o.after.toList++l) (hx++hp) o v)
  (hE:∀ i o R,i<k→all[i]?=some o→kd i=.e R→(∀ c,val c i=(c i).1)∧∃ dw,(∀ j u,look dw j=some u→j<k∧∀ c,val c j=u)∧EoD P n w0 mu all ds l hp dw kd val k i o R)
  (hD:∀ c,Valid kd k c→∀ i o,i<k→all[i]?=some o→kd i=.d→∃ dw,(∀ j u,look dw j=some u→j<k∧val c j=u)∧Fj P n w0 mu (aT ds dw o.after.toList++l) hp o (val c i))
  (htail:∀ f c listed,leftOf k listed=f→HeadInv .any all k listed→(∀ i,i<k→FC (kd i)=true→listed.getD i true=true)→∀ a w,Io n w0 mu all l hp kd val k c listed a w→wpAny P .any all Q' (f+g) listed a w)
  (oC:∀ listed,HeadInv .any all k listed→∀ i,i<k→FC (kd i)=true→listed.getD i true=false→∀ t,k≤t→t∉Region.ready .any all listed):
  ∀ f c listed a w,leftOf k listed=f→HeadInv .any all k listed→Io n w0 mu all l hp kd val k c listed a w→wpAny P .any all Q' (f+g) listed a w:=by
 intro f
 induction f with
 | zero=>
  intro c listed a w hlf inv hm;refine htail 0 c listed hlf inv (fun i hi _=>?_) a w hm
  cases hc:listed.getD i true with
  | true=>rfl
  | false=>
   exfalso;have:i∈(List.range k).filter fun i=>!listed.getD i true:=bN'.2 ⟨bJ1.2 hi,by simp only[hc,bL1]⟩;have h2:=bQ6 this;unfold leftOf at hlf
   omega
 | succ f ih=>
  intro c listed a w hlf inv hm;by_cases KL:∀ i,i<k→FC (kd i)=true→listed.getD i true=true
  ·exact htail (f+1) c listed hlf inv KL a w hm
  obtain⟨i0,su,aU8,hi0⟩:∃ i,i<k∧FC (kd i)=true∧listed.getD i true=false:=by
   refine bT9 fun hno=>KL fun i hi he=>?_
   cases hc:listed.getD i true with
   | true=>rfl
   | false=>exact absurd ⟨i,hi,he,hc⟩ hno
  rw[show f+1+g=(f+g)+1 by omega];refine⟨fun hnil=>?_,fun i hi=>?_⟩
  ·exfalso;obtain⟨i,⟨hik,hil⟩,hmin⟩:=exists_least (p:=fun i=>i<k∧listed.getD i true=false) ⟨i0,su,hi0⟩
   have hr:i∈Region.ready .any all listed:=by
    rw[mem_ready];have hs:i<all.size:=by omega
    refine⟨hil,all[i],by simp[hs],fun e he hb=>?_⟩;have hb2:=bH'.1 hback i (bJ1.2 hs);simp only[bO3 hs] at hb2;have hb3:=(bN2.1 hb2) e he;simp only[hb,bK1,bL3,bX4] at hb3
    cases hc:listed.getD e.on false with
    | true=>rfl
    | false=>
     have h5:=hmin e.on ⟨by omega,getD_in bC4 hc⟩;omega
   rw[hnil] at hr;cases hr
  ·have hik:i<k:=by
    rcases bQ3 i k with h | h
    ·exact h
    ·exact absurd hi (oC listed inv i0 su aU8 hi0 i h)
   obtain⟨hun,o,ho,hall⟩:=mem_ready.1 hi;have hsz:i<listed.size:=by rw[inv.size];omega
   have hself:∀ j,j<k→listed.getD j false=true→FC (kd j)=true→c j=c j:=fun _ _ _ _=>rfl
   have hgo:∀ c2 a' w',Io n w0 mu all l hp kd val k c2 (listed.setIfInBounds i true) a' w'→wpAny P .any all Q' (f+g) (listed.setIfInBounds i true) a' w':=fun c2 a' w' h=>
    ih c2 _ _ _ bE5 (inv.set hi hik) h
   have Ko:Good w0 mu hp w:=hm.good.sub (bR' _ _);unfold wpOp;simp only[ho]
   cases hkd:kd i with
   | s v=>
    obtain⟨lC,dw,hiv,hy⟩:=hS i o v hik ho hkd;have hkn:=ja (i:=i) hds hm hm.valid hself (fun j u hu=>⟨(hiv j u hu).1,(hiv j u hu).2 c⟩) hall;have hE0:FC (kd i)=false:=by rw[hkd];rfl
    have hnext:∀ w',Good w0 mu (mP kd c listed k++hp) w'→wpAny P .any all Q' (f+g) (listed.setIfInBounds i true) (a.put o.dst v) w':=fun w' hG'=>
     hgo c _ _ (o7 hm ho hik hun hsz hd hf hm.valid (fun _ _=>rfl) (by rw[vT hE0];exact hG') (fun c' _ _=>lC c'))
    have h3:=hy (mP kd c listed k);unfold wU at h3
    cases hg:o.guard with
    | none=>
     rw[hg] at h3;rw[if_pos bD2]
     exact .inl (h3 a w hkn hm.good _ _ hnext)
    | some jw=>
     obtain⟨j,want⟩:=jw;rw[hg] at h3;obtain⟨dj,c0,b,u,hj,hb,hdj,hy,hvv⟩:=h3;have hw:=jL hkn hg hj hb hdj
     cases hc:(c0&&jd b want) with
     | true=>
      rw[hc] at hw hvv;rw[if_pos hw];rw[bH6] at hc;rw[show v=u from hvv] at hnext
      exact .inl (hy hc.1 hc.2 a w hkn hm.good _ _ hnext)
     | false=>
      rw[hc] at hw hvv;rw[if_neg bF'];rw[show v=undef from hvv] at hnext
      exact hnext w hm.good
   | e R=>
    obtain⟨lC,dw,hiv,hed⟩:=hE i o R hik ho hkd
    have hwl:∀ t,Region.waitsFor .any all i t=true→listed.getD t false=true:=fun t ht=>by
     obtain⟨oj,h6,e,he,hb,heq⟩:=Region.waitsFor_spec ht;rw[ho] at h6;cases h6;rw[←heq];exact hall e he hb
    obtain⟨hg,hy⟩:Region.wanted o (yielded all a.tmps)=true∧∀ (K:Act→World→Prop) (Q:Exit→Act→World→Prop),(∀ v hn w',R v hn→Good w0 mu (hn++(mP kd c listed k++hp)) w'→K (a.put o.dst v) w')→o.wp P a w K Q:=by
     rcases hed with⟨hg,hy⟩ | ⟨m,Rm,hmk,hkm,hvm,hwm,hy⟩
     ·have hkn:=ja (i:=i) hds hm hm.valid hself (fun j u hu=>⟨(hiv j u hu).1,(hiv j u hu).2 c⟩) hall;exact⟨hg _ hkn,fun K Q h=>hy a w _ hkn hm.good K Q h⟩
     ·have hRm:=hm.valid m hmk Rm hkm;obtain⟨hg,hy⟩:=hy _ _ hRm
      have hkn:=ja (dw:=(m,(c m).1)::dw) (i:=i) hds hm hm.valid hself (fun j u hu=>by
       rw[jD,bZ] at hu;by_cases hmj:m=j
       ·subst hmj;rw[if_pos rfl] at hu;cases hu;exact⟨hmk,hvm c⟩
       ·rw[if_neg hmj,←jD] at hu
        exact⟨(hiv j u hu).1,(hiv j u hu).2 c⟩) hall
      obtain⟨hx,hpx⟩:=WY (kd:=kd) (c:=c) (listed:=listed) (m:=m) (by rw[hkm];rfl) (hwl m hwm) k hmk;refine⟨hg _ hkn,fun K Q h=>hy a w hx hkn (hm.good.perm (by rw[←bK7];exact (hpx.append_right _).symm)) K Q fun v hn w' hR hG'=>h v hn w' hR (hG'.perm (bX1 _ (by rw[←bK7];exact hpx.append_right _)))⟩
    rw[if_pos hg];refine .inl (hy _ _ fun v hn w' hR hG'=>?_);refine hgo (fun t=>if t=i then (v,hn) else c t) _ _ (o7 hm ho hik hun hsz hd hf ?_ (fun j hj=>by simp[hj]) ?_ ?_)
    ·intro j hj R' hR';by_cases hji:j=i
     ·subst hji;rw[hkd] at hR';cases hR';simpa using hR
     ·simp only[hji,if_false];exact hm.valid j hj R' hR'
    ·refine hG'.perm ?_;rw[←bK7];exact (J9 (by rw[hkd];rfl) hun hsz k hik).symm.append_right _
    ·intro c' hc' hag;rw[lC c',hag i hik (by simp[hsz]) (by rw[hkd];rfl)]
     simp
   | d=>
    obtain⟨dw,hiv,hg,hy⟩:=hD c hm.valid i o hik ho hkd;have hE0:FC (kd i)=false:=by rw[hkd];rfl
    have hkn:=ja (i:=i) hds hm hm.valid hself hiv hall;have hrun:=hy a w hkn Ko;rw[if_pos bD2];refine .inl ?_;unfold Oper.wp;rw[hrun];refine hgo c _ _ (o7 hm ho hik hun hsz hd hf hm.valid (fun _ _=>rfl) (by rw[vT hE0];exact hm.good) (fun c' hc' hag=>?_));obtain⟨rq,N7,hg2,hy2⟩:=hD c' hc' i o hik ho hkd;have hag':∀ j,j<k→listed.getD j false=true→FC (kd j)=true→c' j=c j:=fun j hj hl he=>hag j hj (getD_set_true hl) he;have hrun2:=hy2 a w (ja (i:=i) hds hm hc' hag' N7 hall) Ko;rw[hrun] at hrun2;simp only[Result.ok.injEq,Next.value.injEq,and_true] at hrun2;exact hrun2.symm
end
section
variable {P : Program} {n : Nat} {w0 : World} {mu : List Nat} {l : Fm} {hp : Hp} {Q : Exit → Fm → Hp → Prop} {ds : List (Nat × Nat)}
theorem Ou(k:Nat)(S E D D2 C:List Nat)(hB:sW ops.toArray n k S E D D2 C=true)(hf:bW l (dstsOf ops.toArray ops.toArray.size)=true)(hf1:bW l (dstsOf ops.toArray k)=true)(hsp:splitB k S E D=true)(hds:dB ops 0=ds)
  (h:jg P n w0 mu ops.toArray ds l hp (fun aX=>Af P n w0 mu ops.toArray ds l hp aX (fun Rs=>∀ c,Kq c Rs→gQ P n w0 mu ops.toArray ds l [] (fun iv1=>gQ P n w0 mu ops.toArray ds l [] (fun rq=>gX P n w0 mu ops.toArray ds l [] rq (fun bz hc=>Ops P n w0 mu ops.toArray [] (bV ds (bz++rq)++l) hc Q) C [] (JQ E c k++hp)) D2 iv1) D (Fp c Rs++aX)) E []) S []):lT P n w0 mu ops.toArray l hp Q:=by
 intro a w hk hG;simp only[splitB,bH6,decide_eq_true_eq] at hsp;obtain⟨⟨⟨_,hnd⟩,hlt⟩,hcov⟩:=hsp;have hlt':∀ i∈S++E++D,i<k:=fun i hi=>by have:=bH'.1 hlt i hi;simpa using this
 have wV:∀ i,i<k→i∈S∨i∈E∨i∈D:=fun i hi=>by
  have:=gY (bH'.1 hcov i (bJ1.2 hi));simpa [or_assoc] using this
 rw[bK7,bM3] at hnd;obtain⟨Iu,Kr,hSx⟩:=hnd;rw[bM3] at Kr;obtain⟨Iw,VX,hEx⟩:=Kr;obtain⟨aX,h2,VY,yw,hsS⟩:=Qv S [] Iu (fun _ _=>rfl) (fun _ _ h=>by cases h) h (fun i v hv=>by cases hv);obtain⟨Rs,h3,yx,hsE⟩:=WZ E [] Iw (fun _ _=>rfl) h2 (fun i R hR=>by cases hR);simp only[lk,reduceCtorEq,exists_false,or_false] at yw yx
 have hES:∀ i R,lk Rs i=some R→lk aX i=none:=fun i R hR=>by
  cases hv:lk aX i with
  | none=>rfl
  | some v=>exact absurd rfl (hSx i ((yw i).1 ⟨v,hv⟩) i (bJ2 _ ((yx i).1 ⟨R,hR⟩)))
 let kd:Nat→Kd:=fun i=>match lk Rs i with | some R=>.e R | none=>match lk aX i with | some v=>.s v | none=>.d
 have sG:∀ i R,kd i=.e R↔lk Rs i=some R:=fun i R=>by
  show (match lk Rs i with | some R=>Kd.e R | none=>match lk aX i with | some v=>.s v | none=>.d)=_↔_
  cases lk Rs i with
  | some R'=>simp
  | none=>cases lk aX i<;>simp
 have VZ:∀ i v,kd i=.s v→lk Rs i=none∧lk aX i=some v:=fun i v=>by
  show (match lk Rs i with | some R=>Kd.e R | none=>match lk aX i with | some v=>.s v | none=>.d)=_→_
  cases lk Rs i with
  | some R'=>simp
  | none=>cases lk aX i<;>simp
 have at7:∀ i,kd i=.d→lk Rs i=none∧lk aX i=none:=fun i=>by
  show (match lk Rs i with | some R=>Kd.e R | none=>match lk aX i with | some v=>.s v | none=>.d)=_→_
  cases lk Rs i with
  | some R'=>simp
  | none=>cases lk aX i<;>simp
 have V3:∀ i R,lk Rs i=some R→(i,R)∈Rs:=fun i R h=>jC h
 have hvalid:∀ c,Valid kd k c→Kq c Rs:=fun c hc=>Ir Rs fun p hp=>by
  obtain⟨i,R⟩:=p;have h1:=(hsE i R hp).1;exact hc i (hlt' i (bJ2 _ (bI4 _ ((yx i).1 ⟨R,h1⟩)))) R ((sG i R).2 h1)
 have hex:∀ c,Valid kd k c→∃ Fq,gQ P n w0 mu ops.toArray ds l [] (fun rq=>gX P n w0 mu ops.toArray ds l [] rq (fun bz hc=>Ops P n w0 mu ops.toArray [] (bV ds (bz++rq)++l) hc Q) C [] (JQ E c k++hp)) D2 Fq∧Uq Fq∧qP (Fp c Rs++aX) Fq∧(∀ i,(∃ v,lk Fq i=some v)↔i∈D∨∃ v,lk (Fp c Rs++aX) i=some v)∧∀ i v,lk Fq i=some v→lk (Fp c Rs++aX) i=some v∨∃ o dw,ops.toArray[i]?=some o∧qP dw Fq∧Fj P n w0 mu (aT ds dw o.after.toList++l) [] o v:=fun c hc=>
  Iq D (Fp c Rs++aX) VX (fun i hi=>by
   rw[ji]
   have e1:lk Rs i=none:=by
    cases hR:lk Rs i with
    | none=>rfl
    | some R=>exact absurd rfl (hEx i ((yx i).1 ⟨R,hR⟩) i hi)
   rw[e1]
   cases hv:lk aX i with
   | none=>rfl
   | some v=>exact absurd rfl (hSx i ((yw i).1 ⟨v,hv⟩) i (bI4 _ hi))) (fun i v hv=>by
   rw[ji];rcases bK4.1 hv with hv | hv
   ·obtain⟨rfl,R,hR⟩:=CS Rs hv;rw[(hsE i R hR).1]
   ·have h1:=VY i v hv
    cases hR:lk Rs i with
    | none=>exact h1
    | some R=>rw[hES i R hR] at h1;cases h1) (fun _ _ h=>h) (h3 c (hvalid c hc)) (fun i v hv=>.inl hv)
 have hch:∃ F:Ch→Fm,∀ c,Valid kd k c→gQ P n w0 mu ops.toArray ds l [] (fun rq=>gX P n w0 mu ops.toArray ds l [] rq (fun bz hc=>Ops P n w0 mu ops.toArray [] (bV ds (bz++rq)++l) hc Q) C [] (JQ E c k++hp)) D2 (F c)∧Uq (F c)∧qP (Fp c Rs++aX) (F c)∧(∀ i,(∃ v,lk (F c) i=some v)↔i∈D∨∃ v,lk (Fp c Rs++aX) i=some v)∧∀ i v,lk (F c) i=some v→lk (Fp c Rs++aX) i=some v∨∃ o dw,ops.toArray[i]?=some o∧qP dw (F c)∧Fj P n w0 mu (aT ds dw o.after.toList++l) [] o v:=by
  classical
  refine⟨fun c=>if hc:Valid kd k c then Classical.choose (hex c hc) else [],fun c hc=>?_⟩;simp only[hc,dif_pos];exact bT7 (hex c hc)
 obtain⟨F,hF⟩:=hch
 let val:Ch→Nat→Value:=fun c i=>match kd i with | .s v=>v | .e _=>(c i).1 | .d=>(lk (F c) i).getD undef
 have DI:∀ c,Valid kd k c→∀ i v,lk (F c) i=some v→val c i=v:=fun c hc i v hv=>by
  obtain⟨_,_,hmo,_,_⟩:=hF c hc;show (match kd i with | .s v=>v | .e _=>(c i).1 | .d=>(lk (F c) i).getD undef)=v
  cases hkd:kd i with
  | s u=>
   obtain⟨e1,e2⟩:=VZ i u hkd;have:=hmo i u (by rw[ji,e1];exact e2)
   rw[hv] at this;cases this;rfl
  | e R=>
   have e1:=(sG i R).1 hkd;have:=hmo i (c i).1 (by rw[ji,e1])
   rw[hv] at this;cases this;rfl
  | d=>rw[hv];rfl
 have Kt:∀ c,Valid kd k c→∀ i,i<k→∃ v,lk (F c) i=some v:=fun c hc i hi=>by
  obtain⟨_,_,_,hkk,_⟩:=hF c hc;rw[hkk i];rcases wV i hi with h | h | h
  ·obtain⟨v,hv⟩:=(yw i).2 h;right;rw[ji]
   cases lk Rs i with
   | some R=>exact⟨_,rfl⟩
   | none=>exact⟨v,hv⟩
  ·obtain⟨R,hR⟩:=(yx i).2 h;right;rw[ji,hR];exact⟨_,rfl⟩
  ·exact .inl h
 have uF:∀ i v,lk aX i=some v→i<k∧∀ c,val c i=v:=fun i v hv=>by
  refine⟨hlt' i (bJ2 _ (bJ2 _ ((yw i).1 ⟨v,hv⟩))),fun c=>?_⟩;show (match kd i with | .s v=>v | .e _=>(c i).1 | .d=>(lk (F c) i).getD undef)=v
  have:kd i=.s v:=by
   show (match lk Rs i with | some R=>Kd.e R | none=>match lk aX i with | some v=>.s v | none=>.d)=_
   cases hR:lk Rs i with
   | some R=>rw[hES i R hR] at hv;cases hv
   | none=>rw[hv]
  rw[this]
 cases C with
 | nil=>simp[sW] at hB
 | cons t0 C'=>
 simp only[sW,bH6,decide_eq_true_eq] at hB;obtain⟨⟨⟨⟨⟨⟨⟨⟨⟨⟨hks,hd⟩,hdK⟩,hback⟩,QJ⟩,fD⟩,hSt⟩,hEt⟩,hge⟩,Ac⟩,hwt⟩:=hB;simp only[uO,bH6,decide_eq_true_eq] at QJ;obtain⟨⟨aU9,aU'⟩,aJ7⟩:=QJ;have aw2:∀ j,j∈D2++t0::C'→k≤j:=fun j hj=>by have:=bH'.1 hge j hj;simpa using this
 have ru:∀ i d,lk ds i=some d→bF ops.toArray i=some d:=fun i d h=>by rw[←hds] at h;have:=(lN ops 0 i d h).2;simpa [bF] using this
 have N8:∃ c0:Ch,Valid kd k c0:=by
  have h1:∀ i,∃ x:Value×Hp,∀ R,kd i=.e R→R x.1 x.2:=fun i=>by
   cases hR:lk Rs i with
   | none=>exact⟨(undef,[]),fun R h=>by rw[(sG i R).1 h] at hR;cases hR⟩
   | some R=>
    obtain⟨_,o,_,_,v,hn,hv⟩:=hsE i R (V3 i R hR);exact⟨(v,hn),fun R' h=>by rw[(sG i R').1 h] at hR;cases hR;exact hv⟩
  exact⟨fun i=>Classical.choose (h1 i),fun i hi R hR=>bT7 (h1 i) R hR⟩
 obtain⟨c0,hc0⟩:=N8
 have inv0:HeadInv .any ops.toArray k (Array.replicate ops.toArray.size false):=
  ⟨by simp,fun j oj _ hl=>bC0,fun t _ ht=>getD_in bG3 (getD_replicate_false _ _)⟩
 have hleft:leftOf k (Array.replicate ops.toArray.size false)=k:=by
  unfold leftOf;rw[bP'.2]
  ·simp
  ·intro i hi;have hi':i<k:=by simpa using hi
   have:(Array.replicate ops.toArray.size false).getD i true=false:=getD_in bH4 (getD_replicate_false _ _);simp only[this,bL1]
 have au0:∀ m,mP kd c0 (Array.replicate ops.toArray.size false) m=[]:=by
  intro m
  induction m with
  | zero=>rfl
  | succ m ih=>simp only[mP,ih,nO,getD_replicate_false,bU8,cond_false,bI']
 have Su:∀ i,i<k→FC (kd i)=mem E i:=fun i hi=>by
  cases hkd:kd i with
  | e R=>rw[mem_of ((yx i).1 ⟨R,(sG i R).1 hkd⟩)];rfl
  | s v=>
   cases hmm:mem E i with
   | false=>rfl
   | true=>obtain⟨R,hR⟩:=(yx i).2 (gY hmm);rw[(sG i R).2 hR] at hkd;cases hkd
  | d=>
   cases hmm:mem E i with
   | false=>rfl
   | true=>obtain⟨R,hR⟩:=(yx i).2 (gY hmm);rw[(sG i R).2 hR] at hkd;cases hkd
 have key:=Ot ru (P:=P) (n:=n) (w0:=w0) (mu:=mu) (l:=l) (hp:=hp) (all:=ops.toArray) (kd:=kd) (val:=val) (k:=k) (g:=ops.toArray.size-k) (Q':=QQ n w0 mu Q) hks hd hf1 hback
  (fun i o v hi ho hkd=>by
   obtain⟨e1,e2⟩:=VZ i v hkd;obtain⟨o',dw,h1,h2,h3⟩:=hsS i v e2;rw[ho] at h1;cases h1
   exact⟨(uF i v e2).2,dw,fun j u hu=>uF j u (h2 j u bD4),h3⟩)
  (fun i o R hi ho hkd=>by
   have e1:=(sG i R).1 hkd;obtain⟨_,o',h1,h2,_⟩:=hsE i R (V3 i R e1);rw[ho] at h1;cases h1
   have hve:∀ i R,kd i=.e R→∀ c,val c i=(c i).1:=fun i R hkd c=>by
    show (match kd i with | .s v=>v | .e _=>(c i).1 | .d=>(lk (F c) i).getD undef)=_;rw[hkd]
   refine⟨hve i R hkd,aX,fun j u hu=>uF j u bD4,?_⟩;rcases h2 with h2 | ⟨m,Rm,hlm,hwm,h2⟩
   ·exact .inl h2
   ·exact .inr ⟨m,Rm,hlt' m (bJ2 _ (bI4 _ ((yx m).1 ⟨Rm,hlm⟩))),(sG m Rm).2 hlm,hve m Rm ((sG m Rm).2 hlm),hwm,h2⟩)
  (fun c hcv i o hi ho hkd=>by
   obtain⟨e1,e2⟩:=at7 i hkd;obtain⟨v,hv⟩:=Kt c hcv i hi;obtain⟨_,_,_,_,hsp⟩:=hF c hcv;rw[DI c hcv i v hv];rcases hsp i v hv with h0 | ⟨o',dw,h1,h2,h3⟩
   ·rw[ji,e1] at h0;rw[e2] at h0;cases h0
   ·rw[ho] at h1;cases h1;refine⟨dw,fun j u hu=>?_,WW h3⟩;have hj:=h2 j u bD4;refine⟨?_,DI c hcv j u hj⟩;obtain⟨_,_,_,hkk,_⟩:=hF c hcv;rcases (hkk j).1 ⟨u,hj⟩ with h | ⟨v',h⟩
    ·exact hlt' j (bI4 _ h)
    ·rw[ji] at h
     cases hR:lk Rs j with
     | some R=>exact hlt' j (bJ2 _ (bI4 _ ((yx j).1 ⟨R,hR⟩)))
     | none=>rw[hR] at h;exact (uF j v' h).1)
  (fun f c listed hlf inv KL a w hmid=>?_)
  (fun listed inv i hi hie hun t ht=>?_)
  k c0 _ a { w with drawn:=w.drawn+1 } hleft inv0 ⟨hk.size,hk.defers,hk.has,hc0,by rw[au0];exact hG.drawn _,fun i _ hl=>bC0⟩
 ·have e:k+(ops.toArray.size-k)=ops.toArray.size:=by omega
  rw[e] at key;exact key
 ·obtain⟨hX,huq,hmo,hkk,hsp1⟩:=hF c hmid.valid
  have hFk:∀ i v,lk (F c) i=some v→i<k:=fun i v hv=>by
   rcases (hkk i).1 ⟨v,hv⟩ with h | ⟨v',h⟩
   ·exact hlt' i (bI4 _ h)
   ·rw[ji] at h
    cases hR:lk Rs i with
    | some R=>exact hlt' i (bJ2 _ (bI4 _ ((yx i).1 ⟨R,hR⟩)))
    | none=>rw[hR] at h;exact (uF i v' h).1
  have an5:=aU9;rw[bM3,bM3] at an5;obtain⟨⟨_,aJ8,bl8⟩,Oq,hCx⟩:=an5
  obtain⟨rq,hY,hu2,ab5,aw3,hsp2⟩:=Iq (base:=F c) D2 (F c) aJ8 (fun i hi=>by
   cases hv:lk (F c) i with
   | none=>rfl
   | some v=>
    have h1:=hFk i v hv;have h2:=aw2 i (bJ2 _ hi)
    omega) huq (fun _ _ h=>h) hX (fun i v hv=>.inl hv)
  have W9:∀ j,k≤j→j<ops.toArray.size→listed.getD j true=false:=fun j h1 h2=>inv.tail j h1 h2;have Xa:∀ i∈(S++E++D++D2)++t0::C',i<ops.toArray.size:=fun i hi=>by have:=bH'.1 aU' i hi;simpa using this
  have N7:∀ i v,lk rq i=some v→i<ops.toArray.size:=fun i v hv=>by
   rcases (aw3 i).1 ⟨v,hv⟩ with h | ⟨v',h⟩
   ·exact Xa i (bJ2 _ (bI4 _ h))
   ·have:=hFk i v' h;omega
  have invK:HeadInv .any ops.toArray ops.toArray.size listed:=⟨inv.size,inv.closed,fun t h1 h2=>by omega⟩
  have aV1:leftOf ops.toArray.size listed=f+(ops.toArray.size-k):=by rw[KJ hks W9,hlf]
  have hbe:∀ m,m≤k→mP kd c listed m=JQ E c m:=by
   intro m
   induction m with
   | zero=>intro _;rfl
   | succ m ih=>
    intro hm;simp only[mP,JQ,nO];rw[ih bB3,Su m bB3]
    cases hme:mem E m with
    | false=>rfl
    | true=>
     have h1:=KL m bB3 (by rw[Su m bB3];exact hme)
     have h2:listed.getD m false=true:=by
      cases hcc:listed.getD m false with
      | true=>rfl
      | false=>rw[getD_in bC4 hcc] at h1;cases h1
     rw[h2];rfl
  have hgood:Good w0 mu (JQ E c k++hp) w:=by rw[←hbe k (bI9 _)];exact hmid.good
  have aJ9:uP n w0 mu ops.toArray l rq [] (JQ E c k++hp) listed a w:=by
   refine⟨hmid.size,hmid.defers,hmid.has,hgood,fun i v hv hl d hdd=>?_,fun i v hv=>by cases hv⟩
   have hik:i<k:=by
    rcases bQ3 i k with h | h
    ·exact h
    ·have h1:=W9 i h (N7 i v hv);rw[getD_both h1] at hl;cases hl
   obtain⟨v',hv'⟩:=Kt c hmid.valid i hik;have h1:=ab5 i v' hv';rw[hv] at h1;cases h1;rw[hmid.done i hik hl c hmid.valid (fun _ _ _ _=>rfl) d hdd];exact DI c hmid.valid i v hv'
  have aV2:=Ec ru (P:=P) (n:=n) (w0:=w0) (mu:=mu) (l:=l) (hp:=hp) (h0:=[]) (all:=ops.toArray) (aX:=rq) (k:=ops.toArray.size) (t0:=t0) (g:=0) (Q':=QQ n w0 mu Q) (X:=fun bz hc=>Ops P n w0 mu ops.toArray [] (bV ds (bz++rq)++l) hc Q) (dn:=mem E) (bI9 _) hdK hf hback (dh fun b=>by simp[pW])
   (fun i hi hdn=>by
    have:=bH'.1 Ac i (bJ1.2 hi);rw[hdn] at this;simp only[bW7,bL3,bJ7] at this;rcases this with h | h
    ·exact .inl (bO8 h)
    ·exact .inr h)
   (fun i v hv=>⟨N7 i v hv,fun hne=>?_⟩)
   (fun bz h listed inv hall hX a w hmid hEk=>?_)
   (fun listed inv i hi hun t ht hr=>by
    obtain⟨_,o,ho,_⟩:=mem_ready.1 hr;have:=(bK5.1 ho).1
    omega)
   (f+(ops.toArray.size-k)) (t0::C') [] (JQ E c k++hp) listed a w aV1 invK (fun i hi=>KL i (hlt' i (bJ2 _ (bI4 _ (gY hi)))) (by rw[Su i (hlt' i (bJ2 _ (bI4 _ (gY hi))))];exact hi)) aJ9 (fun i v hv=>by cases hv)
   (fun i hi=>⟨Xa i (bI4 _ hi),W9 i (aw2 i (bI4 _ hi)) (Xa i (bI4 _ hi)),?_⟩) Oq fD (fun i hi hl=>?_) (dh fun b=>by simp[pW]) (fun _=>aI.right _ _) hY
  ·exact aV2
  ·rcases hsp2 i v hv with h0 | ⟨o,dw,h1,h2,h3⟩
   ·rcases hsp1 i v h0 with h0 | ⟨o,dw,h1,h2,h3⟩
    ·rw[ji] at h0
     cases hR:lk Rs i with
     | some R=>
      rw[mem_of ((yx i).1 ⟨R,hR⟩)] at hne;cases hne
     | none=>
      rw[hR] at h0;obtain⟨o,dw,h1,h2,h3⟩:=hsS i v h0;refine⟨o,dw,h1,fun j u hu=>?_,fun hx=>?_⟩
      ·refine ab5 j u (hmo j u ?_);have h4:=h2 j u hu;rw[ji]
       cases hR2:lk Rs j with
       | some R2=>rw[hES j R2 hR2] at h4;cases h4
       | none=>exact h4
      ·rw[bH'.1 hSt i ((yw i).1 ⟨v,h0⟩)];exact h3 hx
    ·exact⟨o,dw,h1,fun j u hu=>ab5 j u (h2 j u hu),fun hx=>WX h3⟩
   ·exact⟨o,dw,h1,h2,fun hx=>WX h3⟩
  ·have xE:Knows n (bV ds (bz++rq)++l) a:=by
    refine⟨hmid.size,hmid.defers,fun t v ht=>?_⟩;rcases fV ht with ht | ⟨_,ht⟩
    ·obtain⟨j,h1,h2⟩:=jX (iY ht);rcases bK4.1 h1 with h1 | h1
     ·exact (hmid.qI j v h1).2 t (ru _ _ h2)
     ·have hj:=hu2 j v h1;have hjk:=N7 j v hj;refine hmid.wY j v hj ?_ t (ru _ _ h2);have h5:=hall j hjk
      cases hcc:listed.getD j false with
      | true=>rfl
      | false=>rw[getD_in bC4 hcc] at h5;cases h5
    ·exact hmid.has t v ht
   refine⟨?_,hX a w xE hmid.good⟩;rw[bM9];intro i hi;obtain⟨hun,o,ho,_⟩:=mem_ready.1 hi;rw[hall i (bK5.1 ho).1] at hun;cases hun
  ·cases hv:lk rq i with
   | none=>rfl
   | some v=>
    exfalso;have h2:=aw2 i (bI4 _ hi);rcases (aw3 i).1 ⟨v,hv⟩ with h | ⟨v',h⟩
    ·exact hCx i (bI4 _ h) i hi rfl
    ·have:=hFk i v' h;omega
  ·have h1:=gY (bH'.1 aJ7 i (bJ1.2 hi));rcases bK4.1 h1 with h1 | h1
   ·left;rcases bK4.1 h1 with h1 | h1
    ·obtain⟨v,hv⟩:=Kt c hmid.valid i (hlt' i h1);exact⟨v,ab5 i v hv⟩
    ·exact (aw3 i).2 (.inl h1)
   ·exact .inr h1
 ·intro hr;obtain⟨_,o,ho,hall⟩:=mem_ready.1 hr;have hts:t<ops.toArray.size:=(bK5.1 ho).1
  have hwl:∀ j,Region.waitsFor .any ops.toArray t j=true→listed.getD j false=true:=fun j hj=>by
   obtain⟨oj,h6,e,he,hb,heq⟩:=Region.waitsFor_spec hj;rw[ho] at h6;cases h6;rw[←heq];exact hall e he hb
  have h1:=bH'.1 hwt t (bJ1.2 hts);simp only[bJ7] at h1;rcases h1 with (h1 | h1) | h1
  ·have:t<k:=by simpa using h1
   omega
  ·have h2:=hwl i (bH'.1 h1 i (gY (by rw[←Su i hi];exact hie)));rw[getD_both hun] at h2;cases h2
  ·obtain⟨j,hj,h2⟩:=bM8.1 h1;rw[bH6] at h2;have h3:=hwl j h2.2;rw[getD_both (inv.tail j (by simpa using h2.1) (bJ1.1 hj))] at h3;cases h3
theorem Gw(k:Nat)(S E D D2 C:List Nat)(hB:sW ops.toArray n k S E D D2 C=true)(hf:bW l (dstsOf ops.toArray ops.toArray.size)=true)(hf1:bW l (dstsOf ops.toArray k)=true)(hsp:splitB k S E D=true)(hds:dB ops 0=ds)
  (h:jg P n w0 mu ops.toArray ds l hp (fun aX=>Af P n w0 mu ops.toArray ds l hp aX (fun Rs=>DN (fun iv bl=>gQ P n w0 mu ops.toArray ds l [] (fun iv1=>gQ P n w0 mu ops.toArray ds l [] (fun rq=>gX P n w0 mu ops.toArray ds l [] rq (fun bz hc=>Ops P n w0 mu ops.toArray [] (bV ds (bz++rq)++l) hc Q) C [] (bl++hp)) D2 iv1) D (iv++aX)) Rs) E []) S []):lT P n w0 mu ops.toArray l hp Q:=by
 refine Ou k S E D D2 C hB hf hf1 hsp hds (DJ (fun aX h2=>Tc E [] (fun Rs e h3 c hc=>?_) h2) S [] h);have:=au1 Rs _ c h3 hc
 have he:JQ E c k=Qx c (Rs.map (·.1)):=by
  simp only[splitB,bH6,decide_eq_true_eq] at hsp;rw[Qy,←hsp.1.1.1,e];simp
 rw[he];exact this
end
section
variable {n : Nat} {w0 : World} {mu : List Nat} {l : Fm} {hp : Hp} {Q : Exit → Fm → Hp → Prop} {ds : List (Nat × Nat)}
theorem aw4{id:Nat}(k:Nat)(S E D D2 C:List Nat)(h:jg Tryz.prog n w0 mu ops.toArray ds l hp (fun aX=>Af Tryz.prog n w0 mu ops.toArray ds l hp aX (fun Rs=>DN (fun iv bl=>gQ Tryz.prog n w0 mu ops.toArray ds l [] (fun iv1=>gQ Tryz.prog n w0 mu ops.toArray ds l [] (fun rq=>gX Tryz.prog n w0 mu ops.toArray ds l [] rq (fun bz hc=>Ops Tryz.prog n w0 mu ops.toArray [] (bV ds (bz++rq)++l) hc Q) C [] (bl++hp)) D2 iv1) D (iv++aX)) Rs) E []) S [])
  (hds:dB ops 0=ds:=by (simp only[dB,Nat.reduceAdd,bK2];rfl)) (hm:Tryz.prog.follows .mixedOrders=true:=by kernel_rfl) (hB:sW ops.toArray n k S E D D2 C=true:=by decide +kernel) (hf:bW l (dstsOf ops.toArray ops.toArray.size)=true:=by rfl) (hf1:bW l (dstsOf ops.toArray k)=true:=by rfl) (hsp:splitB k S E D=true:=by decide +kernel):St Tryz.prog n w0 mu (.region id ops.toArray true) l hp Q:=
 xx hm (Gw k S E D D2 C hB hf hf1 hsp hds h)
end
section
variable {n : Nat} {w0 : World} {mu : List Nat} {l : Fm} {hp : Hp} {all : Array Oper} {iv : Fm} {i : Nat} {ds : List (Nat × Nat)} {Z : List (Nat × RT) → Prop} {E : List Nat} {Rs : List (Nat × RT)}
theorem mE(h:iP Tryz.prog n w0 mu all ds l hp iv (fun NI=>Af Tryz.prog n w0 mu all ds l hp iv Z E NI) [i] Rs):Af Tryz.prog n w0 mu all ds l hp iv Z (i::E) Rs:=by
 obtain⟨o,R,h1,h2,h3,h4⟩:=h;exact⟨o,R,h1,.inl h2,h3,h4⟩
theorem mOn(m:Nat){Rm R:RT}(he:∀ v hn,Rm v hn→iP Tryz.prog n w0 mu all ds l (hn++hp) ((m,v)::iv) (fun NI=>NI=[(i,R)]) [i] [])(hex:∃ v hn,Rm v hn)(h:Af Tryz.prog n w0 mu all ds l hp iv Z E ((i,R)::Rs))(hm:lk Rs m=some Rm:=by rfl)(hw:Region.waitsFor .any all i m=true:=by decide +kernel):Af Tryz.prog n w0 mu all ds l hp iv Z (i::E) Rs:=by
 obtain⟨v,hn,hv⟩:=hex;obtain⟨o,R',h1,h2,h3,h4⟩:=he v hn hv;cases h4;refine⟨o,R,h1,.inr ⟨m,Rm,hm,hw,fun v hn hv=>?_⟩,h3,h⟩;obtain⟨o2,R2,g1,g2,g3,g4⟩:=he v hn hv;cases g4;rw[h1] at g1;cases g1;exact g2
theorem aV3(h:Z Rs):Af Tryz.prog n w0 mu all ds l hp iv Z [] Rs:=h
end
section
variable {P : Program} {n : Nat} {w0 : World} {mu : List Nat} {l : Fm} {hp : Hp} {Q : Exit → Fm → Hp → Prop} {all : Array Oper} {ds : List (Nat × Nat)}
theorem an6{iv:Fm}{X:List (Nat×RT)→Prop}:∀ (E:List Nat) (Rs:List (Nat×RT)),iP P n w0 mu all ds l hp iv X E Rs→Af P n w0 mu all ds l hp iv X E Rs
 | [],_,h=>h
 | _::E,_,⟨o,R,h1,h2,h3,h4⟩=>⟨o,R,h1,.inl h2,h3,an6 E _ h4⟩
theorem Td(k:Nat)(S E D D2 C:List Nat)(hB:sW ops.toArray n k S E D D2 C=true)(hf:bW l (dstsOf ops.toArray ops.toArray.size)=true)(hf1:bW l (dstsOf ops.toArray k)=true)(hsp:splitB k S E D=true)(hds:dB ops 0=ds)
  (h:jg P n w0 mu ops.toArray ds l hp (fun aX=>iP P n w0 mu ops.toArray ds l hp aX (fun Rs=>DN (fun iv bl=>gQ P n w0 mu ops.toArray ds l [] (fun iv1=>gQ P n w0 mu ops.toArray ds l [] (fun rq=>gX P n w0 mu ops.toArray ds l [] rq (fun bz hc=>Ops P n w0 mu ops.toArray [] (bV ds (bz++rq)++l) hc Q) C [] (bl++hp)) D2 iv1) D (iv++aX)) Rs) E []) S []):lT P n w0 mu ops.toArray l hp Q:=
 Gw k S E D D2 C hB hf hf1 hsp hds (DJ (fun aX h2=>an6 E [] h2) S [] h)
end
section
variable {n : Nat} {w0 : World} {mu : List Nat} {l : Fm} {hp : Hp} {Q : Exit → Fm → Hp → Prop} {ds : List (Nat × Nat)}
theorem Ag{id:Nat}(k:Nat)(S E D D2 C:List Nat)(h:jg Tryz.prog n w0 mu ops.toArray ds l hp (fun aX=>iP Tryz.prog n w0 mu ops.toArray ds l hp aX (fun Rs=>DN (fun iv bl=>gQ Tryz.prog n w0 mu ops.toArray ds l [] (fun iv1=>gQ Tryz.prog n w0 mu ops.toArray ds l [] (fun rq=>gX Tryz.prog n w0 mu ops.toArray ds l [] rq (fun bz hc=>Ops Tryz.prog n w0 mu ops.toArray [] (bV ds (bz++rq)++l) hc Q) C [] (bl++hp)) D2 iv1) D (iv++aX)) Rs) E []) S [])
  (hds:dB ops 0=ds:=by (simp only[dB,Nat.reduceAdd,bK2];rfl)) (hm:Tryz.prog.follows .mixedOrders=true:=by kernel_rfl) (hB:sW ops.toArray n k S E D D2 C=true:=by decide +kernel) (hf:bW l (dstsOf ops.toArray ops.toArray.size)=true:=by rfl) (hf1:bW l (dstsOf ops.toArray k)=true:=by rfl) (hsp:splitB k S E D=true:=by decide +kernel):St Tryz.prog n w0 mu (.region id ops.toArray true) l hp Q:=
 xx hm (Td k S E D D2 C hB hf hf1 hsp hds h)
end
end
def uz(n:Nat):Nat:=18446744073709551615 >>> (64-n)
theorem ab6(h:n≤64):uz n=2 ^ n-1:=by
 have:∀ n,n≤64→uz n=2 ^ n-1:=by decide
 exact this n h
theorem CX(n:Nat):uz n<18446744073709551616:=by
 unfold uz;rw[bP6];exact bO1 (Nat.div_le_self _ _) bB4
theorem Eg{v:Nat}(hn:n≤64)(hv:v<2 ^ n):v &&& (18446744073709551615-uz n)=0:=by
 have e:18446744073709551615-uz n=(2 ^ (64-n)-1)*2 ^ n:=by
  have:∀ n,n≤64→18446744073709551615-uz n=(2 ^ (64-n)-1)*2 ^ n:=by decide
  exact this n hn
 rw[e];apply Nat.eq_of_testBit_eq;intro i;rw[Nat.testBit_and,Nat.zero_testBit,Nat.testBit_mul_two_pow];by_cases hi:n≤i
 ·rw[Nat.testBit_lt_two_pow (bU9 hv (Nat.pow_le_pow_right bB4 hi))];rfl
 ·simp[hi]
def dF(w a n:Nat):Nat:=(w >>> a) &&& uz n
structure wQ where
 a:Nat
 n:Nat
 v:Nat
deriving Inhabited
abbrev NK(f:wQ):List Value:=[.int .i64 (f.a:Int),.int .i64 (f.n:Int),.int .u64 (f.v:Int)]
structure wQ.Ok(f:wQ):Prop where
 n1:1≤f.n
 an:f.a+f.n≤64
 v:f.v<2 ^ f.n
theorem wQ.Ok.v64{f:wQ}(h:f.Ok):f.v<18446744073709551616:=
 bU9 h.v (bP8 (Nat.pow_le_pow_right bB4 (show f.n≤64 by have:=h.an;omega)) bB4)
def wQ.mask(f:wQ):Nat:=(uz f.n <<< f.a)%18446744073709551616
def wQ.bits(f:wQ):Nat:=(f.v <<< f.a)%18446744073709551616
theorem wQ.wC(f:wQ):f.mask<18446744073709551616:=bV8 _ bB4
theorem wQ.yI(f:wQ):f.bits<18446744073709551616:=bV8 _ bB4
def joinL:List wQ→Nat→Nat→Option (Nat×Nat)
 | [],w,t=>some (w,t)
 | f::r,w,t=>bif decide (t &&& f.mask=0) then joinL r (w ||| f.bits) (t ||| f.mask) else none
def Eh(r:Option (Nat×Nat)):Nat:=match r with | some x=>x.1 | none=>0
def KN(r:Option (Nat×Nat)):Int:=match r with | some _=>0 | none=>4
def an7(r:Option (Nat×Nat)):Nat:=match r with | some x=>x.2 | none=>0
section
attribute [local irreducible] Hy St Ops DH dH
theorem Ov(f:wQ)(h:f.Ok)(w:World):Fn Tryz.prog 349 [.agg #[.int .i64 (f.a:Int),.int .i64 (f.n:Int),.int .u64 (f.v:Int)]].toArray w [] (fun u _=>u=.int .u64 (uz f.n:Int)):=by
 have h1:=h.n1;have h2:=h.an;refine enter Tryz.func349 ?_;refine run ?_;intro B;refine run ?_;refine jI bB8 (IP rfl rfl 18446744073709551615 (64-f.n) bB8 bB3 bB3) ?_;refine run ?_;exact fin1 rfl
theorem QK(f:wQ)(h:f.Ok)(w:World):Fn Tryz.prog 334 [.agg #[.int .i64 (f.a:Int),.int .i64 (f.n:Int),.int .u64 (f.v:Int)]].toArray w [] (fun u _=>u=.int .u64 (f.mask:Int)):=by
 have h1:=h.n1;have h2:=h.an;refine enter Tryz.func334 ?_;refine run ?_;intro B;refine run ?_;refine gU 6 ?_;refine dI ?_;refine fB (fun wc hG=>Ov f h wc) ?_;refine dI ?_;refine NJ (Aa rfl rfl (uz f.n) f.a bB8 bB8 bB3) ?_;refine dI ?_;refine run ?_;refine run ?_;exact fin1 rfl
theorem Xc(f:wQ)(h:f.Ok)(w:World):Fn Tryz.prog 333 [.agg #[.int .i64 (f.a:Int),.int .i64 (f.n:Int),.int .u64 (f.v:Int)]].toArray w [] (fun u _=>u=.bool true):=by
 have h1:=h.n1;have h2:=h.an;have h3:=h.v64;have h4:=Eg (show f.n≤64 by omega) h.v;have c1:decide ((1:Int)≤(f.n:Int))=true:=decide_eq_true bB3;have c2:decide ((f.n:Int)≤64)=true:=decide_eq_true bB3;have c3:decide ((0:Int)≤(f.a:Int))=true:=decide_eq_true bB3;have c4:decide ((f.a:Int)≤64-(f.n:Int))=true:=decide_eq_true bB3;refine enter Tryz.func333 ?_;refine run ?_;intro B;refine aC ?_;refine gU 35 ?_;refine bg ?_;refine eX (fun hg wc hG=>Ov f h wc) ?_;refine SS (hy:=fun hg=>Gu bC6 bC6 f.v (uz f.n) bB8 bB8 h3 (CX _)) (h:=?_);rw[h4];refine bg ?_;refine run ?_;refine fin1 ?_;simp[c1,c2,c3,c4]
theorem aw5(v a n:Nat)(hn:1≤n)(han:a+n≤64)(hv:v<18446744073709551616)(w:World):Fn Tryz.prog 350 [.int .u64 (v:Int),.int .i64 (a:Int),.int .i64 (n:Int)].toArray w [] (fun u _=>u=.tuple #[.int .u64 (dF v a n:Int),.int .i64 0]):=by
 have hok:wQ.Ok ⟨a,n,0⟩:=⟨hn,han,Nat.pos_of_ne_zero bB5⟩
 refine enter Tryz.func350 ?_;refine run ?_;intro B;refine run ?_;refine az (fun wc hG=>Xc ⟨a,n,0⟩ hok wc) ?_;refine aP ?_;refine gU 8 ?_;refine dI ?_;refine NJ (IP rfl rfl v a bB8 bB8 bB3) ?_;refine dI ?_;refine fB (fun wc hG=>Ov ⟨a,n,0⟩ hok wc) ?_;refine NJ (D8 rfl rfl (v >>> a) (uz n) bB8 bB8 (bO1 bD' hv) (CX _)) ?_;refine dI ?_;refine run ?_;exact fin2 rfl
theorem Ei{xs:List wQ}(hk:k<xs.length)(w t:Nat):joinL (xs.drop k) w t=bif decide (t &&& (xs.getD k default).mask=0) then joinL (xs.drop (k+1)) (w ||| (xs.getD k default).bits) (t ||| (xs.getD k default).mask) else none:=by
 rw[bV5 hk,joinL,bH8,bH9 hk];rfl
theorem yJ(ha:a<18446744073709551616)(hb:b<18446744073709551616):a ||| b<18446744073709551616:=Nat.or_lt_two_pow (n:=64) ha hb
theorem Tf(xs:List wQ)(hx:∀ f∈xs,f.Ok)(h:aA w v 3 (xs.map NK)):Fn Tryz.prog 290 [v].toArray w [] (fun u _=>u=.tuple #[.int .u64 (Eh (joinL xs 0 0):Int),.int .u64 (an7 (joinL xs 0 0):Int),.int .i64 (KN (joinL xs 0 0))]):=by
 obtain⟨a,ac,rfl,Ti,hal⟩:=h.opened;have hok:∀ k,k<xs.length→(xs.getD k default).Ok:=fun k hk=>hx _ bF4;refine enter Tryz.func290 ?_;refine run ?_;refine aK (σ:=Nat) (fun k=>[(12,.int .i64 (k:Int))]) (fun _=>[]) (fun k=>k≤xs.length) (fun k=>xs.length-k) 0 (bI1 _) ?_;rintro k m hm hk;refine run ?_;refine ah _ rfl (fun hc=>?_) (fun hc=>?_)
 ·have hlt:k<xs.length:=by simp at hc;omega
  obtain⟨b,o,rfl⟩:=Ti bH0;have hr:=h.row hlt;have hf:=hok k hlt;generalize xs.getD k default=x at hr hf;refine run ?_;intro F;refine run ?_;refine az (fun wc hG=>Xc x hf wc) ?_;refine aP ?_;exact aF (k+1) hlt
 ·refine run ?_;clear hc;refine aK (σ:=Nat×Nat×Nat) (fun s=>[(23,.int .i64 (s.1:Int)),(2,.int .u64 (s.2.1:Int)),(3,.int .u64 (s.2.2:Int))]) (fun _=>[]) (fun s=>s.1≤xs.length∧s.2.1<18446744073709551616∧s.2.2<18446744073709551616∧joinL (xs.drop s.1) s.2.1 s.2.2=joinL xs 0 0) (fun s=>xs.length-s.1) (0,0,0) ⟨bI1 _,by decide,by decide,rfl⟩ ?_;rintro⟨k2,wd,tk⟩ m2 hm2 ⟨hk2,hw,ht,hj⟩;dsimp only at hm2 hk2 hw ht hj ⊢;refine run ?_;refine ah _ rfl (fun hc=>?_) (fun hc=>?_)
  ·have hlt:k2<xs.length:=by simp at hc;omega
   obtain⟨b,o,rfl⟩:=Ti bH0;have hr:=h.row hlt;have hf:=hok k2 hlt;rw[Ei hlt] at hj;generalize xs.getD k2 default=x at hr hf hj;refine run ?_;intro F;refine run ?_;intro X;refine az (fun wc hG=>QK x hf wc) ?_;refine jI bB8 (D8 rfl rfl tk x.mask bB8 bB8 ht x.wC) ?_;refine run ?_;refine ah _ rfl (fun hq=>?_) (fun hq=>?_)
   ·have hq':decide (tk &&& x.mask=0)=false:=by simpa using hq
    rw[hq'] at hj;rw[←hj];refine run ?_;exact aa1 rfl
   ·have hq':decide (tk &&& x.mask=0)=true:=by simpa using hq
    rw[hq'] at hj;refine run ?_;refine late 13 9 ?_;refine WC 13 12 ?_;refine xB 13 [0,1,2,3,4,5,6,7,8,9,10,11,12] [] [] ?_;refine gI ?_;refine jY rfl (fun hx2=>Aa rfl rfl x.v x.a bB8 bB8 (by have:=hf.an;omega)) ?_;refine jY rfl (fun hx2=>QH rfl rfl wd x.bits bB8 bB8 hw x.yI) ?_;refine gI ?_;refine jY rfl (fun hx2=>fM (fA 334 rfl) rfl (fun wc hG=>QK x hf wc)) ?_;refine jY rfl (fun hx2=>QH rfl rfl tk x.mask bB8 bB8 ht x.wC) ?_;refine gI ?_;refine kL ?_;simp only[DN];refine jJ ?_;refine ry ?_;simp only[bI0,bI3,bI'];refine run ?_;exact aF (k2+1,wd ||| x.bits,tk ||| x.mask) ⟨hlt,yJ hw x.yI,yJ ht x.wC,hj⟩
  ·have hk0:k2=xs.length:=by simp at hc;omega
   subst hk0;rw[List.drop_length] at hj;rw[←hj];refine run ?_;exact aa1 rfl
theorem ab7(xs:List wQ)(hx:∀ f∈xs,f.Ok)(h:aA w v 3 (xs.map NK)):Fn Tryz.prog 204 [v].toArray w [] (fun u _=>u=.tuple #[.int .u64 (Eh (joinL xs 0 0):Int),.int .i64 (KN (joinL xs 0 0))]):=by
 obtain⟨a,ac,rfl,Ti,hal⟩:=h.opened;refine enter Tryz.func204 ?_;refine run ?_;refine az (fun wc hG=>Tf xs hx (h.good hG)) ?_;refine run ?_;exact fin2 rfl
theorem IX(n:Nat)(hn:n≤64)(w:World):Fn Tryz.prog 279 [.int .i64 (n:Int)].toArray w [] (fun u _=>u=.int .u64 (uz n:Int)):=by
 refine enter Tryz.func279 ?_;refine run ?_;refine ah _ rfl (fun hc=>?_) (fun hc=>?_)
 ·have:n=64:=by simp at hc;omega
  subst this;refine run ?_;exact fin1 rfl
 ·have hlt:n<64:=by simp at hc;omega
  refine run ?_;refine jI bB8 (Aa rfl rfl 1 n bB8 bB8 bB3) ?_;have e:∀ n,n<64→((1 <<< n)%18446744073709551616:Nat)=2 ^ n∧1≤2 ^ n∧2 ^ n≤18446744073709551615:=by decide
  obtain⟨e1,e2,e3⟩:=e n hlt;rw[e1];refine run ?_;refine fin1 ?_;rw[ab6 hn,IntKind.wrap_u64];generalize 2 ^ n=z at e2 e3
  congr 1
  omega
theorem IY(v a n:Nat)(hn:n≤64)(han:a≤64)(hv:v<18446744073709551616)(w:World):Fn Tryz.prog 189 [.int .u64 (v:Int),.int .i64 (a:Int),.int .i64 (n:Int)].toArray w [] (fun u _=>u=.int .u64 (dF v a n:Int)):=by
 refine enter Tryz.func189 ?_;refine run ?_;refine gU 6 ?_;refine dI ?_;refine NJ (IP rfl rfl v a bB8 bB8 bB3) ?_;refine dI ?_;refine fB (fun wc hG=>IX n hn wc) ?_;refine NJ (D8 rfl rfl (v >>> a) (uz n) bB8 bB8 (bO1 bD' hv) (CX _)) ?_;refine dI ?_;refine run ?_;exact fin1 rfl
theorem ab8(a n:Nat)(hn:1≤n)(han:a+n≤64)(w:World):Fn Tryz.prog 348 [.int .i64 (a:Int),.int .i64 (n:Int)].toArray w [] (fun u _=>u=.bool true):=by
 refine enter Tryz.func348 ?_;refine aC ?_;refine fin1 ?_;have c1:decide ((0:Int)≤(a:Int))=true:=decide_eq_true bB3;have c2:decide ((a:Int)≤63)=true:=decide_eq_true bB3;have c3:decide ((1:Int)≤(n:Int))=true:=decide_eq_true bB3;have c4:decide ((n:Int)≤64-(a:Int))=true:=decide_eq_true bB3;simp[c1,c2,c3,c4]
theorem Xd(f:wQ)(h:f.Ok)(w:World):Fn Tryz.prog 329 [.agg #[.int .i64 (f.a:Int),.int .i64 (f.n:Int),.int .u64 (f.v:Int)]].toArray w [] (fun u _=>u=.bool true):=by
 have h1:=h.n1;have h2:=h.an;have h3:=h.v64;have h4:=Eg (show f.n≤64 by omega) h.v;refine enter Tryz.func329 ?_;refine run ?_;intro B;refine run ?_;refine gU 14 ?_;refine bg ?_;refine fB (fun wc hG=>ab8 f.a f.n h1 h2 wc) ?_;refine bg ?_;refine eX (fun hg wc hG=>IX f.n bB3 wc) ?_;refine SS (hy:=fun hg=>Gu bC6 bC6 f.v (uz f.n) bB8 bB8 h3 (CX _)) (h:=?_);rw[h4];refine bg ?_;refine run ?_;refine fin1 ?_;rfl
theorem IZ(xs:List wQ)(hx:∀ f∈xs,f.Ok)(h:aA w v 3 (xs.map NK)):Fn Tryz.prog 278 [v].toArray w [] (fun u _=>u=.tuple #[.int .u64 (Eh (joinL xs 0 0):Int),.int .u64 (an7 (joinL xs 0 0):Int),.int .i64 (KN (joinL xs 0 0))]):=by
 obtain⟨a,ac,rfl,Ti,hal⟩:=h.opened;have hok:∀ k,k<xs.length→(xs.getD k default).Ok:=fun k hk=>hx _ bF4;refine enter Tryz.func278 ?_;refine run ?_;refine aK (σ:=Nat) (fun k=>[(5,.int .i64 (k:Int))]) (fun _=>[]) (fun k=>k≤xs.length) (fun k=>xs.length-k) 0 (bI1 _) ?_;rintro k m hm hk;refine run ?_;refine ah _ rfl (fun hc=>?_) (fun hc=>?_)
 ·have hlt:k<xs.length:=by simp at hc;omega
  obtain⟨b,o,rfl⟩:=Ti bH0;have hr:=h.row hlt;have hf:=hok k hlt;generalize xs.getD k default=x at hr hf;refine run ?_;refine az (fun wc hG=>Xd x hf wc) ?_;refine aP ?_;exact aF (k+1) hlt
 ·refine run ?_;clear hc;refine aK (σ:=Nat×Nat×Nat) (fun s=>[(8,.int .i64 (s.1:Int)),(6,.int .u64 (s.2.1:Int)),(7,.int .u64 (s.2.2:Int))]) (fun _=>[]) (fun s=>s.1≤xs.length∧s.2.1<18446744073709551616∧s.2.2<18446744073709551616∧joinL (xs.drop s.1) s.2.1 s.2.2=joinL xs 0 0) (fun s=>xs.length-s.1) (0,0,0) ⟨bI1 _,by decide,by decide,rfl⟩ ?_;rintro⟨k2,wd,tk⟩ m2 hm2 ⟨hk2,hw,ht,hj⟩;dsimp only at hm2 hk2 hw ht hj ⊢;refine run ?_;refine ah _ rfl (fun hc=>?_) (fun hc=>?_)
  ·have hlt:k2<xs.length:=by simp at hc;omega
   obtain⟨b,o,rfl⟩:=Ti bH0;have hr:=h.row hlt;have hf:=hok k2 hlt;rw[Ei hlt] at hj;generalize xs.getD k2 default=x at hr hf hj;have hr0:=aj hr;have hr1:=cO (k:=1) hr rfl;have hr2:=cO (k:=2) hr rfl;refine run ?_;refine gU 12 ?_;refine dI ?_;refine fB (fun wc hG=>IX x.n (by have:=hf.an;omega) wc) ?_;refine dI ?_;refine NJ (Aa rfl rfl (uz x.n) x.a bB8 bB8 (by have:=hf.an;omega)) ?_;refine dI ?_;refine run ?_;refine jI bB8 (D8 rfl rfl tk x.mask bB8 bB8 ht x.wC) ?_;refine run ?_;refine ah _ rfl (fun hq=>?_) (fun hq=>?_)
   ·have hq':decide (tk &&& x.mask=0)=false:=by simpa using hq
    rw[hq'] at hj;rw[←hj];refine run ?_;exact aa1 rfl
   ·have hq':decide (tk &&& x.mask=0)=true:=by simpa using hq
    rw[hq'] at hj;refine run ?_;refine jI bB8 (QH rfl rfl tk x.mask bB8 bB8 ht x.wC) ?_;refine run ?_;refine gU 13 ?_;refine dI ?_;refine NJ (Aa rfl rfl x.v x.a bB8 bB8 (by have:=hf.an;omega)) ?_;refine NJ (QH rfl rfl wd x.bits bB8 bB8 hw x.yI) ?_;refine dI ?_;refine run ?_;exact aF (k2+1,wd ||| x.bits,tk ||| x.mask) ⟨hlt,yJ hw x.yI,yJ ht x.wC,hj⟩
  ·have hk0:k2=xs.length:=by simp at hc;omega
   subst hk0;rw[List.drop_length] at hj;rw[←hj];refine run ?_;exact aa1 rfl
end
structure DsD where
 kind:Int
 frame:Int
 r:Bool
 w:Bool
 x:Bool
 af:Bool
 ng:Bool
 soft:Int
 note:Int
deriving Inhabited
abbrev dsC(d:DsD):Array Value:=#[.int .i64 d.kind,.int .i64 d.frame,.bool d.r,.bool d.w,.bool d.x,.bool d.af,.bool d.ng,.int .i64 d.soft,.int .i64 d.note]
abbrev uj(d:DsD):Value:=.agg (dsC d)
def dG:DsD:=⟨0,0,false,false,false,false,false,0,0⟩
def lV(level:Nat):Nat:=3*(3-level)
def au(level:Nat):Nat:=1 <<< lV level
def mg(level page:Nat):Nat:=(page >>> lV level)%8
section
attribute [local irreducible] Hy St Ops DH dH
theorem Xe(stage level:Int)(w:World):Fn Tryz.prog 288 [.agg #[.int .i64 stage,.int .i64 level]].toArray w [] (fun u _=>u=.bool ((decide (stage=1)||decide (stage=2))&&decide (0≤level)&&decide (level<4))):=by
 refine enter Tryz.func288 ?_;refine run ?_;intro B;refine aC ?_;exact fin1 rfl
theorem wE(stage:Int)(hs:stage=1∨stage=2)(level:Nat)(h:level<4)(w:World):Fn Tryz.prog 288 [.agg #[.int .i64 stage,.int .i64 (level:Int)]].toArray w [] (fun u _=>u=.bool true):=by
 refine Fn.mono (Xe stage level w) fun v hp e=>?_;rw[e];have c1:decide ((0:Int)≤(level:Int))=true:=decide_eq_true bB3;have c2:decide ((level:Int)<4)=true:=decide_eq_true bB3;rw[c1,c2];rcases hs with rfl | rfl<;>rfl
theorem CY(stage:Int)(level:Nat)(h:level<4)(w:World):Fn Tryz.prog 292 [.agg #[.int .i64 stage,.int .i64 (level:Int)]].toArray w [] (fun u _=>u=.int .i64 (lV level:Int)):=by
 refine enter Tryz.func292 ?_;refine run ?_;intro B;refine run ?_;refine fin1 ?_;unfold lV
 congr 1
 omega
theorem fH(h:level<4):lV level≤9∧au level≤512∧1≤au level:=by
 have:∀ l,l<4→lV l≤9∧au l≤512∧1≤au l:=by decide
 exact this level h
theorem Gx(level:Nat)(h:level<4)(w:World):Fn Tryz.prog 209 [.int .i64 (level:Int)].toArray w [] (fun u _=>u=.tuple #[.int .i64 (au level:Int),.int .i64 0]):=by
 have h9:=fH h;refine enter Tryz.func209 ?_;refine run ?_;intro B;refine run ?_;refine az (fun wc hG=>wE 1 (.inl rfl) level h wc) ?_;refine aP ?_;refine az (fun wc hG=>CY 1 level h wc) ?_;refine jI bB8 (D9 rfl rfl 1 (lV level) bB8 bB8 bB3 (bO1 h9.2.1 bB4)) ?_;refine run ?_;exact fin2 rfl
theorem Xf(level:Nat)(h:level<4)(page:Nat)(hp:page≤4095)(w:World):Fn Tryz.prog 307 [.int .i64 (level:Int),.int .i64 (page:Int)].toArray w [] (fun u _=>u=.tuple #[.int .i64 (mg level page:Int),.int .i64 0]):=by
 have h9:=fH h;have c1:decide ((page:Int)<0)=false:=decide_eq_false bB3;have c2:decide ((4095:Int)<(page:Int))=false:=decide_eq_false bB3;refine enter Tryz.func307 ?_;refine run ?_;intro B;refine run ?_;refine az (fun wc hG=>wE 1 (.inl rfl) level h wc) ?_;refine aC ?_;refine ah _ rfl (fun hq=>absurd hq (by simp[c1,c2])) (fun _=>?_);refine run ?_;refine az (fun wc hG=>CY 1 level h wc) ?_;refine jI bB8 (av4 rfl rfl page (lV level) bB8 bB8 bB3) ?_;refine jI bB8 (uK rfl rfl (page >>> lV level) 8 bB8 bB8 bB4) ?_;refine run ?_;exact fin2 rfl
theorem pq(level:Nat)(h:level<4)(w:World):Fn Tryz.prog 109 [.int .i64 (level:Int)].toArray w [] (fun u _=>u=.int .i64 (au level:Int)):=by
 have h9:=fH h
 have hn:nth ([.int .i64 512,.int .i64 64,.int .i64 8,.int .i64 1]:List Value) level=some (.int .i64 (au level:Int)):=by
  rcases level with _ | _ | _ | _ | l
  ·rfl
  ·rfl
  ·rfl
  ·rfl
  ·omega
 refine enter Tryz.func109 ?_;refine run ?_;intro T;refine run ?_;exact fin1 rfl
theorem KO(level:Nat)(h:level<4)(page:Nat)(hp:page≤4095)(w:World):Fn Tryz.prog 187 [.int .i64 (level:Int),.int .i64 (page:Int)].toArray w [] (fun u _=>u=.int .i64 (mg level page:Int)):=by
 refine enter Tryz.func187 ?_;refine run ?_;have h9:=fH h;have e:page/au level=page >>> lV level:=by rw[bP6,au,Nat.shiftLeft_eq,Nat.one_mul]
 refine az (fun wc hG=>pq level h wc) ?_;refine jI bB8 (uM rfl rfl page (au level) bB8 bB8 bB3 bB3) ?_;refine jI bB8 (uK rfl rfl (page/au level) 8 bB8 bB8 bB4) ?_;rw[e];refine run ?_;exact fin1 rfl
theorem CZ(v a n:Nat)(hn:n≤62):dF v a n<4611686018427387904:=by
 unfold dF;refine bO1 Nat.and_le_right ?_;have:∀ n,n≤62→uz n<4611686018427387904:=by decide
 exact this n hn
theorem Xg{v:Nat}(hv:v<18446744073709551616):v >>> a<18446744073709551616:=bO1 bD' hv
theorem aK1{x:Nat}:decide ((x:Int)=1)=decide (x=1):=by
 rw[bI2,decide_eq_true_eq,decide_eq_true_eq];omega
theorem yK(v a n:Nat)(hn:1≤n)(hn2:n≤62)(han:a+n≤64)(hv:v<18446744073709551616)(w:World):Fn Tryz.prog 336 [.int .u64 (v:Int),.int .i64 (a:Int),.int .i64 (n:Int)].toArray w [] (fun u _=>u=.int .i64 (dF v a n:Int)):=by
 refine enter Tryz.func336 ?_;refine run ?_;refine az (fun wc hG=>aw5 v a n hn han hv wc) ?_;refine run ?_;have hb:=CZ v a n hn2;refine jI bB8 (Ie aB rfl rfl rfl bB3 bB3) ?_;refine run ?_;exact fin1 rfl
theorem aK2(v a:Nat)(ha:a≤63)(hv:v<18446744073709551616)(B:Nat)(w:World)(hB:w.cell? ⟨B,0,none⟩=some (.int .u64 (v:Int))):Fn Tryz.prog 335 [.int .i64 (a:Int),.pointer (some ⟨B,0,none⟩)].toArray w [] (fun u _=>u=.bool (decide (dF v a 1=1))):=by
 refine enter Tryz.func335 ?_;refine run ?_;refine az (fun wc hG=>yK v a 1 bB4 bB4 bB3 hv wc) ?_;refine run ?_;refine fin1 ?_;rw[aK1]
theorem uS(v a:Nat)(ha:a≤63)(hv:v<18446744073709551616)(w:World):Fn Tryz.prog 188 [.int .u64 (v:Int),.int .i64 (a:Int)].toArray w [] (fun u _=>u=.bool (decide (dF v a 1=1))):=by
 refine enter Tryz.func188 ?_;refine run ?_;refine jI bB8 (IP rfl rfl v a bB8 bB8 bB3) ?_;refine jI bB8 (D8 rfl rfl (v >>> a) 1 bB8 bB8 (Xg hv) bB4) ?_;refine run ?_;refine fin1 ?_;rw[←aK1];rfl
theorem uT(a:Nat)(b:Bool)(w:World):Fn Tryz.prog 277 [.int .i64 (a:Int),.bool b].toArray w [] (fun u _=>u=.agg #[.int .i64 (a:Int),.int .i64 1,.int .u64 (bif b then 1 else 0)]):=by
 refine enter Tryz.func277 ?_;refine run ?_;intro F;refine run ?_;cases b<;>simp only[cond_true,cond_false]
 ·intro G;refine aP ?_;exact dR rfl
 ·intro G;refine aP ?_;exact dR rfl
theorem uU(a:Nat)(b:Bool)(w:World):Fn Tryz.prog 291 [.int .i64 (a:Int),.bool b].toArray w [] (fun u _=>u=.agg #[.int .i64 (a:Int),.int .i64 1,.int .u64 (bif b then 1 else 0)]):=by
 refine enter Tryz.func291 ?_;refine run ?_;intro F;refine run ?_;cases b<;>simp only[cond_true,cond_false]
 ·intro G;refine aP ?_;exact dR rfl
 ·intro G;refine aP ?_;exact dR rfl
end
namespace DsD
def bare(d:DsD):Bool:=!d.r&&!d.w&&!d.x&&!d.af&&!d.ng&&decide (d.soft=0)
def may(stage:Int)(level:Nat)(d:DsD):Bool:=
 bif decide (d.kind=0) then decide (d.frame=0)&&d.bare&&(decide (d.note=0)||(decide (stage=2)&&PtD.dD d.note 0 15))
 else bif decide (d.kind=1) then d.bare&&decide (d.note=0)&&decide (level<3)&&PtD.dD d.frame 0 4095
 else bif decide (d.kind=2) then decide (d.note=0)&&(bif decide (stage=1) then d.r&&decide (d.soft=0) else !d.ng&&PtD.dD d.soft 0 15)&&decide (0<level)&&PtD.dD d.frame 0 4095&&decide (d.frame.toNat%au level=0)
 else false
end DsD
section
attribute [local irreducible] Hy St Ops DH dH
theorem Ah(stage:Int)(level:Nat)(d:DsD)(o:Nat)(ho:0<o)(ho2:o<1000)(w:World):Fn Tryz.prog 332 [.agg #[.int .i64 stage,.int .i64 (level:Int),.int .i64 d.kind,.int .i64 d.frame,.bool d.r,.bool d.w,.bool d.x,.bool d.af,.bool d.ng,.int .i64 d.soft,.int .i64 d.note],.int .i64 (o:Int)].toArray w [] (fun u _=>u=.bool (PtD.dD d.frame 0 4095&&decide (d.frame.toNat%o=0))):=by
 refine enter Tryz.func332 ?_;refine run ?_;intro B;refine aC ?_;refine Vh (hy:=fun hg=>uK bC6 bC6 d.frame.toNat o (by simp[jd] at hg;omega) bB8 ho) (h:=?_);refine aC ?_;refine fin1 ?_;rw[PtD.dD]
 congr 2
 rw[bI2,decide_eq_true_eq,decide_eq_true_eq];omega
theorem aw6(a b:DsD):aW [.int .i64 a.kind,.int .i64 a.frame,.bool a.r,.bool a.w,.bool a.x,.bool a.af,.bool a.ng,.int .i64 a.soft,.int .i64 a.note] [.int .i64 b.kind,.int .i64 b.frame,.bool b.r,.bool b.w,.bool b.x,.bool b.af,.bool b.ng,.int .i64 b.soft,.int .i64 b.note]=(decide (a.kind=b.kind)&&decide (a.frame=b.frame)&&(a.r == b.r)&&(a.w == b.w)&&(a.x == b.x)&&(a.af == b.af)&&(a.ng == b.ng)&&decide (a.soft=b.soft)&&decide (a.note=b.note)):=by
 simp only[aW,iF,bM',bP3]
theorem Ej(d:DsD)(k f n:Int)(hk:d.kind=k):aW [.int .i64 d.kind,.int .i64 d.frame,.bool d.r,.bool d.w,.bool d.x,.bool d.af,.bool d.ng,.int .i64 d.soft,.int .i64 d.note] [.int .i64 k,.int .i64 f,.bool false,.bool false,.bool false,.bool false,.bool false,.int .i64 0,.int .i64 n]=(decide (d.frame=f)&&d.bare&&decide (d.note=n)):=by
 rw[aw6 d ⟨k,f,false,false,false,false,false,0,n⟩,decide_eq_true hk];unfold DsD.bare;cases d.r<;>cases d.w<;>cases d.x<;>cases d.af<;>cases d.ng<;>simp
theorem aw7(stage:Int)(hs:stage=1∨stage=2)(level:Nat)(hl:level<4)(d:DsD)(w:World):Fn Tryz.prog 289 [.agg #[.int .i64 stage,.int .i64 (level:Int),.int .i64 d.kind,.int .i64 d.frame,.bool d.r,.bool d.w,.bool d.x,.bool d.af,.bool d.ng,.int .i64 d.soft,.int .i64 d.note]].toArray w [] (fun u _=>u=.bool (d.may stage level)):=by
 have hlv:decide ((level:Int)<3)=decide (level<3):=by rw[bI2,decide_eq_true_eq,decide_eq_true_eq];omega
 have hlp:decide ((0:Int)<(level:Int))=decide (0<level):=by rw[bI2,decide_eq_true_eq,decide_eq_true_eq];omega
 have h9:=fH hl;refine enter Tryz.func289 ?_;refine run ?_;intro B;refine run ?_;intro C;refine run ?_;refine ah _ rfl (fun hk=>?_) (fun hk=>?_)
 ·have hk0:d.kind=0:=by simpa using hk
  refine aC ?_;refine ah _ rfl (fun hn=>?_) (fun hn=>?_)
  ·refine aC ?_;refine fin1 ?_;rw[Ej d d.kind 0 d.note rfl];simp only[bH6,decide_eq_true_eq] at hn;simp[DsD.may,hk0,hn.1.1,PtD.dD,hn.1.2,hn.2]
  ·refine aC ?_;refine fin1 ?_;rw[Ej d d.kind 0 0 rfl];simp only[DsD.may,hk0,decide_true,cond_true,PtD.dD];cases hz:decide (d.note=0)
   ·have:(decide (stage=2)&&(decide (0≤d.note)&&decide (d.note≤15)))=false:=by
     rw[←bP3];simpa using hn
    rw[this];simp
   ·simp
 ·have hk0:decide (d.kind=0)=false:=by simpa using hk
  refine run ?_;refine ah _ rfl (fun hk1=>?_) (fun hk1=>?_)
  ·have oO:d.kind=1:=by simpa using hk1
   refine aC ?_;refine bG (fun hg1 wc hG=>Ah stage level d 1 bB4 bB4 wc) ?_;refine aC ?_;refine fin1 ?_;rw[Ej d d.kind d.frame 0 rfl,hlv];simp only[DsD.may,oO,decide_true,cond_true,show decide ((1:Int)=0)=false from rfl,cond_false,bV',bM',bI6]
  ·have oO:decide (d.kind=1)=false:=by simpa using hk1
   refine run ?_;refine ah _ rfl (fun hk2=>?_) (fun hk2=>?_)
   ·have Cc:d.kind=2:=by simpa using hk2
    refine run ?_;refine an1 7 [⟨B,#[.int .i64 stage,.int .i64 (level:Int),.int .i64 d.kind,.int .i64 d.frame,.bool d.r,.bool d.w,.bool d.x,.bool d.af,.bool d.ng,.int .i64 d.soft,.int .i64 d.note],287⟩] ?_;refine WA ?_;refine run ?_;refine ah _ rfl (fun h1=>?_) (fun h1=>?_)
    ·refine aC ?_;refine gU 32 ?_;refine bg ?_;refine eX (fun hg wc hG=>CY stage level hl wc) ?_;refine SS (hy:=fun hg=>D9 rfl bC6 1 (lV level) bB8 bB8 bB3 (bO1 h9.2.1 bB4)) (h:=?_);refine eX (fun hg wc hG=>Ah stage level d (au level) bB3 bB3 wc) ?_;refine bg ?_;refine run ?_;refine run ?_;refine fin1 ?_;rw[hlp,aw6 d ⟨d.kind,d.frame,true,d.w,d.x,d.af,d.ng,0,0⟩];have h1':stage=1:=by simpa using h1
     simp only[DsD.may,Cc,h1',decide_true,cond_true,PtD.dD,show decide ((2:Int)=0)=false from rfl,show decide ((2:Int)=1)=false from rfl,cond_false,beq_self_eq_true,bM',bI6];cases d.r<;>by_cases hz:d.soft=0<;>simp[hz,bP3]
    ·refine aC ?_;refine gU 32 ?_;refine bg ?_;refine eX (fun hg wc hG=>CY stage level hl wc) ?_;refine SS (hy:=fun hg=>D9 rfl bC6 1 (lV level) bB8 bB8 bB3 (bO1 h9.2.1 bB4)) (h:=?_);refine eX (fun hg wc hG=>Ah stage level d (au level) bB3 bB3 wc) ?_;refine bg ?_;refine run ?_;refine run ?_;refine fin1 ?_;rw[hlp,aw6 d ⟨d.kind,d.frame,d.r,d.w,d.x,d.af,false,d.soft,0⟩];have h1':decide (stage=1)=false:=by simpa using h1
     simp only[DsD.may,Cc,h1',decide_true,cond_true,PtD.dD,show decide ((2:Int)=0)=false from rfl,show decide ((2:Int)=1)=false from rfl,cond_false,beq_self_eq_true,bM',bI6];cases d.ng<;>cases decide (d.note=0)<;>cases decide (0<level)<;>simp[bP3]
   ·refine run ?_;refine fin1 ?_;have Cc:decide (d.kind=2)=false:=by simpa using hk2
    simp[DsD.may,hk0,oO,Cc]
end
def b1(b:Bool):Nat:=bif b then 1 else 0
theorem aK3(b:Bool):b1 b<2 ^ 1:=by cases b<;>decide
def DsD.fields(stage:Int)(level:Nat)(d:DsD):List wQ:=
 bif decide (d.kind=0) then [⟨4,4,d.note.toNat⟩]
 else bif decide (d.kind=1) then [⟨0,1,1⟩,⟨1,1,1⟩,⟨12,12,d.frame.toNat⟩]
 else bif decide (stage=1) then [⟨0,1,1⟩,⟨1,1,b1 (decide (level=3))⟩,⟨12,12,d.frame.toNat⟩,⟨10,1,b1 d.af⟩,⟨54,1,b1 (!d.x)⟩,⟨7,1,b1 (!d.w)⟩,⟨11,1,b1 d.ng⟩]
 else [⟨0,1,1⟩,⟨1,1,b1 (decide (level=3))⟩,⟨12,12,d.frame.toNat⟩,⟨10,1,b1 d.af⟩,⟨54,1,b1 (!d.x)⟩,⟨6,1,b1 d.r⟩,⟨7,1,b1 d.w⟩,⟨55,4,d.soft.toNat⟩]
def DsD.word(stage:Int)(level:Nat)(d:DsD):Nat:=Eh (joinL (d.fields stage level) 0 0)
def apart:List Nat→Nat→Bool
 | [],_=>true
 | m::r,t=>decide (t &&& m=0)&&apart r (t ||| m)
theorem Ox:∀ (l:List wQ) (w t:Nat),apart (l.map wQ.mask) t=true→KN (joinL l w t)=0∧Eh (joinL l w t)=l.foldl (fun a f=>a ||| f.bits) w:=by
 intro l
 induction l with
 | nil=>intro w t _;exact⟨rfl,rfl⟩
 | cons f r ih=>
  intro w t h;simp only[bL9,apart,bH6] at h;rw[joinL,h.1,cond_true,bY0];exact ih _ _ h.2
theorem DsD.I4(stage:Int)(level:Nat)(d:DsD):KN (joinL (d.fields stage level) 0 0)=0:=by
 refine (Ox _ _ _ ?_).1;unfold DsD.fields;cases decide (d.kind=0)<;>cases decide (d.kind=1)<;>cases decide (stage=1)<;>simp only[cond_true,cond_false,bL9,bO9,wQ.mask]<;>decide +kernel
theorem Xh:∀ (l:List wQ) (w t:Nat),w<18446744073709551616→Eh (joinL l w t)<18446744073709551616:=by
 intro l
 induction l with
 | nil=>intro w t h;exact h
 | cons f r ih=>
  intro w t h;rw[joinL];cases decide (t &&& f.mask=0)
  ·exact (show (0:Nat)<18446744073709551616 by decide)
  ·exact ih _ _ (yJ h f.yI)
theorem DsD.word_lt(stage:Int)(level:Nat)(d:DsD):d.word stage level<18446744073709551616:=Xh _ _ _ bB4
theorem DsD.Tj(stage:Int)(level:Nat)(d:DsD)(h:d.kind=0):d.word stage level=(d.note.toNat <<< 4)%18446744073709551616:=by
 simp[DsD.word,DsD.fields,h,joinL,Eh,wQ.bits]
theorem nJ{z:Int}(h:PtD.dD z 0 b=true):((z.toNat:Nat):Int)=z∧z.toNat≤b:=by
 simp only[PtD.dD,bH6,decide_eq_true_eq] at h;omega
theorem DsD.wF{stage:Int}{level:Nat}{d:DsD}(h:d.may stage level=true):∀ f∈d.fields stage level,f.Ok:=by
 have key:∀ l:List wQ,l.all (fun f=>decide (1≤f.n)&&decide (f.a+f.n≤64)&&decide (f.v<2 ^ f.n))=true→∀ f∈l,f.Ok:=by
  intro l hl f hf;have:=bH'.1 hl f hf;simp only[bH6,decide_eq_true_eq] at this;exact⟨this.1.1,this.1.2,this.2⟩
 apply key;unfold DsD.may at h;unfold DsD.fields;by_cases h0:d.kind=0
 ·simp only[h0,decide_true,cond_true,bH6,bJ7,decide_eq_true_eq] at h ⊢
  have:d.note.toNat<2 ^ 4:=by
   rcases h.2 with e | ⟨_,e⟩
   ·rw[e];decide
   ·have:=(nJ (b:=15) e).2;omega
  simp[this]
 ·by_cases h1:d.kind=1
  ·simp only[h1,decide_true,cond_true,bH6,decide_eq_true_eq,show decide ((1:Int)=0)=false from rfl,cond_false] at h ⊢;have:d.frame.toNat<2 ^ 12:=by have:=(nJ (b:=4095) h.2).2;omega
   simp[this]
  ·by_cases h2:d.kind=2
   ·simp only[h2,decide_true,cond_true,bH6,decide_eq_true_eq,show decide ((2:Int)=0)=false from rfl,show decide ((2:Int)=1)=false from rfl,cond_false] at h ⊢;have:d.frame.toNat<2 ^ 12:=by have:=(nJ (b:=4095) h.1.2).2;omega
    have b:=aK3;by_cases hs:stage=1
    ·simp only[hs,decide_true,cond_true];simp[this,b,b1];cases decide (level=3)<;>cases d.af<;>cases d.x<;>cases d.w<;>cases d.ng<;>decide
    ·simp only[hs,decide_false,cond_false,bH6] at h ⊢;have h4:d.soft.toNat<2 ^ 4:=by have:=(nJ (b:=15) h.1.1.1.2.2).2;omega
     simp[this,h4,b1];cases decide (level=3)<;>cases d.af<;>cases d.x<;>cases d.w<;>cases d.r<;>decide
   ·simp[h0,h1,h2] at h
def gZ(stage:Int)(level:Nat)(w:Nat):DsD:=
 bif !decide (dF w 0 1=1) then { dG with note:=(dF w 4 4:Int) }
 else bif decide (dF w 1 1=1)&&!decide (level=3) then { dG with kind:=1,frame:=(dF w 12 12:Int) }
 else bif decide (stage=1) then { dG with kind:=2,frame:=(dF w 12 12:Int),af:=decide (dF w 10 1=1),x:=!decide (dF w 54 1=1),r:=true,w:=!decide (dF w 7 1=1),ng:=decide (dF w 11 1=1) }
 else { dG with kind:=2,frame:=(dF w 12 12:Int),af:=decide (dF w 10 1=1),x:=!decide (dF w 54 1=1),r:=decide (dF w 6 1=1),w:=decide (dF w 7 1=1),soft:=(dF w 55 4:Int) }
def zK(stage:Int)(level:Nat)(w:Nat):DsD:=bif (gZ stage level w).may stage level&&decide ((gZ stage level w).word stage level=w) then gZ stage level w else dG
theorem uX(stage:Int)(level:Nat):dG.may stage level=true:=by simp[DsD.may,dG,DsD.bare]
theorem QL(stage:Int)(level:Nat)(w:Nat):(zK stage level w).may stage level=true:=by
 unfold zK;cases h:(gZ stage level w).may stage level
 ·rw[bR7,cond_false];exact uX _ _
 ·rw[bI6];cases decide ((gZ stage level w).word stage level=w)
  ·exact uX _ _
  ·exact h
def bK(n:Nat)(f:Int):Bool:=decide (0≤f)&&decide (f<((n/8:Nat):Int))
def jh(f:Int)(level page:Nat):Nat:=f.toNat*8+mg level page
def gJ(ws:List Nat)(p level:Nat):DsD:=zK 2 level (ws.getD p 0)
structure qQ where
 fs:List Int
 d:DsD
 ok:Bool
deriving Inhabited
def bT(ws:List Nat)(page down:Nat):Nat→Nat→Int→List Int→DsD→qQ
 | 0,_,_,fs,d=>⟨fs,d,false⟩
 | k+1,level,f,fs,d=>bif bK ws.length f then
   (bif !decide ((gJ ws (jh f level page) level).kind=1)||decide (level=down) then ⟨fs++[f],gJ ws (jh f level page) level,true⟩
   else bT ws page down k (level+1) (gJ ws (jh f level page) level).frame (fs++[f]) (gJ ws (jh f level page) level))
  else ⟨fs,d,false⟩
def aO(ws:List Nat)(root:Int)(page down:Nat):qQ:=bT ws page down 4 0 root [] dG
def qQ.lv(w:qQ):Nat:=w.fs.length-1
def qQ.place(w:qQ)(page:Nat):Nat:=jh (w.fs.getD w.lv 0) w.lv page
theorem Ai(level page:Nat):mg level page<8:=bV8 _ bB4
theorem iJ{f:Int}(h:bK n f=true):0≤f∧f.toNat<n/8∧(f.toNat:Int)=f:=by
 simp only[bK,bH6,decide_eq_true_eq] at h;omega
theorem Em{f:Int}(h:bK n f=true):jh f level page<n:=by
 have h1:=iJ h;have h2:=Ai level page;unfold jh;omega
theorem gy{stage:Int}{d:DsD}(h:d.may stage level=true):(d.kind=0∨d.kind=1∨d.kind=2)∧(d.kind=0→d.frame=0∧0≤d.note∧d.note≤15)∧(d.kind=1→level<3∧0≤d.frame∧d.frame≤4095∧d.note=0)∧(d.kind=2→0<level∧0≤d.frame∧d.frame≤4095∧d.note=0∧d.frame.toNat%au level=0):=by
 unfold DsD.may at h;by_cases h0:d.kind=0
 ·simp only[h0,decide_true,cond_true,bH6,bJ7,decide_eq_true_eq] at h;refine⟨.inl h0,fun _=>⟨h.1.1,?_⟩,fun e=>absurd e bB3,fun e=>absurd e bB3⟩;rcases h.2 with e | ⟨_,e⟩
  ·omega
  ·simp only[PtD.dD,bH6,decide_eq_true_eq] at e;omega
 ·by_cases h1:d.kind=1
  ·simp only[h1,decide_true,cond_true,bH6,decide_eq_true_eq,show decide ((1:Int)=0)=false from rfl,cond_false,PtD.dD] at h;refine⟨.inr (.inl h1),fun e=>absurd e bB3,fun _=>⟨h.1.2,h.2.1,h.2.2,h.1.1.2⟩,fun e=>absurd e bB3⟩
  ·by_cases h2:d.kind=2
   ·simp only[h2,decide_true,cond_true,bH6,decide_eq_true_eq,show decide ((2:Int)=0)=false from rfl,show decide ((2:Int)=1)=false from rfl,cond_false,PtD.dD] at h;refine⟨.inr (.inr h2),fun e=>absurd e bB3,fun e=>absurd e bB3,fun _=>⟨h.1.1.2,h.1.2.1,h.1.2.2,h.1.1.1.1,h.2⟩⟩
   ·simp[h0,h1,h2] at h
theorem mD(ws:List Nat)(p level:Nat):(gJ ws p level).may 2 level=true:=QL _ _ _
theorem sZ{ws:List Nat}{p:Nat}(h:(gJ ws p level).kind=1):level<3:=((gy (mD ws p level)).2.2.1 h).1
structure qQ.Fine(w:qQ)(ws:List Nat)(page down:Nat):Prop where
 pos:0<w.fs.length
 le:w.fs.length≤4
 has:∀ f∈w.fs,bK ws.length f=true
 d:w.d=gJ ws (w.place page) w.lv
 stop:w.d.kind=1→w.lv=down
theorem Oy{ws:List Nat}{down:Nat}:∀ (k level:Nat) (f:Int) (fs:List Int) (d:DsD),fs.length=level→level+k=4→(∀ f∈fs,bK ws.length f=true)→(bT ws page down k level f fs d).ok=true→(bT ws page down k level f fs d).Fine ws page down:=by
 intro k
 induction k with
 | zero=>intro level f fs d _ _ _ h;simp[bT] at h
 | succ k ih=>
  intro level f fs d hl hk hf h;rw[bT] at h ⊢
  cases hh:bK ws.length f with
  | false=>rw[hh] at h;simp at h
  | true=>
   rw[hh] at h;simp only[cond_true] at h ⊢
   have hall:∀ g∈fs++[f],bK ws.length g=true:=by
    intro g hg;rcases bK4.1 hg with hg | hg
    ·exact hf g hg
    ·obtain rfl:=bN3.1 hg;exact hh
   cases hc:(!decide ((gJ ws (jh f level page) level).kind=1)||decide (level=down)) with
   | true=>
    have hlv:(fs++[f]).length-1=level:=by simp[hl]
    have hget:(fs++[f]).getD level 0=f:=by rw[bH8,bT6 bB3,hl];simp
    simp only[cond_true];refine⟨by simp,by simp[hl];omega,hall,?_,fun hk1=>?_⟩
    ·simp only[qQ.place,qQ.lv,hlv,hget]
    ·simp only[qQ.lv,hlv];have hk2:(gJ ws (jh f level page) level).kind=1:=hk1;simp only[hk2,decide_true,bK1,bL3,decide_eq_true_eq] at hc
     exact hc
   | false=>
    rw[hc] at h;simp only[cond_false] at h ⊢;exact ih _ _ _ _ (by simp[hl]) bB3 hall h
theorem jO{ws:List Nat}{root:Int}{down:Nat}(h:(aO ws root page down).ok=true):(aO ws root page down).Fine ws page down:=Oy 4 0 root [] dG rfl rfl bB5 h
theorem Oz{ws:List Nat}{down:Nat}:∀ (k level:Nat) (f:Int) (fs:List Int) (d:DsD) (r:Int),fs.head?=some r→(bT ws page down k level f fs d).fs.head?=some r:=by
 intro k
 induction k with
 | zero=>intro level f fs d r h;exact h
 | succ k ih=>
  intro level f fs d r h;rw[bT]
  cases bK ws.length f with
  | false=>exact h
  | true=>
   simp only[cond_true];have h2:(fs++[f]).head?=some r:=by cases fs with | nil=>cases h | cons a l=>simpa using h
   cases (!decide ((gJ ws (jh f level page) level).kind=1)||decide (level=down)) with
   | true=>exact h2
   | false=>exact ih _ _ _ _ _ h2
theorem Tm{ws:List Nat}{root:Int}{down:Nat}(h:(aO ws root page down).ok=true):root∈(aO ws root page down).fs:=by
 have:(aO ws root page down).fs.head?=some root:=by
  unfold aO at h ⊢;rw[bT] at h ⊢
  cases hh:bK ws.length root with
  | false=>rw[hh] at h;simp at h
  | true=>
   simp only[cond_true]
   cases (!decide ((gJ ws (jh root 0 page) 0).kind=1)||decide (0=down)) with
   | true=>rfl
   | false=>exact Oz _ _ _ _ _ _ rfl
 exact List.mem_of_mem_head? (by rw[this];rfl)
def oh(n:Nat)(fs l:List Int)(i:Nat):Bool:=bK n (l.getD i 0)&&!(l.take i).any (fun t=>decide (t=l.getD i 0))&&!fs.any (fun t=>decide (t=l.getD i 0))
def nS(n:Nat)(fs l:List Int):Bool:=(List.range l.length).all (oh n fs l)
theorem xG{fs l:List Int}(h:∀ i,i<l.length→oh n fs l i=true):nS n fs l=true:=bH'.2 fun i hi=>h i (bJ1.1 hi)
theorem BB{fs l:List Int}(hi:i<l.length)(h:oh n fs l i=false):nS n fs l=false:=by
 cases hf:nS n fs l with
 | false=>rfl
 | true=>have:=bH'.1 hf i (bJ1.2 hi);rw[h] at this;cases this
theorem Gy{fs l:List Int}(h:nS n fs l=true)(hi:i<l.length):bK n (l.getD i 0)=true:=by
 have:=bH'.1 h i (bJ1.2 hi);simp only[oh,bH6] at this;exact this.1.1
def lK(ws:List Nat)(p level:Nat)(d:DsD):List Nat:=ws.set p (d.word 2 level)
def jV(f:Int):DsD:=⟨1,f,false,false,false,false,false,0,0⟩
def jK(n:Int):DsD:=⟨0,0,false,false,false,false,false,0,n⟩
def uk(ws:List Nat)(o:Nat):Nat→List Nat
 | 0=>ws
 | k+1=>(uk ws o k).set (o+k) 0
def kQ(ws:List Nat)(f:Int):List Nat:=uk ws (f.toNat*8) 8
theorem Aj(ws:List Nat)(o k:Nat):(uk ws o k).length=ws.length:=by
 induction k with
 | zero=>rfl
 | succ k ih=>rw[uk,bM1,ih]
theorem jo(ws:List Nat)(f:Int):(kQ ws f).length=ws.length:=Aj _ _ _
theorem kD(ws:List Nat)(p level:Nat)(d:DsD):(lK ws p level d).length=ws.length:=bM1 ..
def jS(page:Nat):List Int→Nat→Nat→List Nat→Nat×List Nat
 | [],p,_,ws=>(p,ws)
 | f::r,p,level,ws=>jS page r (jh f (level+1) page) (level+1) (lK (kQ ws f) p level (jV f))
theorem Tn(page:Nat):∀ (l:List Int) (p level:Nat) (ws:List Nat),(jS page l p level ws).2.length=ws.length:=by
 intro l
 induction l with
 | nil=>intro p level ws;rfl
 | cons f r ih=>intro p level ws;rw[jS,ih,kD,jo]
structure I5 where
 ws:List Nat
 left:List Int
 e:Int
deriving Inhabited
def badM(e:Int):I5:=⟨[],[],e⟩
def rD(ws:List Nat)(root:Int)(free:List Int)(page:Nat)(d:DsD):I5:=
 let w:=aO ws root page 3
 bif !(w.ok&&nS ws.length w.fs free) then badM 2
 else bif decide (w.d.kind=2)||(decide (w.fs.length<4)&&!decide (w.d.note=0)) then badM 4
 else bif decide (free.length+w.fs.length<4) then badM 5
 else let r:=jS page (free.take (4-w.fs.length)) (w.place page) w.lv ws
  ⟨lK r.2 r.1 3 d,free.drop (4-w.fs.length),0⟩
def fC(ws:List Nat)(root:Int)(page level:Nat)(d:DsD):I5:=
 let w:=aO ws root page level
 bif !w.ok then badM 2 else bif !decide (w.lv=level) then badM 3 else ⟨lK ws (w.place page) level d,[],0⟩
structure GtD where
 d:DsD
 level:Nat
 e:Int
def iE(ws:List Nat)(root:Int)(page:Nat):GtD:=
 let w:=aO ws root page 3
 bif w.ok then ⟨w.d,w.lv,0⟩ else ⟨dG,0,2⟩
theorem yL{f:Int}(hl:level<3)(h0:0≤f)(h1:f≤4095):(jV f).may 2 level=true:=by
 simp[DsD.may,jV,DsD.bare,PtD.dD,hl,h0,h1]
theorem Gz{n:Int}(h0:0≤n)(h1:n≤15):(jK n).may 2 level=true:=by
 simp[DsD.may,jK,DsD.bare,PtD.dD,h0,h1]
theorem QM{ws:List Nat}{root:Int}(h:(aO ws root page 3).ok=true):(aO ws root page 3).d.kind=1→False:=by
 intro hk;have hf:=jO h;have h3:=hf.stop hk;rw[hf.d] at hk;have:=sZ hk;omega
section
attribute [local irreducible] Hy St Ops DH dH
abbrev dpV(stage:Int)(level:Nat)(d:DsD):Value:=.agg #[.int .i64 stage,.int .i64 (level:Int),.int .i64 d.kind,.int .i64 d.frame,.bool d.r,.bool d.w,.bool d.x,.bool d.af,.bool d.ng,.int .i64 d.soft,.int .i64 d.note]
def KP(xs:List wQ):List Value:=(xs.map NK).flatten
theorem qJ(xs:List wQ):∀ c∈xs.map NK,c.length=3∧c.all (·.oneCell')=true:=by
 intro c hc;obtain⟨x,_,rfl⟩:=bI7.1 hc;exact⟨rfl,rfl⟩
theorem C9(T n:Nat)(xs:List wQ)(hn:xs.length=n:=by rfl)(hm:n≤1000:=by decide):Own 355 3 (.slice (some ⟨T,0,none⟩) n n) [⟨T,(KP xs).toArray,355⟩] (xs.map NK):=by
 subst hn;refine⟨qJ xs,.inr ⟨T,xs.length,_,by rw[bH7],rfl,?_⟩⟩;have hl:=dU (xs.map NK) (fun c hc=>(qJ xs c hc).1);refine⟨hl,by simp,bP8 hm bB4,by simpa [KP] using hl,?_⟩;rw[bT1 (by simp[KP,hl])];rfl
theorem I7(T cap:Nat)(cs:List Value){xs:List (List Value)}(h:xs.flatten=cs)(ht:e=t)(hall:∀ c∈xs,c.length=sz∧c.all (·.oneCell')=true)(hn:xs.length=n:=by rfl)(hc:xs.length=cap:=by rfl)(hcap:cap≤maxLen:=by decide):Own e sz (.slice (some ⟨T,0,none⟩) n cap) [⟨T,cs.toArray,t⟩] xs:=by
 subst ht hn hc h;refine⟨hall,.inr ⟨T,_,_,rfl,rfl,?_⟩⟩;have hl:=dU xs (fun c hc=>(hall c hc).1);exact⟨hl,bI9 _,hcap,by simp[hl],by rw[bT1 (by simp[hl])]⟩
theorem DsD.OA(stage:Int)(level:Nat)(d:DsD):(d.fields stage level).length≤8:=by
 unfold DsD.fields;cases decide (d.kind=0)<;>cases decide (d.kind=1)<;>cases decide (stage=1)<;>simp
theorem KQ{stage:Int}{d:DsD}(hm:d.may stage level=true)(hk:d.kind=2)(h1:decide (stage=1)=false):0≤d.soft∧d.soft≤15:=by
 simp only[DsD.may,hk,h1,decide_true,cond_true,bH6,decide_eq_true_eq,show decide ((2:Int)=0)=false from rfl,show decide ((2:Int)=1)=false from rfl,cond_false,PtD.dD] at hm;exact hm.1.1.1.2.2
theorem Tq(stage:Int)(hs:stage=1∨stage=2)(level:Nat)(hl:level<4)(d:DsD)(hm:d.may stage level=true)(w:World):Fn Tryz.prog 205 [dpV stage level d].toArray w [] (fun u hn=>∃ h1,Own 355 3 u h1 ((d.fields stage level).map NK)∧aI h1 hn):=by
 have hlv:decide ((level:Int)=3)=decide (level=3):=by rw[bI2,decide_eq_true_eq,decide_eq_true_eq];omega
 obtain⟨k1,k2,k3,k4⟩:=gy hm
 have hf:0≤d.frame∧d.frame≤4095:=by
  rcases k1 with e | e | e
  ·have:=k2 e;omega
  ·have:=k3 e;omega
  ·have:=k4 e;omega
 have hf0:=hf.1;have hf1:=hf.2;have hfz:((d.frame.toNat:Nat):Int)=d.frame:=by omega
 refine enter Tryz.func205 ?_;refine run ?_;intro B;refine run ?_;refine ah _ rfl (fun hk=>?_) (fun hk=>?_)
 ·have hk0:d.kind=0:=by simpa using hk
  have hn0:=(k2 hk0).2.1;have hn1:=(k2 hk0).2.2;have hnz:((d.note.toNat:Nat):Int)=d.note:=by omega
  refine run ?_;intro T;refine fin1 ?_;have e:d.fields stage level=[⟨4,4,d.note.toNat⟩]:=by simp[DsD.fields,hk0]
  rw[e];refine⟨_,I7 T 1 [.int .i64 4,.int .i64 4,.int .u64 d.note] (by simp[NK,hnz]) rfl (by simp[NK,Value.oneCell']),?_⟩
  (exact ak)
 ·have hk0:decide (d.kind=0)=false:=by simpa using hk
  refine run ?_;refine drawM 15 [0,1,2,3,4,5,6,7,8,9,10,11,12,13] [14] [] ?_;refine jY rfl (fun hx2=>fM (fA 291 rfl) rfl (fun wc hG=>uU 0 true wc)) ?_;refine gI ?_;refine av6 (hy:=fun hx2 hg=>Ic rfl) (h:=?_);refine gI ?_;refine jY rfl (fun hx2=>fM (fA 291 rfl) rfl (fun wc hG=>uU 1 _ wc)) ?_;refine gI ?_;refine eBS (KP [⟨0,1,1⟩,⟨1,1,b1 (decide (d.kind=1)||decide (level=3))⟩,⟨12,12,d.frame.toNat⟩]) (h:=?_) (hn:=?_)
  ·refine kL ?_;simp only[DN];rintro _ hn ⟨T,rfl,rfl⟩;refine jJ ?_;refine ry ?_;simp only[bI0,bI3,bI'];refine run ?_;refine ah _ rfl (fun hk1=>?_) (fun hk1=>?_)
   ·have oO:decide (d.kind=1)=true:=hk1;refine run ?_;refine fin1 ?_;have e:d.fields stage level=[⟨0,1,1⟩,⟨1,1,1⟩,⟨12,12,d.frame.toNat⟩]:=by simp only[DsD.fields,hk0,oO,cond_false,cond_true]
    rw[e];simp only[oO,bZ5,show b1 true=1 from rfl];refine⟨_,C9 T 3 _,?_⟩
    (exact ak)
   ·have oO:decide (d.kind=1)=false:=by simpa using hk1
    have hk2:d.kind=2:=by
     simp at hk0 oO;rcases k1 with e | e | e
     ·exact absurd e hk0
     ·exact absurd e oO
     ·exact e
    simp only[oO,bL3];refine run ?_;refine drawM 13 [0,1,2,3,4,5,6,7,8,9,10,11] [12] [] ?_;refine gI ?_;refine jY rfl (fun hx2=>fM (fA 291 rfl) rfl (fun wc hG=>uU 10 _ wc)) ?_;refine gI ?_;refine jY rfl (fun hx2=>fM (fA 291 rfl) rfl (fun wc hG=>uU 54 _ wc)) ?_;refine gI ?_;refine eBS (KP [⟨10,1,b1 d.af⟩,⟨54,1,b1 (!d.x)⟩]) (h:=?_) (hn:=by cases d.af<;>cases d.x<;>rfl);refine kL ?_;simp only[DN];rintro _ hn ⟨T2,rfl,rfl⟩;refine jJ ?_;refine ry ?_;simp only[bI0,bI3,bI'];refine wB (m:=2) ([⟨10,1,b1 d.af⟩,⟨54,1,b1 (!d.x)⟩].map NK) [⟨T2,(KP [⟨10,1,b1 d.af⟩,⟨54,1,b1 (!d.x)⟩]).toArray,355⟩,⟨B,#[.int .i64 stage,.int .i64 (level:Int),.int .i64 d.kind,.int .i64 d.frame,.bool d.r,.bool d.w,.bool d.x,.bool d.af,.bool d.ng,.int .i64 d.soft,.int .i64 d.note],287⟩] (C9 T 3 [⟨0,1,1⟩,⟨1,1,b1 (decide (level=3))⟩,⟨12,12,d.frame.toNat⟩]) bB5 (fun v' ha' hA'=>?_) bB5 rfl (qJ _) (aY (m:=6) mh rfl) (hperm:=by (exact aU));refine aS (⟨B,#[.int .i64 stage,.int .i64 (level:Int),.int .i64 d.kind,.int .i64 d.frame,.bool d.r,.bool d.w,.bool d.x,.bool d.af,.bool d.ng,.int .i64 d.soft,.int .i64 d.note],287⟩::ha') ak ?_;obtain⟨q,cap,rfl⟩:=hA'.opened;refine run ?_;refine ah _ rfl (fun h1=>?_) (fun h1=>?_)
    ·have h1':decide (stage=1)=true:=h1;refine run ?_;refine drawM 13 [0,1,2,3,4,5,6,7,8,9,10,11] [12] [] ?_;refine gI ?_;refine jY rfl (fun hx2=>fM (fA 291 rfl) rfl (fun wc hG=>uU 7 _ wc)) ?_;refine gI ?_;refine jY rfl (fun hx2=>fM (fA 291 rfl) rfl (fun wc hG=>uU 11 _ wc)) ?_;refine gI ?_;refine eBS (KP [⟨7,1,b1 (!d.w)⟩,⟨11,1,b1 d.ng⟩]) (h:=?_) (hn:=by cases d.w<;>cases d.ng<;>rfl);refine kL ?_;simp only[DN];rintro _ hn ⟨T3,rfl,rfl⟩;refine jJ ?_;refine ry ?_;simp only[bI0,bI3,bI'];refine wB (m:=2) ([⟨7,1,b1 (!d.w)⟩,⟨11,1,b1 d.ng⟩].map NK) [⟨T3,(KP [⟨7,1,b1 (!d.w)⟩,⟨11,1,b1 d.ng⟩]).toArray,355⟩,⟨B,#[.int .i64 stage,.int .i64 (level:Int),.int .i64 d.kind,.int .i64 d.frame,.bool d.r,.bool d.w,.bool d.x,.bool d.af,.bool d.ng,.int .i64 d.soft,.int .i64 d.note],287⟩] hA' bB5 (fun v2 ha2 hA2=>?_) bB5 rfl (qJ _) (aY (m:=6) mh rfl) (hperm:=by (exact aU));refine run ?_;refine fin1 ?_;have e:d.fields stage level=[⟨0,1,1⟩,⟨1,1,b1 (decide (level=3))⟩,⟨12,12,d.frame.toNat⟩,⟨10,1,b1 d.af⟩,⟨54,1,b1 (!d.x)⟩,⟨7,1,b1 (!d.w)⟩,⟨11,1,b1 d.ng⟩]:=by simp only[DsD.fields,hk0,oO,h1',cond_false,cond_true]
     rw[e];exact⟨ha2,hA2,by (exact ak)⟩
    ·have h1':decide (stage=1)=false:=by simpa using h1
     have hso:=KQ hm hk2 h1';have hs0:=hso.1;have hs1:=hso.2;have hsz:((d.soft.toNat:Nat):Int)=d.soft:=by omega
     refine run ?_;refine drawM 18 [0,1,2,3,4,5,6,7,8,9,10,11,12,13,14,15,16] [17] [] ?_;refine gI ?_;refine jY rfl (fun hx2=>fM (fA 291 rfl) rfl (fun wc hG=>uU 6 _ wc)) ?_;refine gI ?_;refine jY rfl (fun hx2=>fM (fA 291 rfl) rfl (fun wc hG=>uU 7 _ wc)) ?_;refine gI ?_;refine eBS (KP [⟨6,1,b1 d.r⟩,⟨7,1,b1 d.w⟩,⟨55,4,d.soft.toNat⟩]) (h:=?_) (hn:=by rw[←hsz];cases d.r<;>cases d.w<;>rfl);refine kL ?_;simp only[DN];rintro _ hn ⟨T3,rfl,rfl⟩;refine jJ ?_;refine ry ?_;simp only[bI0,bI3,bI'];refine wB (m:=3) ([⟨6,1,b1 d.r⟩,⟨7,1,b1 d.w⟩,⟨55,4,d.soft.toNat⟩].map NK) [⟨T3,(KP [⟨6,1,b1 d.r⟩,⟨7,1,b1 d.w⟩,⟨55,4,d.soft.toNat⟩]).toArray,355⟩,⟨B,#[.int .i64 stage,.int .i64 (level:Int),.int .i64 d.kind,.int .i64 d.frame,.bool d.r,.bool d.w,.bool d.x,.bool d.af,.bool d.ng,.int .i64 d.soft,.int .i64 d.note],287⟩] hA' bB5 (fun v2 ha2 hA2=>?_) bB5 rfl (qJ _) (aY (m:=9) mh rfl) (hperm:=by (exact aU));refine run ?_;refine fin1 ?_;have e:d.fields stage level=[⟨0,1,1⟩,⟨1,1,b1 (decide (level=3))⟩,⟨12,12,d.frame.toNat⟩,⟨10,1,b1 d.af⟩,⟨54,1,b1 (!d.x)⟩,⟨6,1,b1 d.r⟩,⟨7,1,b1 d.w⟩,⟨55,4,d.soft.toNat⟩]:=by simp only[DsD.fields,hk0,oO,h1',cond_false,cond_true]
     rw[e];exact⟨ha2,hA2,by (exact ak)⟩
  ·rw[hlv,←hfz];cases decide (d.kind=1)<;>cases decide (level=3)<;>rfl
theorem yM(stage:Int)(hs:stage=1∨stage=2)(level:Nat)(hl:level<4)(d:DsD)(w:World):Fn Tryz.prog 203 [.int .i64 stage,.int .i64 (level:Int),uj d].toArray w [] (fun u _=>u=.int .i64 (bif d.may stage level then 0 else 1)):=by
 refine enter Tryz.func203 ?_;refine run ?_;intro B C;refine aC ?_;refine az (fun wc hG=>wE stage hs level hl wc) ?_;refine aC ?_;refine bG (fun hg wc hG=>aw7 stage hs level hl d wc) ?_;refine aC ?_;refine ah _ rfl (fun hc=>?_) (fun hc=>?_)
 ·refine run ?_;refine fin1 ?_;have:d.may stage level=false:=by simpa using hc
  rw[this];rfl
 ·refine run ?_;refine fin1 ?_;have:d.may stage level=true:=by simpa using hc
  rw[this];rfl
theorem I8(stage:Int)(hs:stage=1∨stage=2)(level:Nat)(hl:level<4)(d:DsD)(w:World):Fn Tryz.prog 122 [.int .i64 stage,.int .i64 (level:Int),uj d].toArray w [] (fun u _=>u=.tuple #[.int .u64 (bif d.may stage level then (d.word stage level:Int) else 0),.int .i64 (bif d.may stage level then 0 else 1)]):=by
 refine enter Tryz.func122 ?_;refine run ?_;intro B;refine az (fun wc hG=>yM stage hs level hl d wc) ?_
 cases hm:d.may stage level with
 | false=>
  simp only[cond_false];refine aP ?_
  exact fin2 rfl
 | true=>
  simp only[cond_true];refine aP ?_;refine bH (fun wc hG=>Tq stage hs level hl d hm wc) ?_;rintro v hn ⟨h1,hO,hle⟩;refine aS h1 (cnt1 hle) ?_;refine az (fun wc hG=>ab7 _ (DsD.wF hm) (hO.lie hG.here (by rw[bH7];exact bP8 (DsD.OA stage level d) bB4))) ?_;rw[DsD.I4];refine run ?_;exact fin2 rfl
theorem KR(ai:Int)(v a:Nat)(hai:ai=(a:Int))(ha:a≤63)(hv:v<18446744073709551616)(B:Nat)(w:World)(hB:w.cell? ⟨B,0,none⟩=some (.int .u64 (v:Int))):Fn Tryz.prog 335 [.int .i64 ai,.pointer (some ⟨B,0,none⟩)].toArray w [] (fun u _=>u=.bool (decide (dF v a 1=1))):=by
 subst hai;exact aK2 v a ha hv B w hB
theorem Good.cell1(hG:Good w0 mu hp w)(h:(⟨b,#[v],t⟩:mO)∈hp):w.cell? ⟨b,0,none⟩=some v:=by
 rw[cell_of_block (hG.here _ h)];rfl
theorem Xi(stage:Int)(hs:stage=1∨stage=2)(level:Nat)(hl:level<4)(v:Nat)(hv:v<18446744073709551616)(w:World):Fn Tryz.prog 293 [.agg #[.int .i64 stage,.int .i64 (level:Int)],.int .u64 (v:Int)].toArray w [] (fun u _=>u=uj (gZ stage level v)):=by
 have hlv:decide ((level:Int)=3)=decide (level=3):=by rw[bI2,decide_eq_true_eq,decide_eq_true_eq];omega
 refine enter Tryz.func293 ?_;refine run ?_;intro B C D;refine l7 (fs:=[]) (vs:=[.int .i64 0]) (us:=[.pointer (some ⟨C,0,none⟩)]) (fun wc hG=>KR 0 v 0 rfl bB4 hv C wc (hG.cell1 (t:=53) bB5)) ?_;refine run ?_;refine ah _ rfl (fun h0=>?_) (fun h0=>?_)
 ·have h0':(!decide (dF v 0 1=1))=true:=h0;refine run ?_;refine az (fun wc hG=>yK v 4 4 bB4 bB4 bB4 hv wc) ?_;refine run ?_;refine dR ?_;rw[gZ,h0',cond_true];rfl
 ·have h0':(!decide (dF v 0 1=1))=false:=by simpa using h0
  refine run ?_;refine l7 (fs:=[]) (vs:=[.int .i64 1]) (us:=[.pointer (some ⟨C,0,none⟩)]) (fun wc hG=>KR 1 v 1 rfl bB4 hv C wc (hG.cell1 (t:=53) bB5)) ?_;refine aC ?_;refine ah _ rfl (fun h1=>?_) (fun h1=>?_)
  ·rw[hlv] at h1;refine run ?_;refine az (fun wc hG=>yK v 12 12 bB4 bB4 bB4 hv wc) ?_;refine run ?_;refine dR ?_;rw[gZ,h0',cond_false,h1];rfl
  ·have h1':(decide (dF v 1 1=1)&&!decide ((level:Int)=3))=false:=by simpa using h1
   rw[hlv] at h1';refine run ?_;refine az (fun wc hG=>yK v 12 12 bB4 bB4 bB4 hv wc) ?_;refine run ?_;refine l7 (fs:=[]) (vs:=[.int .i64 10]) (us:=[.pointer (some ⟨C,0,none⟩)]) (fun wc hG=>KR 10 v 10 rfl bB4 hv C wc (hG.cell1 (t:=53) bB5)) ?_;refine run ?_;refine l7 (fs:=[]) (vs:=[.int .i64 54]) (us:=[.pointer (some ⟨C,0,none⟩)]) (fun wc hG=>KR 54 v 54 rfl bB4 hv C wc (hG.cell1 (t:=53) bB5)) ?_;refine run ?_;intro E;refine run ?_;refine ah _ rfl (fun hst=>?_) (fun hst=>?_)
   ·have hst':decide (stage=1)=true:=hst;refine run ?_;refine l7 (fs:=[]) (vs:=[.int .i64 7]) (us:=[.pointer (some ⟨C,0,none⟩)]) (fun wc hG=>KR 7 v 7 rfl bB4 hv C wc (hG.cell1 (t:=53) bB5)) ?_;refine run ?_;refine l7 (fs:=[]) (vs:=[.int .i64 11]) (us:=[.pointer (some ⟨C,0,none⟩)]) (fun wc hG=>KR 11 v 11 rfl bB4 hv C wc (hG.cell1 (t:=53) bB5)) ?_;refine run ?_;refine dR ?_;rw[gZ,h0',cond_false,h1',cond_false,hst',cond_true];rfl
   ·have hst':decide (stage=1)=false:=by simpa using hst
    refine run ?_;refine an1 8 [⟨D,#[.int .i64 0,.int .i64 0,.bool false,.bool false,.bool false,.bool false,.bool false,.int .i64 0,.int .i64 0],95⟩,⟨C,#[.int .u64 (v:Int)],53⟩,⟨B,#[.int .i64 stage,.int .i64 (level:Int)],285⟩] ?_;refine WA ?_;refine Wu bB8 bG4 (yu (fs:=[]) (vs:=[.int .i64 6]) (us:=[.pointer (some ⟨C,0,none⟩)]) (fA 335 rfl) rfl rfl (fun wc hG=>KR 6 v 6 rfl bB4 hv C wc (hG.cell1 (t:=53) bB5))) ?_;refine WA ?_;refine am9 bB8 bG4 (fun hx=>yu (fs:=[]) (vs:=[.int .i64 7]) (us:=[.pointer (some ⟨C,0,none⟩)]) (fA 335 rfl) rfl rfl (fun wc hG=>KR 7 v 7 rfl bB4 hv C wc (hG.cell1 (t:=53) bB5))) ?_;refine WA ?_;refine au' (fun wc hG=>yK v 55 4 bB4 bB4 bB4 hv wc) ?_;refine WA ?_;refine run ?_;refine dR ?_;rw[gZ,h0',cond_false,h1',cond_false,hst',cond_false];rfl
theorem an8(stage:Int)(hs:stage=1∨stage=2)(level:Nat)(hl:level<4)(v:Nat)(hv:v<18446744073709551616)(w:World):Fn Tryz.prog 210 [.int .i64 stage,.int .i64 (level:Int),.int .u64 (v:Int)].toArray w [] (fun u _=>u=.tuple #[uj (zK stage level v),.int .i64 0]):=by
 refine enter Tryz.func210 ?_;refine run ?_;intro B C;refine az (fun wc hG=>wE stage hs level hl wc) ?_;refine aP ?_;refine az (fun wc hG=>Xi stage hs level hl v hv wc) ?_;refine run ?_;intro D;refine run ?_;refine az (fun wc hG=>I8 stage hs level hl _ wc) ?_;refine aC ?_;have hm2:∀ b:Bool,decide ((bif b then (0:Int) else 1)=0)=b:=by decide
 refine ah _ rfl (fun hc=>?_) (fun hc=>?_)
 ·refine run ?_;refine fZ ?_
  have:zK stage level v=dG:=by
   unfold zK;rw[hm2] at hc;cases hm:(gZ stage level v).may stage level
   ·rfl
   ·rw[hm] at hc;have hne:¬ (gZ stage level v).word stage level=v:=by simpa [bY6] using hc
    simp[hne]
  rw[this];rfl
 ·refine run ?_;refine fZ ?_
  have:zK stage level v=gZ stage level v:=by
   unfold zK;rw[hm2] at hc;cases hm:(gZ stage level v).may stage level
   ·rw[hm] at hc;simp at hc
   ·rw[hm] at hc;have he:(gZ stage level v).word stage level=v:=by simpa [bY6] using hc
    simp[he]
  rw[this]
end
end Go.Proofs.YtellmabgmnbhcaaGreat
