/- Texts of one's own, merged: the engine, what the functions do, plain laws. -/
import Derived.Test.YtndklbjnofdgeaaGreatPo1
namespace Go.Proofs.YtndklbjnofdgeaaGreat
open Go.RowKit
set_option linter.unusedVariables false
set_option linter.unusedSimpArgs false
set_option maxRecDepth 20000
section
open Go.ChangeShapes Go.WideShapes Go.ChangeAt Go.RowKit
def okW:jJ→Value→Bool
 | .i k,.int k' n=>decide (k=k') && (Lit.int k n).wf
 | .b,.bool _=>true
 | _,_=>false
def jM:List jJ→List Value→Bool
 | [],[]=>true
 | l::ls,v::vs=>okW l v && jM ls vs
 | _,_=>false
theorem CW:∀ {ks rs:List jJ} {vs:List Value},ks.length≤vs.length→jM ks (vs.take ks.length)=true→jM rs (vs.drop ks.length)=true→jM (ks++rs) vs=true:=by
 intro ks
 induction ks with
 | nil=>intro rs vs _ _ h;simpa using h
 | cons k r ih=>
  intro rs vs hl h1 h2
  cases vs with
  | nil=>simp at hl
  | cons v vs=>
   simp only [List.length_cons,List.take_succ_cons,List.drop_succ_cons,jM,Bool.and_eq_true] at h1 h2
   simp only [List.cons_append,jM,Bool.and_eq_true]
   exact ⟨h1.1,ih (by simp at hl;omega) h1.2 h2⟩
section
variable {H : Type} {enc : TypeId × Value → H} {P : Program} {w : World} {base : Nat} {spare : Nat → Bool} {held : Bool}
theorem jO {t:TypeId} {n:Nat} (h:fZ P t=some n):P.cellsOf t=n:=by
 unfold fZ at h;unfold Program.cellsOf;rw [h];rfl
theorem BX {F:TypeId→Option (List jJ)} {n:Nat} (hF:∀ u ks,F u=some ks→fZ P u=some ks.length∧∀ cs x,DataW.trod enc P w base spare held n u cs=some x→jM ks cs=true) (cs:List Value):
  ∀ (fs:List Field) (off:Nat) (ks:List jJ),kG F off fs=some ks→cs.length=off + ks.length →
   (∀ f∈fs,∃ x,DataW.trod enc P w base spare held n f.type ((cs.drop f.offset).take (P.cellsOf f.type))=some x)→jM ks (cs.drop off)=true:=by
 intro fs
 induction fs with
 | nil=>
  intro off ks h hl hx
  simp only [kG,Option.some.injEq] at h
  subst h
  rw [List.drop_eq_nil_of_le (by simp only [List.length_nil] at hl;omega)]
  rfl
 | cons f r ih=>
  intro off ks h hl hx
  simp only [kG] at h
  split at h
  ·rename_i hc
   obtain ⟨hname,hoff⟩:=hc
   cases hf:F f.type with
   | none=>simp [hf] at h
   | some k1=>
    rw [hf] at h
    simp only [Option.bind_some] at h
    cases hr:kG F (off + k1.length) r with
    | none=>simp [hr] at h
    | some k2=>
     rw [hr] at h
     simp only [Option.map_some,Option.some.injEq] at h
     subst h
     obtain ⟨hs,hE⟩:=hF _ _ hf
     obtain ⟨x,hx1⟩:=hx f (List.mem_cons_self ..)
     rw [hoff,jO hs] at hx1
     simp only [List.length_append] at hl
     refine CW aw0 (hE _ _ hx1) ?_
     rw [List.drop_drop]
     exact ih _ _ hr au' fun f hf=>hx f (List.mem_cons_of_mem _ hf)
  ·cases h
theorem Ep {ks:List jJ} {q:List Value→Prop} (hE:∀ cs,q cs→jM ks cs=true) (cs:List Value):∀ (n m:Nat),cs.length=(m + n) * ks.length→(∀ i,m≤i→i<m + n→q ((cs.drop (i * ks.length)).take ks.length))→jM (lI ks n) (cs.drop (m * ks.length))=true:=by
 intro n
 induction n with
 | zero=>intro m hl _;rw [List.drop_eq_nil_of_le (by rw [hl];simp)];rfl
 | succ n ih=>
  intro m hl hq
  have e:(m + (n + 1)) * ks.length=m * ks.length + (ks.length + n * ks.length):=by rw [Nat.add_mul,Nat.succ_mul];omega
  refine CW aw0 (hE _ (hq m (Nat.le_refl _) au')) ?_
  rw [List.drop_drop,← Nat.succ_mul]
  exact ih (m + 1) (by rw [hl];congr 1;omega) fun i h1 h2=>hq i au' au'
theorem uj:∀ (d:Nat) (t:TypeId) (ks:List jJ),tY P d t=some ks→fZ P t=some ks.length→∀ fuel cs x,DataW.trod enc P w base spare held fuel t cs=some x→jM ks cs=true:=by
 intro d
 induction d with
 | zero=>intro t ks h;cases h
 | succ d ih=>
  intro t ks h hsz fuel cs x hx
  simp only [tY] at h
  split at h
  ·rename_i k hu
   simp only [Option.some.injEq] at h
   subst h
   obtain ⟨n,rfl,_,hw⟩:=DataW.trod_int hu hx
   simp [jM,okW,hw]
  ·rename_i hu
   simp only [Option.some.injEq] at h
   subst h
   obtain ⟨n,rfl,_⟩:=DataW.trod_bool hu hx
   simp [jM,okW]
  ·rename_i fs hu
   split at h
   ·obtain ⟨xs,n,_,_,hl,hn,hf⟩:=DataW.trod_struct hu hx
    have:=BX (enc:=enc) (P:=P) (w:=w) (base:=base) (spare:=spare) (held:=held) (n:=n) (F:=fun u=>(tY P d u).bind fun ks=>if fZ P u=some ks.length∧0<ks.length then some ks else none) (fun u ks' hF=>by
     cases hl:tY P d u with
     | none=>rw [hl] at hF;cases hF
     | some k1=>
      rw [hl] at hF
      simp only [Option.bind_some] at hF
      split at hF
      ·rename_i hz
       simp only [Option.some.injEq] at hF
       subst hF
       exact ⟨hz.1,fun cs x=>ih u k1 hl hz.1 n cs x⟩
      ·cases hF) cs fs.toList 0 ks h (by rw [hl,jO hsz];omega) (fun f hm=>by
       obtain ⟨i,hi,rfl⟩:=List.mem_iff_getElem.1 hm
       simp only [Array.length_toList] at hi
       have:=hf i fs[i] (by simp [hi])
       rw [Array.getElem_toList,this]
       exact ⟨xs[i],by rw [List.getElem?_eq_getElem au']⟩)
    simpa using this
   ·cases h
  ·rename_i n e hu
   cases hl:tY P d e with
   | none=>rw [hl] at h;cases h
   | some k1=>
    rw [hl] at h
    simp only [Option.bind_some] at h
    split at h
    ·rename_i hz
     simp only [Option.some.injEq] at h
     subst h
     obtain ⟨xs,m,_,_,hlen,hn,hf⟩:=DataW.trod_array hu hx
     have hk:∀ (n:Nat),(lI k1 n).length=n * k1.length:=by
      intro n
      induction n with
      | zero=>simp [lI]
      | succ n ih=>simp [lI,ih,Nat.succ_mul];omega
     have:=Ep (ks:=k1) (q:=fun cs=>∃ x,DataW.trod enc P w base spare held m e cs=some x) (fun cs ⟨x,h⟩=>ih e k1 hl hz.1 m cs x h) cs n 0 (by rw [hlen,jO hsz,hk];simp) (fun i _ hi=>by
      have:=hf i au'
      rw [jO hz.1] at this
      rw [this]
      exact ⟨xs[i]' au',by rw [List.getElem?_eq_getElem au']⟩)
     simpa using this
    ·cases h
  ·cases h
end
end
section
open Go.ChangeShapes Go.WideShapes Go.ChangeAt Go.RowKit
section
variable {H : Type} {enc : TypeId × Value → H} {P : Program} {w : World} {base : Nat} {spare : Nat → Bool} {held : Bool}
def BZ (P:Program) (t:TypeId) (d:DataW H):Prop:=∀ n∈d.weights P t,n≤reachBytes
theorem weightsAll_mem {P:Program} {e:TypeId}:∀ {ds:List (DataW H)} {d:DataW H},d∈ds→∀ n∈d.weights P e,n∈DataW.weightsAll P e ds:=by
 intro ds
 induction ds with
 | nil=>intro d h;cases h
 | cons x r ih=>
  intro d h n hn
  simp only [DataW.weightsAll,List.mem_append]
  rcases List.mem_cons.1 h with rfl | h
  ·exact .inl hn
  ·exact .inr (ih h n hn)
theorem CX {α:Type} [Inhabited α] {t e s fuel:Nat} {R:List Value→α→Prop} {cs:List Value} {x:DataW H × List MemPlace} (ht:P.underlying t=some (.slice e)) (hs:fZ P e=some s) (hpos:0<s) (hby:Nat.ble 1 (P.bytesOf e)=true)
  (hE:∀ n cs x,DataW.trod enc P w base spare held n e cs=some x→BZ P e x.1→∃ a:α,R cs a) (h:DataW.trod enc P w base spare held fuel t cs=some x) (hz:BZ P t x.1):
  ∃ (p:Option Addr) (xs:List α) (cap:Nat),cs=[.slice p xs.length cap]∧xs.length≤reachBytes∧((xs=[])∨∃ b off,p=some ⟨b,off,none⟩∧∀ i,i<xs.length→∃ cs,w.rangeAt b (off + i * s) cs∧cs.length=s∧R cs (xs.getD i default)):=by
 rcases Go.Deep.open_slice ht h with ⟨hc,_⟩ | ⟨a,len,cap,m,n,D,Pl,hc,hb,hl,hm,hmm,hxx,hx⟩
 ·exact ⟨none,[],0,hc,by simp,.inl rfl⟩
 ·have hnm:len≤m:=by rw [hmm];split<;>omega
  rw [hxx] at hz
  have hlen:len≤reachBytes:=by
   have h1:=hz ((((List.range len).map D).length + ((List.range (m - len)).map fun j=>D (len + j)).length) * P.bytesOf e) (by simp [DataW.weights,ht])
   have h2:1≤P.bytesOf e:=Nat.le_of_ble_eq_true hby
   simp only [List.length_map,List.length_range] at h1
   calc len≤len + (m - len):=by omega
    _=(len + (m - len)) * 1:=by omega
    _≤(len + (m - len)) * P.bytesOf e:=Nat.mul_le_mul_left _ h2
    _≤_:=h1
  have hzE:∀ i,i<len→BZ P e (D i):=fun i hi n hn=>hz n (by
   simp only [DataW.weights,ht,List.mem_cons,List.mem_append]
   exact .inr (.inl (weightsAll_mem (List.mem_map.2 ⟨i,List.mem_range.2 hi,rfl⟩) n hn)))
  rw [jO hs] at hx
  have key:∀ i,i<len→∃ y:α,∃ cs,(∀ j v,cs[j]?=some v→w.cell? ((a.add (i * s)).add j)=some v)∧cs.length=s∧R cs y:=by
   intro i hi
   obtain ⟨cs,h1,h2⟩:=hx i au'
   obtain ⟨_,hlen,hc⟩:=World.cells?_some h1
   obtain ⟨y,hy⟩:=hE _ _ _ h2 (hzE i hi)
   refine ⟨y,cs,fun j v hj=>?_,hlen,hy⟩
   have:j<cs.length:=(List.getElem?_eq_some_iff.1 hj).1
   rw [hc j au',hj]
  obtain ⟨Y,hY⟩:=Go.Deep.choose_lt (α:=α) (n:=len) (p:=fun i y=>∃ cs,(∀ j v,cs[j]?=some v→w.cell? ((a.add (i * s)).add j)=some v)∧cs.length=s∧R cs y) key
  refine ⟨some a,(List.range len).map Y,cap,by simpa using hc,by simpa using hlen,?_⟩
  by_cases h0:len=0
  ·left;subst h0;rfl
  right
  have hspot:a.spot=none:=by
   obtain ⟨cs,h1,h3,_⟩:=hY 0 au'
   have:=World.cell?_spot (h1 0 (cs[0]' au') (List.getElem?_eq_getElem _))
   simpa [Addr.add] using this
  obtain ⟨b,off,sp⟩:=a
  simp only at hspot
  subst hspot
  refine ⟨b,off,rfl,fun i hi=>?_⟩
  simp only [List.length_map,List.length_range] at hi
  obtain ⟨cs,h1,h2,h3⟩:=hY i hi
  refine ⟨cs,fun j v hj=>?_,h2,by simpa [hi] using h3⟩
  have:=h1 j v hj
  rwa [Go.Deep.add_add,Addr.add_mid,← Nat.add_assoc] at this
theorem uk {t fuel:Nat} {fs:Array Go.Field} {cs:List Value} {x:DataW H × List MemPlace} (ht:P.underlying t=some (.struct fs)) (h:DataW.trod enc P w base spare held fuel t cs=some x) (hz:BZ P t x.1):
  cs.length=P.cellsOf t∧∃ n:Nat,∀ (i:Nat) (f:Go.Field),fs[i]?=some f→∃ y,DataW.trod enc P w base spare held n f.type ((cs.drop f.offset).take (P.cellsOf f.type))=some y∧BZ P f.type y.1:=by
 obtain ⟨xs,n,_,rfl,hl,hlen,hf⟩:=DataW.trod_struct ht h
 refine ⟨hl,n,fun i f hi=>?_⟩
 have h1:=hf i f hi
 have hlt:i<fs.size:=(Array.getElem?_eq_some_iff.1 hi).1
 rw [List.getElem?_eq_getElem au'] at h1
 refine ⟨_,h1,fun n hn=>hz n ?_⟩
 simp only [DataW.weights,ht]
 exact DataW.weights_mem_each (j:=i) (t:=f.type) (d:=(xs[i]' au').1) (by simp [hi]) (by simp [List.getElem?_eq_getElem (show i<xs.length by omega)]) n hn
end
end
section
structure PgD where
 own:Int
 wit:Int
deriving Inhabited
structure MpD where
 mid:Int
 WR:Int
deriving Inhabited
structure GsD where
 live:Bool
 dying:Bool
 first:Int
 pF:List Int
 maps:List MpD
deriving Inhabited
structure StD where
 vm:Int
 cpu:Int
deriving Inhabited
structure PtD where
 pages:List PgD
 rC:List GsD
 on:List StD
def allB (n:Nat) (p:Nat→Bool):Bool:=(List.range n).all p
namespace PtD
variable (P : PtD)
def pg (f:Nat):PgD:=P.pages.getD f default
def gs (i:Nat):GsD:=P.rC.getD i default
def st (c:Nat):StD:=P.on.getD c default
def bY (n a b:Int):Bool:=decide (a≤n) && decide (n≤b)
def lives (n:Int):Bool:=bY n 1 4 && (P.gs (n - 1).toNat).live
def owns (who:Int):Bool:=P.pages.any fun x=>decide (x.own=who)
def uses (who:Int) (f:Nat):Bool:=decide ((P.pg f).own=who) || decide ((P.pg f).wit=who)
def YT (taken:List Int) (f:Nat):Bool:=
 bif decide (f<16) || decide ((P.pg f).own=-1) then (decide ((P.pg f).own=-1) && decide ((P.pg f).wit=-2)) && (decide (f<16) || taken.any fun t=>decide (t=(f:Int)))
 else bif decide ((P.pg f).own=0) then decide ((P.pg f).wit=-2) || decide ((P.pg f).wit=-1) || P.lives (P.pg f).wit
 else bif bY (P.pg f).own 1 4 then decide ((P.pg f).wit=-2) || (decide ((P.pg f).wit=0) && P.lives (P.pg f).own) else false
def VK (l:List MpD) (N:Nat) (i:Nat):Bool:=
 bY (l.getD i default).mid 0 15 && (decide (i=0) || decide ((l.getD (i - 1) default).mid<(l.getD i default).mid)) && bY (l.getD i default).WR 0 ((N:Int) - 1) && !((l.take i).any fun m=>decide (m.WR=(l.getD i default).WR))
def mapped (i:Nat):Bool:=allB (P.gs i).maps.length (VK (P.gs i).maps P.pages.length) && allB P.pages.length fun f=>((P.gs i).maps.any fun m=>decide (m.WR=(f:Int))) == P.uses ((i:Int) + 1) f
def PD (i:Nat) (v:Nat):Bool:=
 decide ((P.gs i).pF.getD v 0=-1) || (bY ((P.gs i).pF.getD v 0) 0 ((P.on.length:Int) - 1) && (decide ((P.st ((P.gs i).pF.getD v 0).toNat).vm=(i:Int) + 1) && decide ((P.st ((P.gs i).pF.getD v 0).toNat).cpu=(v:Int))))
def TJ (i:Nat):Bool:=
 bif (P.gs i).live then
  !(P.gs i).dying && bY (P.gs i).first 16 ((P.pages.length:Int) - 5) && decide ((P.gs i).pF.length≤2) && P.mapped i &&
  allB 5 (fun k=>decide ((P.pg ((P.gs i).first.toNat + k)).own=-1) && decide ((P.pg ((P.gs i).first.toNat + k)).wit=-2)) && allB (P.gs i).pF.length (P.PD i)
 else decide ((P.gs i).pF.length=0) && decide ((P.gs i).maps.length=0) && decide ((P.gs i).first=0) && ((P.gs i).dying == P.owns ((i:Int) + 1))
def seated (c:Nat):Bool:=
 bif decide ((P.st c).vm=0) then decide ((P.st c).cpu=0)
 else P.lives (P.st c).vm && bY (P.st c).cpu 0 (((P.gs ((P.st c).vm - 1).toNat).pF.length:Int) - 1) && decide ((P.gs ((P.st c).vm - 1).toNat).pF.getD (P.st c).cpu.toNat 0=(c:Int))
def rows (i:Nat):List Int:=bif (P.gs i).live then [(P.gs i).first,(P.gs i).first + 1,(P.gs i).first + 2,(P.gs i).first + 3,(P.gs i).first + 4] else []
def taken (k:Nat):List Int:=(List.range k).flatMap P.rows
def round (i:Nat):Bool:=P.TJ i && (!(P.gs i).live || allB 5 fun k=>!((P.taken i).any fun t=>decide (t=(P.gs i).first + (k:Int))))
def may:Bool:=
 (decide (24≤P.pages.length) && decide (P.pages.length≤64)) && decide (P.rC.length=4) && (decide (1≤P.on.length) && decide (P.on.length≤3)) &&
 allB 4 P.round && allB P.pages.length (P.YT (P.taken 4)) && allB P.on.length P.seated
def who (n:Int):Bool:=decide (-1≤n) && decide (n≤4)
def idx {α:Type} (p:α→Bool):List α→Nat→Option Nat
 | [],_=>none
 | x::r,i=>bif p x then some i else idx p r (i + 1)
end PtD
end
section
namespace PtD
variable {P : PtD}
theorem xE {α:Type} [Inhabited α] {p:α→Bool}:∀ {l:List α} {i k:Nat},idx p l i=some k→i≤k∧k - i<l.length∧p (l.getD (k - i) default)=true∧∀ j,j<k - i→p (l.getD j default)=false:=by
 intro l
 induction l with
 | nil=>intro i k h;cases h
 | cons x r ih=>
  intro i k h
  simp only [idx] at h
  cases hp:p x with
  | true=>
   rw [hp] at h
   simp only [cond_true,Option.some.injEq] at h
   subst h
   refine ⟨Nat.le_refl _,by simp,by simpa using hp,fun j hj=>by omega⟩
  | false=>
   rw [hp] at h
   obtain ⟨h1,h2,h3,h4⟩:=ih h
   have e:k - i=(k - (i + 1)) + 1:=by omega
   refine ⟨by omega,by simp;omega,by rw [e];simpa using h3,fun j hj=>?_⟩
   cases j with
   | zero=>simpa using hp
   | succ j=>have:=h4 j au';simpa using this
theorem Gt {α:Type} [Inhabited α] {p:α→Bool}:∀ {l:List α} {i:Nat},idx p l i=none→∀ j,j<l.length→p (l.getD j default)=false:=by
 intro l
 induction l with
 | nil=>intro i h j hj;simp at hj
 | cons x r ih=>
  intro i h j hj
  simp only [idx] at h
  cases hp:p x with
  | true=>rw [hp] at h;cases h
  | false=>
   rw [hp] at h
   cases j with
   | zero=>simpa using hp
   | succ j=>have:=ih h j (by simp at hj;omega);simpa using this
theorem WS {α:Type} [Inhabited α] {p:α→Bool} {l:List α} {k:Nat} (hk:k<l.length) (h:p (l.getD k default)=true):idx p l 0=some k↔∀ j,j<k→p (l.getD j default)=false:=by
 constructor
 ·intro e;have:=xE e;simpa using this.2.2.2
 ·intro hj
  cases e:idx p l 0 with
  | none=>have:=Gt e k hk;rw [h] at this;cases this
  | some m=>
   obtain ⟨_,h2,h3,h4⟩:=xE e
   simp only [Nat.sub_zero] at h2 h3 h4
   rcases Nat.lt_trichotomy m k with hlt | rfl | hgt
   ·have:=hj m hlt;rw [h3] at this;cases this
   ·rfl
   ·have:=h4 k hgt;rw [h] at this;cases this
theorem TK {α:Type} [Inhabited α] {p:α→Bool} {l:List α}:(idx p l 0).isSome=l.any p:=by
 rw [Bool.eq_iff_iff,List.any_eq_true]
 constructor
 ·intro h
  obtain ⟨k,e⟩:=Option.isSome_iff_exists.1 h
  obtain ⟨_,h2,h3,_⟩:=xE e
  simp only [Nat.sub_zero] at h2 h3
  refine ⟨_,?_,h3⟩
  rw [List.getD_eq_getElem?_getD,List.getElem?_eq_getElem h2]
  simp
 ·rintro ⟨x,hx,hp⟩
  cases e:idx p l 0 with
  | some k=>rfl
  | none=>
   obtain ⟨j,hj,rfl⟩:=List.mem_iff_getElem.1 hx
   have:=Gt e j hj
   rw [List.getD_eq_getElem?_getD,List.getElem?_eq_getElem hj] at this
   simp [hp] at this
structure Ok (P:PtD):Prop where
 n0:24≤P.pages.length
 n1:P.pages.length≤64
 g4:P.rC.length=4
 o1:1≤P.on.length
 o3:P.on.length≤3
 dead:∀ i,i<4→(P.gs i).live=false→(P.gs i).pF.length=0∧(P.gs i).maps.length=0∧(P.gs i).first=0∧(P.gs i).dying=P.owns ((i:Int) + 1)
 liv:∀ i,i<4→(P.gs i).live=true→(P.gs i).dying=false∧16≤(P.gs i).first∧(P.gs i).first≤(P.pages.length:Int) - 5∧(P.gs i).pF.length≤2∧(∀ v,v<(P.gs i).pF.length→P.PD i v=true) ∧
  (∀ k,k<(P.gs i).maps.length→VK (P.gs i).maps P.pages.length k=true)∧(∀ f,f<P.pages.length→((P.gs i).maps.any fun m=>decide (m.WR=(f:Int)))=P.uses ((i:Int) + 1) f)
 apart:∀ i j,i<j→j<4→(P.gs i).live=true→(P.gs j).live=true→(P.gs i).first + 5≤(P.gs j).first∨(P.gs j).first + 5≤(P.gs i).first
 hyp:∀ f,f<P.pages.length→((P.pg f).own=-1↔(f<16∨∃ i,i<4∧(P.gs i).live=true∧(P.gs i).first≤f∧f<(P.gs i).first + 5))
 an1:∀ f,f<P.pages.length→(P.pg f).own=-1→(P.pg f).wit=-2
 who:∀ f,f<P.pages.length→-1≤(P.pg f).own∧(P.pg f).own≤4
 host:∀ f,f<P.pages.length→(P.pg f).own=0→(P.pg f).wit=-2∨(P.pg f).wit=-1∨P.lives (P.pg f).wit=true
 ak4:∀ f,f<P.pages.length→0<(P.pg f).own→(P.pg f).wit=-2∨((P.pg f).wit=0∧P.lives (P.pg f).own=true)
 seat:∀ c,c<P.on.length→P.seated c=true
end PtD
end
section
namespace PtD
variable {P : PtD}
end PtD
end
section
theorem rD {w:World} {b o:Nat} {vs:List Value} (h:w.rangeAt b o vs) {k:Nat} {v:Value} (hv:nth vs k=some v):w.cell? ⟨b,o + k,none⟩=some v:=by
 rw [pX] at hv
 exact h k v (by simpa using hv)
theorem cZ {w:World} {b o:Nat} {v:Value} {r:List Value} (h:w.rangeAt b o (v::r)):w.cell? ⟨b,o,none⟩=some v:=by simpa using h 0 v rfl
theorem Good.range {w0 w:World} {mu:List Nat} {hp:Hp} (h:Good w0 mu hp w) {b o:Nat} {vs:List Value} (hr:w0.rangeAt b o vs) (hm:b ∉ mu):w.rangeAt b o vs:=fun j v hj=>h.cell (hr j v hj) hm
structure aB (w:World) (v:Value) (sz:Nat) (xs:List (List Value)):Prop where
 is:∃ p cap,v=.slice p xs.length cap∧(xs ≠ []→∃ b off,p=some ⟨b,off,none⟩∧∀ i c,xs[i]?=some c→w.rangeAt b (off + i * sz) c)
 le:xs.length≤281474976710656
theorem aB.good {w w':World} {hp:Hp} {v:Value} {sz:Nat} {xs:List (List Value)} (h:aB w v sz xs) (hG:Good w [] hp w'):aB w' v sz xs:=by
 obtain ⟨⟨p,cap,rfl,hp⟩,hl⟩:=h
 refine ⟨⟨p,cap,rfl,fun hne=>?_⟩,hl⟩
 obtain ⟨b,off,rfl,hr⟩:=hp hne
 exact ⟨b,off,rfl,fun i c hc=>hG.range (hr i c hc) av4⟩
theorem Acc.ac9 {w0 w:World} {mu:List Nat} {hp ha:Hp} {e sz:Nat} {v:Value} {xs:List (List Value)} (hA:Acc e sz v ha xs) (hG:Good w0 mu hp w) (hm:∀ b∈ha,b∈hp) (hle:xs.length≤281474976710656):aB w v sz xs:=⟨hA.rows hG hm,hle⟩
def mpV (x:MpD):List Value:=[.int .i64 x.mid,.int .i64 x.WR]
def dH (x:Int):List Value:=[.int .i64 x]
structure PE where
 pb:Nat
 po:Nat
 pc:Nat
 gb:Nat
 go:Nat
 gc:Nat
 ob:Nat
 oo:Nat
 oc:Nat
 vv:Nat→Value
 mv:Nat→Value
abbrev PE.pv (L:PE) (n:Nat):Value:=.slice (some ⟨L.pb,L.po,none⟩) n L.pc
abbrev PE.gv (L:PE) (n:Nat):Value:=.slice (some ⟨L.gb,L.go,none⟩) n L.gc
abbrev PE.ov (L:PE) (n:Nat):Value:=.slice (some ⟨L.ob,L.oo,none⟩) n L.oc
def I64 (v:Int):Prop:=-9223372036854775808≤v∧v≤9223372036854775807
structure PtD.Wf (P:PtD):Prop where
 pg:∀ f,f<P.pages.length→I64 (P.pg f).own∧I64 (P.pg f).wit
 gs:∀ i,i<P.rC.length→I64 (P.gs i).first∧(∀ x∈(P.gs i).pF,I64 x)∧(∀ x∈(P.gs i).maps,I64 x.mid∧I64 x.WR)
 st:∀ c,c<P.on.length→I64 (P.st c).vm∧I64 (P.st c).cpu
structure Kw (w:World) (L:PE) (P:PtD):Prop where
 pg:∀ i,i<P.pages.length→w.rangeAt L.pb (L.po + i * 2) [.int .i64 (P.pg i).own,.int .i64 (P.pg i).wit]
 gs:∀ i,i<P.rC.length→w.rangeAt L.gb (L.go + i * 5) [.bool (P.gs i).live,.bool (P.gs i).dying,.int .i64 (P.gs i).first,L.vv i,L.mv i]
 vc:∀ i,i<P.rC.length→aB w (L.vv i) 1 ((P.gs i).pF.map dH)
 mp:∀ i,i<P.rC.length→aB w (L.mv i) 2 ((P.gs i).maps.map mpV)
 st:∀ i,i<P.on.length→w.rangeAt L.ob (L.oo + i * 2) [.int .i64 (P.st i).vm,.int .i64 (P.st i).cpu]
 wf:P.Wf
theorem Kw.good {w w':World} {hp:Hp} {L:PE} {P:PtD} (h:Kw w L P) (hG:Good w [] hp w'):Kw w' L P:=
 ⟨fun i hi=>hG.range (h.pg i hi) av4,fun i hi=>hG.range (h.gs i hi) av4,fun i hi=>(h.vc i hi).good hG,fun i hi=>(h.mp i hi).good hG,fun i hi=>hG.range (h.st i hi) av4,h.wf⟩
structure PtD.Len (P:PtD):Prop where
 p0:24≤P.pages.length
 p1:P.pages.length≤64
 g4:P.rC.length=4
 o0:1≤P.on.length
 o1:P.on.length≤3
structure PG (w:World) (bp:Nat) (L:PE) (P:PtD):Prop where
 v:Kw w L P
 n:P.Len
 cp:w.cell? ⟨bp,0,none⟩=some (L.pv P.pages.length)
 cg:w.cell? ⟨bp,1,none⟩=some (L.gv P.rC.length)
 co:w.cell? ⟨bp,2,none⟩=some (L.ov P.on.length)
theorem PG.good {w w':World} {hp:Hp} {bp:Nat} {L:PE} {P:PtD} (h:PG w bp L P) (hG:Good w [] hp w'):PG w' bp L P:=
 ⟨h.v.good hG,h.n,hG.cell h.cp av4,hG.cell h.cg av4,hG.cell h.co av4⟩
section
variable {w : World} {L : PE} {P : PtD}
end
end
namespace PtD
end PtD
section
open Go.ChangeShapes Go.WideShapes Go.ChangeAt Go.RowKit
theorem WT {n:Int} (h:(Lit.int .i64 n).wf=true):I64 n:=by
 simp only [Lit.wf,Bool.and_eq_true,decide_eq_true_eq] at h
 exact ⟨Int.le_trans av1 h.1,Int.le_trans h.2 av1⟩
theorem nS {v:Value} (h:okW (.i .i64) v=true):∃ a,v=.int .i64 a∧I64 a:=by
 cases v<;>simp only [okW,Bool.and_eq_true,decide_eq_true_eq,Bool.false_eq_true] at h
 obtain ⟨rfl,h⟩:=h
 exact ⟨_,rfl,WT h⟩
theorem um {v:Value} (h:okW .b v=true):∃ a,v=.bool a:=by
 cases v<;>simp only [okW,Bool.false_eq_true] at h
 exact ⟨_,rfl⟩
theorem aK {k:jJ} {ks:List jJ} {cs:List Value} (h:jM (k::ks) cs=true):∃ v r,cs=v::r∧okW k v=true∧jM ks r=true:=by
 cases cs with
 | nil=>cases h
 | cons v r=>simp only [jM,Bool.and_eq_true] at h;exact ⟨v,r,rfl,h⟩
theorem oH {cs:List Value} (h:jM [] cs=true):cs=[]:=by cases cs with | nil=>rfl | cons _ _=>cases h
theorem PI {n:Nat} (h:n≤reachBytes):n≤281474976710656:=Nat.le_trans h av1
section
variable {H : Type} {enc : TypeId × Value → H} {w : World} {base : Nat} {spare : Nat → Bool} {held : Bool}
theorem CY {α:Type} [Inhabited α] {p:Option Addr} {xs:List α} {cap s:Nat} {f:α→List Value} {q:α→Prop} (hl:xs.length≤reachBytes) (h:(xs=[])∨∃ b off,p=some ⟨b,off,none⟩∧∀ i,i<xs.length→∃ cs,w.rangeAt b (off + i * s) cs∧cs.length=s∧(cs=f (xs.getD i default)∧q (xs.getD i default))):
  aB w (.slice p xs.length cap) s (xs.map f)∧∀ a∈xs,q a:=by
 refine ⟨⟨⟨p,cap,by rw [List.length_map],fun hne=>?_⟩,by rw [List.length_map];exact PI hl⟩,fun a ha=>?_⟩
 ·rcases h with rfl | ⟨b,off,rfl,h⟩
  ·exact absurd rfl hne
  ·refine ⟨b,off,rfl,fun i c hc=>?_⟩
   have hi:i<xs.length:=by
    have:=(List.getElem?_eq_some_iff.1 hc).1
    simpa using this
   obtain ⟨cs,h1,_,rfl,_⟩:=h i hi
   simp only [List.getElem?_map,List.getElem?_eq_getElem hi,Option.map_some,Option.some.injEq] at hc
   rw [List.getD_eq_getElem?_getD,List.getElem?_eq_getElem hi] at h1
   subst hc
   exact h1
 ·rcases h with rfl | ⟨b,off,rfl,h⟩
  ·cases ha
  ·obtain ⟨i,hi,rfl⟩:=List.mem_iff_getElem.1 ha
   obtain ⟨cs,_,_,_,h2⟩:=h i hi
   rw [List.getD_eq_getElem?_getD,List.getElem?_eq_getElem hi] at h2
   exact h2
theorem rE {α:Type} [Inhabited α] {f:α→List Value} {q:α→Prop} {t e:TypeId} {ks:List jJ} {fuel:Nat} {cs:List Value} {x:DataW H × List MemPlace} (ht:Tryz.prog.underlying t=some (.slice e)) (hlk:tY Tryz.prog 8 e=some ks) (hsz:fZ Tryz.prog e=some ks.length) (hpos:0<ks.length) (hby:Nat.ble 1 (Tryz.prog.bytesOf e)=true)
  (hE:∀ cs,jM ks cs=true→∃ a,cs=f a∧q a) (h:DataW.trod enc Tryz.prog w base spare held fuel t cs=some x) (hz:BZ Tryz.prog t x.1):∃ v,∃ xs:List α,cs=[v]∧aB w v ks.length (xs.map f)∧(∀ a∈xs,q a)∧xs.length≤reachBytes:=by
 obtain ⟨p,xs,cap,rfl,hl,hr⟩:=CX (α:=α) (R:=fun cs a=>cs=f a∧q a) ht hsz hpos hby (fun n cs x hx _=>hE cs (uj 8 e ks hlk hsz n cs x hx)) h hz
 obtain ⟨h1,h2⟩:=CY hl hr
 exact ⟨_,xs,rfl,h1,h2,hl⟩
end
end
section
attribute [local irreducible] Hy St Ops DH gB
def fM {α:Type} (p:α→Bool) (xs:List α):Int:=match PtD.idx p xs 0 with | some i=>(i:Int) | none=>-1
theorem PK {α:Type} [Inhabited α] {p:α→Bool} {l:List α} (h:∀ j,j<l.length→p (l.getD j default)=false):PtD.idx p l 0=none:=by
 cases e:PtD.idx p l 0 with
 | none=>rfl
 | some k=>
  obtain ⟨_,h2,h3,_⟩:=PtD.xE e
  simp only [Nat.sub_zero] at h2 h3
  rw [h k h2] at h3;cases h3
theorem iM {α:Type} [Inhabited α] {p:α→Bool} {l:List α} {k:Nat} (hk:k<l.length) (h:p (l.getD k default)=true) (hn:∀ j,j<k→p (l.getD j default)=false):fM p l=k:=by
 unfold fM
 rw [(PtD.WS hk h).2 hn]
theorem fO {α:Type} [Inhabited α] {p:α→Bool} {l:List α} (h:∀ j,j<l.length→p (l.getD j default)=false):fM p l=-1:=by
 unfold fM
 rw [PK h]
theorem xG {α:Type} [Inhabited α] {p:α→Bool} {l:List α}:decide (0≤fM p l)=l.any p:=by
 rw [← PtD.TK]
 unfold fM
 cases PtD.idx p l 0<;>simp
theorem aB.row {w:World} {α:Type} [Inhabited α] {f:α→List Value} {xs:List α} {b o cap sz n:Nat} (h:aB w (.slice (some ⟨b,o,none⟩) n cap) sz (xs.map f)) {k:Nat} (hk:k<xs.length):w.rangeAt b (o + k * sz) (f (xs.getD k default)):=by
 obtain ⟨⟨p,cap,e,hp⟩,hl⟩:=h
 cases e
 obtain ⟨b,off,e,hr⟩:=hp (by intro e;rw [List.map_eq_nil_iff] at e;subst e;simp at hk)
 cases e
 refine hr k _ ?_
 rw [List.getElem?_map,List.getD_eq_getElem?_getD,List.getElem?_eq_getElem hk]
 rfl
theorem aB.opened {w:World} {α:Type} {f:α→List Value} {xs:List α} {v:Value} {sz:Nat} (h:aB w v sz (xs.map f)):∃ p cap,v=.slice p xs.length cap∧(xs ≠ []→∃ b o,p=some ⟨b,o,none⟩)∧xs.length≤281474976710656:=by
 obtain ⟨⟨p,cap,rfl,hp⟩,hl⟩:=h
 rw [List.length_map] at *
 refine ⟨p,cap,rfl,fun hne=>?_,hl⟩
 obtain ⟨b,o,rfl,_⟩:=hp (by simpa using hne)
 exact ⟨b,o,rfl⟩
def Here (hn:Hp) (w:World):Prop:=∀ e∈hn,w.heap[e.b]?=some (.cells e.cs e.t (0,0))
theorem Good.lie {w0 w:World} {mu:List Nat} {hp hn:Hp} (hG:Good w0 mu hp w) (hm:∀ e∈hn,e∈hp):Here hn w:=fun e he=>hG.here e (hm e he)
theorem Here.sub {hn hm:Hp} {w:World} (h:Here hn w) (hs:∀ e∈hm,e∈hn):Here hm w:=fun e he=>h e (hs e he)
theorem Acc.lie {e sz:Nat} {v:Value} {ha:Hp} {xs:List (List Value)} {w:World} (hA:Acc e sz v ha xs) (h:Here ha w) (hle:xs.length≤281474976710656):aB w v sz xs:=by
 rcases hA.2 with ⟨rfl,rfl,rfl⟩ | ⟨hne,g,cap,cur,rfl,rfl,hrow⟩
 ·exact ⟨⟨none,0,rfl,fun h=>absurd rfl h⟩,hle⟩
 ·refine ⟨⟨_,_,rfl,fun _=>⟨g,0,rfl,fun i c hc j u hj=>?_⟩⟩,hle⟩
  have hb:=h _ (List.mem_singleton.2 rfl)
  rw [cell_of_block hb]
  have hcl:=(hA.1 c (List.mem_of_getElem? hc)).1
  have hi:i<xs.length:=(List.getElem?_eq_some_iff.1 hc).1
  have hjl:j<sz:=by rw [← hcl];exact (List.getElem?_eq_some_iff.1 hj).1
  have hf:=kZ (fun c hc=>(hA.1 c hc).1) hc
  rw [← hrow.take] at hf
  have hle:i * sz + j<xs.length * sz:=by
   calc i * sz + j<i * sz + sz:=by omega
    _=(i + 1) * sz:=by rw [Nat.succ_mul]
    _≤_:=Nat.mul_le_mul_right _ hi
  rw [← hf,List.getElem?_take,if_pos hjl,List.getElem?_drop,List.getElem?_take,if_pos hle] at hj
  rw [Nat.zero_add]
  simpa using hj
theorem dL {w:World} {b t cap sz:Nat} {xs:List (List Value)} (h:w.heap[b]?=some (.cells xs.flatten.toArray t (0,0))) (hs:∀ c∈xs,c.length=sz) (hle:xs.length≤281474976710656):aB w (.slice (some ⟨b,0,none⟩) xs.length cap) sz xs:=by
 refine ⟨⟨_,_,rfl,fun _=>⟨b,0,rfl,fun i c hc j u hj=>?_⟩⟩,hle⟩
 rw [cell_of_block h]
 have hf:=kZ hs hc
 have hcl:=hs c (List.mem_of_getElem? hc)
 have hjl:j<sz:=by rw [← hcl];exact (List.getElem?_eq_some_iff.1 hj).1
 rw [← hf,List.getElem?_take,if_pos hjl,List.getElem?_drop] at hj
 rw [Nat.zero_add]
 simpa using hj
theorem CZ (zl:List Value) (n sz:Nat) (hs:zl.length=sz) (h0:0<sz):madeCells zl.toArray (n * sz)=((List.replicate n zl).flatten).toArray:=by
 have h:=IQ zl.toArray (by simpa [hs] using h0) n
 have e:∀ n,rep zl n=(List.replicate n zl).flatten:=by
  intro n
  induction n with
  | zero=>rfl
  | succ n ih=>rw [rep,ih,List.replicate_succ',List.flatten_append];simp
 rw [← e]
 simpa [madeCells,hs] using h
end
section
theorem AA:∀ (vs:List Value) (cs:Array Value) (o:Nat),(putAt cs o vs).size=cs.size:=by
 intro vs
 induction vs with
 | nil=>intro cs o;rfl
 | cons v r ih=>intro cs o;rw [putAt,ih];simp
theorem AB:∀ (vs:List Value) (cs:Array Value) (o:Nat),o + vs.length≤cs.size→(putAt cs o vs).toList=cs.toList.take o++vs++cs.toList.drop (o + vs.length):=by
 intro vs
 induction vs with
 | nil=>intro cs o h;simp [putAt]
 | cons v r ih=>
  intro cs o h
  simp only [List.length_cons] at h
  rw [putAt,ih _ _ aw0]
  simp only [Array.toList_setIfInBounds]
  have ho:o<cs.toList.length:=by simp;omega
  have h1:(cs.toList.take o).length=o:=by simp;omega
  rw [List.set_eq_take_append_cons_drop,if_pos ho,List.take_append,List.drop_append,h1]
  have e1:o + 1 - o=1:=by omega
  have e2:o + 1 + r.length - o=r.length + 1:=by omega
  rw [e1,e2,List.take_of_length_le (show (cs.toList.take o).length≤o + 1 by omega),List.drop_eq_nil_of_le (show (cs.toList.take o).length≤o + 1 + r.length by omega)]
  simp only [List.take_succ_cons,List.take_zero,List.nil_append,List.drop_succ_cons,List.drop_drop,List.append_assoc,List.cons_append,List.length_cons]
  rw [show o + 1 + r.length=o + (r.length + 1) by omega]
theorem dI {α:Type} {sz:Nat}:∀ (xs:List (List α)),(∀ c∈xs,c.length=sz)→xs.flatten.length=xs.length * sz:=by
 intro xs
 induction xs with
 | nil=>intro _;simp
 | cons x r ih=>
  intro h
  rw [List.flatten_cons,List.length_append,ih (fun c hc=>h c (List.mem_cons_of_mem _ hc)),h x (List.mem_cons_self ..),List.length_cons,Nat.succ_mul,Nat.add_comm]
theorem Row.nth {g cap sz n:Nat} {cur:Array Value} {xs:List (List Value)} (h:Row g cap cur sz n xs.flatten) (hall:∀ c∈xs,c.length=sz) {i k:Nat} {c:List Value} {u:Value} (hi:xs[i]?=some c) (hk:c[k]?=some u):Proofs.YtndklbjnofdgeaaGreat.nth cur.toList (i * sz + k)=some u:=by
 refine IZ (n:=sz) (c:=c) ?_ hk
 have hf:=kZ hall hi
 rw [← h.take] at hf
 have hlt:i<xs.length:=(List.getElem?_eq_some_iff.1 hi).1
 have hn:xs.length * sz=n * sz:=by rw [← dI xs hall,h.len]
 have hle:i * sz + sz≤n * sz:=by rw [← hn,← Nat.succ_mul];exact Nat.mul_le_mul_right _ hlt
 rw [List.drop_take,List.take_take,Nat.min_eq_left au'] at hf
 exact hf
theorem Row.put {g cap sz n:Nat} {cur:Array Value} {xs:List (List Value)} (h:Row g cap cur sz n xs.flatten) (hall:∀ c∈xs,c.length=sz) {i k:Nat} {c vs:List Value} (hi:xs[i]?=some c) (hk:k + vs.length≤sz):
  Row g cap (putAt cur (i * sz + k) vs) sz n (xs.set i (c.take k++vs++c.drop (k + vs.length))).flatten:=by
 have hlt:i<xs.length:=(List.getElem?_eq_some_iff.1 hi).1
 have hc:xs[i]=c:=(List.getElem?_eq_some_iff.1 hi).2
 have hcl:c.length=sz:=hall c (List.mem_of_getElem? hi)
 have hn:xs.length * sz=n * sz:=by rw [← dI xs hall,h.len]
 have hle:i * sz + sz≤n * sz:=by rw [← hn,← Nat.succ_mul];exact Nat.mul_le_mul_right _ hlt
 have hcap:n * sz≤cap * sz:=Nat.mul_le_mul_right _ h.le
 have hsz:=h.size
 have hxs:xs=xs.take i++c::xs.drop (i + 1):=by
  rw [← hc];simp
 have hset:xs.set i (c.take k++vs++c.drop (k + vs.length))=xs.take i++(c.take k++vs++c.drop (k + vs.length))::xs.drop (i + 1):=by
  rw [List.set_eq_take_append_cons_drop,if_pos hlt]
 have hA:((xs.take i).flatten).length=i * sz:=by
  rw [dI (xs.take i) (fun c hc=>hall c (List.mem_of_mem_take hc)),List.length_take,Nat.min_eq_left au']
 have TL:cur.toList=(xs.take i).flatten++(c++((xs.drop (i + 1)).flatten++cur.toList.drop (n * sz))):=by
  have h1:=List.take_append_drop (n * sz) cur.toList
  rw [h.take] at h1
  conv=>lhs;rw [← h1,hxs]
  rw [List.flatten_append,List.flatten_cons,List.append_assoc,List.append_assoc]
 have hfl:(xs.set i (c.take k++vs++c.drop (k + vs.length))).flatten=(xs.take i).flatten++((c.take k++vs++c.drop (k + vs.length))++(xs.drop (i + 1)).flatten):=by
  rw [hset,List.flatten_append,List.flatten_cons]
 have hdl:((xs.drop (i + 1)).flatten).length=n * sz - (i * sz + sz):=by
  rw [dI (xs.drop (i + 1)) (fun c hc=>hall c (List.mem_of_mem_drop hc)),List.length_drop,Nat.sub_mul,hn,Nat.succ_mul]
 refine ⟨?_,h.le,h.max,by rw [AA];exact hsz,?_⟩
 ·rw [hfl]
  simp only [List.length_append,hA,hdl,List.length_take,List.length_drop,hcl]
  omega
 ·rw [AB _ _ _ au',hfl]
  conv=>lhs;rw [TL]
  have hB:(c++((xs.drop (i + 1)).flatten++cur.toList.drop (n * sz))).take k=c.take k:=by rw [List.take_append,show k - c.length=0 by omega];simp
  have hC:(c++((xs.drop (i + 1)).flatten++cur.toList.drop (n * sz))).drop (k + vs.length)=c.drop (k + vs.length)++((xs.drop (i + 1)).flatten++cur.toList.drop (n * sz)):=by rw [List.drop_append,show k + vs.length - c.length=0 by omega];simp
  have hT:((xs.take i).flatten++(c++((xs.drop (i + 1)).flatten++cur.toList.drop (n * sz)))).take (i * sz + k)=(xs.take i).flatten++c.take k:=by
   rw [List.take_append,hA,List.take_of_length_le au',show i * sz + k - i * sz=k by omega,hB]
  have hD:((xs.take i).flatten++(c++((xs.drop (i + 1)).flatten++cur.toList.drop (n * sz)))).drop (i * sz + k + vs.length)=c.drop (k + vs.length)++((xs.drop (i + 1)).flatten++cur.toList.drop (n * sz)):=by
   rw [List.drop_append,hA,List.drop_eq_nil_of_le au',show i * sz + k + vs.length - i * sz=k + vs.length by omega,hC];simp
  rw [hT,hD]
  have:(xs.take i).flatten++c.take k++vs++(c.drop (k + vs.length)++((xs.drop (i + 1)).flatten++cur.toList.drop (n * sz)))=((xs.take i).flatten++(c.take k++vs++c.drop (k + vs.length)++(xs.drop (i + 1)).flatten))++cur.toList.drop (n * sz):=by simp
  rw [this]
  refine List.take_left' ?_
  simp only [List.length_append,hA,hdl,List.length_take,List.length_drop,hcl]
  omega
open Classical in
noncomputable def Me (a e : aI) : Nat := if e = a then 1 else 0
noncomputable def mg (a : aI) : Hp → Nat
  | [] => 0
  | e :: r => Me a e + mg a r
theorem kK (a:aI):mg a []=0:=rfl
theorem bJ (a e:aI) (r:Hp):mg a (e::r)=Me a e + mg a r:=rfl
theorem dZ (a:aI):∀ (h r:Hp),mg a (h++r)=mg a h + mg a r:=by
 intro h
 induction h with
 | nil=>intro r;simp [mg]
 | cons e h ih=>intro r;rw [List.cons_append,bJ,bJ,ih];omega
theorem yK (a:aI):Me a a=1:=by simp [Me]
theorem Gu {a:aI}:∀ {h:Hp},0<mg a h→a∈h:=by
 intro h
 induction h with
 | nil=>intro h;simp [mg] at h
 | cons e r ih=>
  intro h
  by_cases he:e=a
  ·subst he;exact List.mem_cons_self ..
  ·rw [bJ,show Me a e=0 by simp [Me,he]] at h
   exact List.mem_cons_of_mem _ (ih au')
theorem Gv {a:aI}:∀ {h:Hp},a∈h→∃ r,(a::r).Perm h:=by
 intro h hm
 obtain ⟨s,t,rfl⟩:=List.append_of_mem hm
 exact ⟨s++t,List.perm_middle.symm⟩
theorem yL {a:aI} {h r:Hp} (hp:h.Perm r):mg a h=mg a r:=by
 induction hp with
 | nil=>rfl
 | cons x _ ih=>rw [bJ,bJ,ih]
 | swap x y l=>rw [bJ,bJ,bJ,bJ];omega
 | trans _ _ h1 h2=>rw [h1,h2]
theorem bU:∀ {r h:Hp},(∀ a,mg a r≤mg a h)→aF r h:=by
 intro r
 induction r with
 | nil=>intros;trivial
 | cons e r ih=>
  intro h hc
  have h1:=hc e
  rw [bJ,yK] at h1
  obtain ⟨h',hp⟩:=Gv (Gu (a:=e) (h:=h) au')
  refine ⟨h',hp,ih fun a=>?_⟩
  have h2:=hc a
  rw [← yL hp,bJ,bJ] at h2
  omega
theorem aF.cnt {r h:Hp} (hl:aF r h) (a:aI):mg a r≤mg a h:=by
 obtain ⟨x,hx⟩:=hl.perm
 have:=yL (a:=a) hx
 rw [dZ] at this
 omega
theorem PL:∀ {r h:Hp},(∀ a,mg a r=mg a h)→r.Perm h:=by
 intro r
 induction r with
 | nil=>
  intro h hc
  cases h with
  | nil=>exact .refl _
  | cons e h=>have:=hc e;rw [bJ,yK,kK] at this;omega
 | cons e r ih=>
  intro h hc
  have h1:=hc e
  rw [bJ,yK] at h1
  obtain ⟨h',hp⟩:=Gv (Gu (a:=e) (h:=h) au')
  refine ((ih fun a=>?_).cons e).trans hp
  have h2:=hc a
  rw [← yL hp,bJ,bJ] at h2
  omega
theorem au {p:Prop} (h:p:=by (refine PL fun a=>?_;simp only [dZ,bJ,kK]<;>omega)):p:=h
theorem ak {p:Prop} (h:p:=by (refine bU fun a=>?_;simp only [dZ,bJ,kK]<;>omega)):p:=h
theorem cnt1 {r h:Hp} {p:Prop} (hle:aF r h) (k:aF r h→p:=by (intro hle1;refine bU fun a=>?_;have:=aF.cnt hle1 a;simp only [dZ,bJ,kK] at *;omega)):p:=k hle
def Own (e:TypeId) (sz:Nat) (v:Value) (h:Hp) (xs:List (List Value)):Prop:=
 (∀ c∈xs,c.length=sz∧c.all (·.oneCell')=true)∧((xs=[]∧v=.slice none 0 0∧h=[])∨∃ g cap cur,v=.slice (some ⟨g,0,none⟩) xs.length cap∧h=[⟨g,cur,e⟩]∧Row g cap cur sz xs.length xs.flatten)
theorem Acc.own {e sz:Nat} {v:Value} {h:Hp} {xs:List (List Value)} (hA:Acc e sz v h xs):Own e sz v h xs:=⟨hA.1,hA.2.imp id fun h=>h.2⟩
theorem Own.opened {e sz:Nat} {v:Value} {h:Hp} {xs:List (List Value)} (hA:Own e sz v h xs):∃ p cap,v=.slice p xs.length cap:=by
 rcases hA.2 with ⟨rfl,rfl,rfl⟩ | ⟨g,cap,cur,rfl,rfl,hrow⟩
 ·exact ⟨_,_,rfl⟩
 ·exact ⟨_,_,rfl⟩
theorem Row.range {g cap cur sz n t} {w:World} {xs:List (List Value)} (h:Row g cap cur sz n xs.flatten) (hall:∀ c∈xs,c.length=sz) (hb:w.heap[g]?=some (.cells cur t (0,0))) {i:Nat} {c:List Value} (hi:xs[i]?=some c):w.rangeAt g (0 + i * sz) c:=by
 intro j u hj
 rw [Nat.zero_add,cell_of_block hb]
 have:=h.nth hall hi hj
 rw [pX] at this
 simpa using this
theorem Own.lie {e sz:Nat} {v:Value} {h:Hp} {xs:List (List Value)} {w:World} (hA:Own e sz v h xs) (hh:Here h w) (hle:xs.length≤281474976710656):aB w v sz xs:=by
 rcases hA.2 with ⟨rfl,rfl,rfl⟩ | ⟨g,cap,cur,rfl,rfl,hrow⟩
 ·exact ⟨⟨none,0,rfl,fun h=>absurd rfl h⟩,hle⟩
 ·exact ⟨⟨_,_,rfl,fun _=>⟨g,0,rfl,fun i c hc=>hrow.range (fun c hc=>(hA.1 c hc).1) (hh _ (List.mem_singleton.2 rfl)) hc⟩⟩,hle⟩
theorem vM {w:World} {b sz:Nat}:∀ (xs:List (List Value)) (o:Nat),(∀ c∈xs,c.length=sz)→(∀ i c,xs[i]?=some c→w.rangeAt b (o + i * sz) c)→w.rangeAt b o xs.flatten:=by
 intro xs
 induction xs with
 | nil=>intro o _ _ j v hj;simp at hj
 | cons x r ih=>
  intro o hs h j v hj
  have hx:=hs x (List.mem_cons_self ..)
  rw [List.flatten_cons] at hj
  rcases Nat.lt_or_ge j x.length with hlt | hge
  ·rw [List.getElem?_append_left hlt] at hj
   have:=h 0 x rfl j v hj
   simpa using this
  ·rw [List.getElem?_append_right hge] at hj
   have:=ih (o + sz) (fun c hc=>hs c (List.mem_cons_of_mem _ hc)) (fun i c hc=>by
    have:=h (i + 1) c aA0
    rwa [Nat.succ_mul,show o + (i * sz + sz)=o + sz + i * sz by omega] at this) (j - x.length) v hj
   rwa [show o + sz + (j - x.length)=o + j by omega] at this
section
variable {P : Program} {T : Tab} {n : Nat} {w0 : World} {mu : List Nat} {l : Fm} {hp : Hp} {dd : Option Tmp} {ty : TypeId} {pos : String} {af : Array Edge} {gg : Option (Nat × Bool)} {Q : Exit → Fm → Hp → Prop} {all : Array Oper} {rest : List Oper}
theorem yM (ok:bf P T) {t e sz jG k cap c:Nat} {q:Addr} {p:Option Addr} {x y:Operand} (hx:ev l x=some (.slice (some q) k cap)) (hy:ev l y=some (.slice p 0 c)) (ht:lk T.sl t=some (e,sz)) (hk:k≤cap):
  Hy P n w0 mu l hp ⟨dd,.call { callee:=.builtin .append,args:=#[x,y],argTypes:=#[t,t] },ty,pos,af,gg⟩ (.slice (some q) k cap):=by
 obtain ⟨hu,hsz⟩:=ok.zI ht
 refine bz fun a w hk' _=>?_
 have hst:∀ q:Addr,(storeCells q []).run P w=.ok () w:=fun q=>by simp [storeCells]
 have hf:(Builtin.firstCells sz 0 (.slice p 0 c)).run P w=.ok #[] w:=by
  cases p with
  | none=>simp [Builtin.firstCells]
  | some b=>exact run_firstCells_some (P:=P) w sz 0 b 0 c [] av4 av4
 simp only [execOp,resolve,invoke,builtin,Sem.run_bind,Sem.run_pure,Result.andThen_ok,List.map_toArray,List.map_cons,List.map_nil,hk'.ev hx,hk'.ev hy]
 simp [Builtin.append_,run_underlying hu,run_sizeOf hsz w,Builtin.lenOf,hk,hf,hst]
theorem MB (ok:bf P T) {t d e sz jG cc a:Nat} {x y:Operand} {z v:Value} {c:List Value} {ha hp':Hp} {xs:List (List Value)} (hA:Own e sz v ha xs) (hd:Nat.blt d n=true) (hx:ev l x=some v) (hy:ev l y=some (.slice (some ⟨a,0,none⟩) 1 cc)) (ht:lk T.sl t=some (e,sz))
  (hz:lk T.zs e=some z) (hzs:z.cells.size=sz) (hb:lk T.eb e=some jG) (hby:Nat.ble jG 4096=true) (hperm:(ha++hp').Perm hp) (hl:c.length=sz) (hnews:lJ w0 mu hp a 0 c) (h1:c.all (·.oneCell')=true) (h63:xs.length<1000000)
  (h:∀ v' ha',Own e sz v' ha' (xs++[c])→Ops P n w0 mu all rest ((d,v')::l) (ha'++hp') Q):Ops P n w0 mu all (⟨some d,.call { callee:=.builtin .append,args:=#[x,y],argTypes:=#[t,t] },ty,pos,af,none⟩::rest) l hp Q:=by
 have vC:jG≤4096:=Nat.le_of_ble_eq_true hby
 have hall:∀ c'∈xs++[c],c'.length=sz∧c'.all (·.oneCell')=true:=by
  intro c' hc'
  rcases List.mem_append.1 hc' with hc' | hc'
  ·exact hA.1 c' hc'
  ·obtain rfl:=List.mem_singleton.1 hc';exact ⟨hl,h1⟩
 rcases hA.2 with ⟨rfl,rfl,rfl⟩ | ⟨g,cap,cur,rfl,rfl,hrow⟩
 ·refine yF ok hd hx hy ht hz hzs hb au' az0 hnews au' au' fun g cap cur hr=>?_
  have:=h (.slice (some ⟨g,0,none⟩) 1 cap) [⟨g,cur,e⟩] ⟨hall,.inr ⟨g,cap,cur,rfl,rfl,by simpa using hr⟩⟩
  refine jr _ ?_ this
  exact (hperm.cons _:(⟨g,cur,e⟩::([]++hp')).Perm (⟨g,cur,e⟩::hp))
 ·refine qC ok hd hx hy ht hz hzs hb hperm hrow az0 hnews h1 au' ?_ fun g cap cur hr=>?_
  ·have h2:(xs.length + 1 + (xs.length + 1) / 4 + 192)≤2000000:=by omega
   calc _≤2000000 * jG:=Nat.mul_le_mul_right _ h2
    _≤2000000 * 4096:=Nat.mul_le_mul_left _ vC
    _≤_:=by decide
  ·have:=h (.slice (some ⟨g,0,none⟩) (xs.length + 1) cap) [⟨g,cur,e⟩] ⟨hall,.inr ⟨g,cap,cur,by simp,rfl,by simpa using hr⟩⟩
   exact this
theorem uo (ok:bf P T) {t d e sz jG g cap a o m cc:Nat} {cur:Array Value} {x y:Operand} {z:Value} {hp':Hp} {xs:List (List Value)} (hd:Nat.blt d n=true) (hx:ev l x=some (.slice (some ⟨g,0,none⟩) 0 cap)) (hg:Row g cap cur sz 0 []) (hy:ev l y=some (.slice (some ⟨a,o,none⟩) m cc)) (ht:lk T.sl t=some (e,sz))
  (hz:lk T.zs e=some z) (hzs:z.cells.size=sz) (hb:lk T.eb e=some jG) (hby:Nat.ble jG 4096=true) (hperm:(⟨g,cur,e⟩::hp').Perm hp) (hm:m=xs.length) (hall:∀ c∈xs,c.length=sz∧c.all (·.oneCell')=true) (hr:∀ i c,xs[i]?=some c→w0.rangeAt a (o + i * sz) c) (hmu:a ∉ mu) (h63:xs.length<1000000)
  (h:∀ v' ha',Own e sz v' ha' xs→Ops P n w0 mu all rest ((d,v')::l) (ha'++hp') Q):Ops P n w0 mu all (⟨some d,.call { callee:=.builtin .append,args:=#[x,y],argTypes:=#[t,t] },ty,pos,af,none⟩::rest) l hp Q:=by
 have vC:jG≤4096:=Nat.le_of_ble_eq_true hby
 have hfl:=dI xs (fun c hc=>(hall c hc).1)
 refine qC ok hd hx hy ht hz hzs hb hperm hg (news:=xs.flatten) (by rw [hm,hfl]) (Gh (vM xs o (fun c hc=>(hall c hc).1) hr) hmu) ?_ au' ?_ fun g cap cur hr=>?_
 ·rw [List.all_flatten,List.all_eq_true]
  exact fun c hc=>(hall c hc).2
 ·have h2:(0 + m + (0 + m) / 4 + 192)≤2000000:=by omega
  calc _≤2000000 * jG:=Nat.mul_le_mul_right _ h2
   _≤2000000 * 4096:=Nat.mul_le_mul_left _ vC
   _≤_:=by decide
 ·rw [Nat.zero_add,List.nil_append,hm] at hr
  have:=h (.slice (some ⟨g,0,none⟩) xs.length cap) [⟨g,cur,e⟩] ⟨hall,.inr ⟨g,cap,cur,rfl,rfl,hr⟩⟩
  rw [Nat.zero_add,hm]
  exact this
theorem yN (ok:bf P T) {t d e sz:Nat} (hd:Nat.blt d n=true) (ht:lk T.sl t=some (e,sz)) (h:∀ b,Ops P n w0 mu all rest ((d,.slice (some ⟨b,0,none⟩) 0 0)::l) (⟨b,#[],e⟩::hp) Q):Ops P n w0 mu all (⟨some d,.buildSlice t 0 #[],ty,pos,af,none⟩::rest) l hp Q:=by
 refine zJ (b:=0) rfl hd #[] e rfl (fun b=>.slice (some ⟨b,0,none⟩) 0 0) (fun a w hk _=>?_) h
 obtain ⟨hu,hs⟩:=ok.zI ht
 simp [execOp,Instr.buildSlice,run_underlying hu w,run_sizeOf hs w,Instr.fill,go_sem]
theorem Jd (ok:bf P T) {t u e sz m c:Nat} {p:Option Addr} {x:Operand} (hx:ev l x=some (.slice p m c)) (ht:lk T.sl t=some (e,sz)):Hy P n w0 mu l hp ⟨dd,.binOp .eql t x (.const (.slice none 0 0)) u,ty,pos,af,gg⟩ (.bool p.isNone):=by
 obtain ⟨hu,hsz⟩:=ok.zI ht
 refine bz fun a w hk' _=>?_
 have h1:=Lib.run_eql_slice_nil (P:=P) w t e p m c 0 0 hu
 have h2:=hk'.ev hx
 have h3:a.eval (.const (.slice none 0 0))=.slice none 0 0:=rfl
 simp only [execOp,h2,h3]
 cases p<;>simp [eqGuard,h1]
theorem YU {hh:Hp} {t u:TypeId} {x y:Operand} {p q:Int} (hx:ev l x=some (.int .i64 p)) (hy:ev l y=some (.int .i64 q)) (hp:0≤p) (hq:0<q):Hy P n w0 mu l hh ⟨dd,.binOp .rem t x y u,ty,pos,af,gg⟩ (.int .i64 (p % q)):=
 bz fun ac w hk _=>by
  have h1:p.tmod q=p % q:=Int.tmod_eq_emod_of_nonneg hp
  have h2:¬ (q=0):=by omega
  simp only [execOp,hk.ev hx,hk.ev hy]
  simp [eqGuard_rem,binOp_rem,Op.intDiv,h1,h2]
end
end
section
section
variable {P : Program} {T : Tab} {n : Nat} {w0 : World} {mu : List Nat} {l : Fm} {hp : Hp} {dd : Option Tmp} {ty : TypeId} {pos : String} {af : Array Edge} {gg : Option (Nat × Bool)} {Q : Exit → Fm → Hp → Prop} {all : Array Oper} {rest : List Oper}
theorem mV {t e:TypeId} (hu:P.underlying t=some (.slice e)):P.underlying t=some (.slice (P.elem t)):=by
 have:P.elem t=e:=by simp [Program.elem,hu]
 rw [this];exact hu
theorem mD {b off k:Nat}:(⟨b,off,none⟩:Addr).add k=⟨b,off + k,none⟩:=Addr.add_lit ..
theorem C9 (ok:bf P T) {t e sz b off m cap:Nat} {kl kh:IntKind} {x lo hi:Operand} {i j:Int} {o' m' c':Nat} (hx:ev l x=some (.slice (some ⟨b,off,none⟩) m cap)) (hlo:ev l lo=some (.int kl i)) (hhi:ev l hi=some (.int kh j)) (ht:lk T.sl t=some (e,sz))
  (h0:0≤i) (h1:i≤j) (h2:j≤cap) (h3:i<cap) (ho:off + i.toNat * sz=o') (hm:j.toNat - i.toNat=m') (hc:cap - i.toNat=c'):
  Hy P n w0 mu l hp ⟨dd,.slice t x (some lo) (some hi) none,ty,pos,af,gg⟩ (.slice (some ⟨b,o',none⟩) m' c'):=by
 obtain ⟨hu,hsz⟩:=ok.zI ht
 subst ho hm hc
 refine bz fun a w hk _=>?_
 have he:P.elem t=e:=by simp [Program.elem,hu]
 have hs:=run_sizeOf hsz w
 have hne:¬ (cap=i.toNat):=by omega
 simp only [execOp,Option.map_some,Option.map_none,hk.ev hx,hk.ev hlo,hk.ev hhi]
 simp only [Sem.run_bind]
 rw [run_sliceAt_slice (w:=w) t _ _ _ _ (mV hu),run_slice_lh (w:=w) t _ m cap (mV hu) kl kh i j h0 h1 h2,he,hs]
 simp [sliced,hne,mD]
theorem xH (ok:bf P T) {t e sz m cap:Nat} {p:Option Addr} {kh:IntKind} {x hi:Operand} {j:Int} {m':Nat} (hx:ev l x=some (.slice p m cap)) (hhi:ev l hi=some (.int kh j)) (ht:lk T.sl t=some (e,sz))
  (h0:0≤j) (h2:j≤cap) (hm:j.toNat=m') (hp0:p=none∨∃ b off,p=some ⟨b,off,none⟩):
  Hy P n w0 mu l hp ⟨dd,.slice t x none (some hi) none,ty,pos,af,gg⟩ (.slice p m' cap):=by
 obtain ⟨hu,hsz⟩:=ok.zI ht
 subst hm
 refine bz fun a w hk _=>?_
 have he:P.elem t=e:=by simp [Program.elem,hu]
 have hs:=run_sizeOf hsz w
 simp only [execOp,Option.map_some,Option.map_none,hk.ev hx,hk.ev hhi]
 simp only [Sem.run_bind]
 rw [run_sliceAt_slice (w:=w) t _ _ _ _ (mV hu),run_slice_h (w:=w) t _ m cap (mV hu) kh j h0 h2,he,hs]
 rcases hp0 with rfl | ⟨b,off,rfl⟩
 ·simp [sliced]
 ·simp [sliced,mD]
theorem PM (ok:bf P T) {t e sz b off m cap:Nat} {kl:IntKind} {x lo:Operand} {i:Int} {o' m' c':Nat} (hx:ev l x=some (.slice (some ⟨b,off,none⟩) m cap)) (hlo:ev l lo=some (.int kl i)) (ht:lk T.sl t=some (e,sz))
  (h0:0≤i) (h1:i≤m) (h3:i<cap) (ho:off + i.toNat * sz=o') (hm:m - i.toNat=m') (hc:cap - i.toNat=c'):
  Hy P n w0 mu l hp ⟨dd,.slice t x (some lo) none none,ty,pos,af,gg⟩ (.slice (some ⟨b,o',none⟩) m' c'):=by
 obtain ⟨hu,hsz⟩:=ok.zI ht
 subst ho hm hc
 refine bz fun a w hk _=>?_
 have he:P.elem t=e:=by simp [Program.elem,hu]
 have hs:=run_sizeOf hsz w
 have hne:¬ (cap=i.toNat):=by omega
 simp only [execOp,Option.map_some,Option.map_none,hk.ev hx,hk.ev hlo]
 simp only [Sem.run_bind]
 rw [run_sliceAt_slice (w:=w) t _ _ _ _ (mV hu),run_slice_l (w:=w) t _ m cap (mV hu) kl i h0 h1,he,hs]
 simp [sliced,hne,mD]
theorem Dc (ok:bf P T) {t e sz m cap:Nat} {p:Option Addr} {kl:IntKind} {x lo:Operand} {i:Int} (hx:ev l x=some (.slice p m cap)) (hlo:ev l lo=some (.int kl i)) (ht:lk T.sl t=some (e,sz))
  (h0:0≤i) (h1:i≤m):Hy P n w0 mu l hp ⟨dd,.slice t x (some lo) none none,ty,pos,af,gg⟩ (sliced p i.toNat m cap sz):=by
 obtain ⟨hu,hsz⟩:=ok.zI ht
 refine bz fun a w hk _=>?_
 have he:P.elem t=e:=by simp [Program.elem,hu]
 have hs:=run_sizeOf hsz w
 simp only [execOp,Option.map_some,Option.map_none,hk.ev hx,hk.ev hlo]
 simp only [Sem.run_bind]
 rw [run_sliceAt_slice (w:=w) t _ _ _ _ (mV hu),run_slice_l (w:=w) t _ m cap (mV hu) kl i h0 h1,he,hs]
 simp
end
end
section
section
variable {P : Program} {T : Tab} {n : Nat} {w0 : World} {mu : List Nat} {l : Fm} {hp : Hp} {dd : Option Tmp} {ty : TypeId} {pos : String} {af : Array Edge} {gg : Option (Nat × Bool)} {Q : Exit → Fm → Hp → Prop} {all : Array Oper} {rest : List Oper}
theorem Df (ok : bf P T) {lf : Fm} {t len e sz : Nat} {z : Value} {ps : List (Nat × Operand)} {vs : List (Nat × Value)} {zl : List Value} {out : Array Value} {out' : List Value} (ht : lk T.sl t = some (e, sz)) (hz : lk T.zs e = some z) (hzc : z.cells = zl.toArray) (hzs : Nat.beq zl.length sz = true) (hpos : (Nat.blt 0 (len * sz) && Nat.ble (len * sz) 16777216) = true) (hv : FQ lf ps = some vs) (hf : VE sz (rep zl len).toArray vs = some out) (hn : out = out'.toArray) :
    wL P n w0 mu all lf hp ⟨dd, .buildSlice t len ps.toArray, ty, pos, af, none⟩ (fun v hn => ∃ b, v = .slice (some ⟨b, 0, none⟩) len len ∧ hn = [⟨b, out'.toArray, e⟩]) := by
  subst hn
  have hzs' : zl.length = sz := by simpa using hzs
  rw [Bool.and_eq_true] at hpos
  obtain ⟨hp1, hp2⟩ := hpos
  replace hp1 : 0 < len * sz := by simpa using hp1
  replace hp2 : len * sz ≤ 16777216 := Nat.le_of_ble_eq_true hp2
  have hsp : 0 < sz := by rcases Nat.eq_zero_or_pos sz with h | h; · rw [h] at hp1; simp at hp1
                          · exact h
  refine Em (F := fun b => .slice (some ⟨b, 0, none⟩) len len) rfl _ _ fun a w hk => ?_
  have e1 : (ps.toArray.map fun x => (x.1, a.eval x.2)) = vs.toArray := by rw [← hk.FQ hv]; simp
  obtain ⟨hu, hs⟩ := ok.zI ht
  have hr := IQ z.cells (by rw [hzc]; simpa [hzs'] using hsp) len
  have hsz : z.cells.size = sz := by rw [hzc]; simpa using hzs'
  rw [hsz] at hr
  simp only [execOp, Instr.buildSlice, Sem.run_bind, run_underlying hu w, Result.andThen_ok, run_sizeOf hs w, e1]
  rw [if_neg au']
  simp only [Sem.run_bind, Sem.run_pure, Result.andThen_ok, if_neg (show ¬ len * sz = 0 by omega), wX (ok.LK hz) w, hsz, hr]
  rw [show z.cells.toList = zl by rw [hzc]]
  simp only [List.toList_toArray, F9 _ _ _ _ hf]
  simp [go_sem]
end
end
section
attribute [local irreducible] Hy St Ops DH gB
theorem Own.row {e sz n:Nat} {v:Value} {h:Hp} {xs:List (List Value)} (hA:Own e sz v h xs) (hn:xs.length=n) (h0:0<n):∃ g cap cur,v=.slice (some ⟨g,0,none⟩) n cap∧h=[⟨g,cur,e⟩]∧Row g cap cur sz n xs.flatten:=by
 rcases hA.2 with ⟨rfl,rfl,rfl⟩ | ⟨g,cap,cur,rfl,rfl,hrow⟩
 ·simp at hn;omega
 ·subst hn;exact ⟨g,cap,cur,rfl,rfl,hrow⟩
theorem fF {e sz:Nat} {xs:List (List Value)} (hall:∀ c∈xs,c.length=sz∧c.all (·.oneCell')=true) (hle:xs.length≤1000000):∃ v hn,Own e sz v hn xs:=by
 have hl:=dI xs (fun c hc=>(hall c hc).1)
 exact ⟨_,_,hall,.inr ⟨0,xs.length,xs.flatten.toArray,rfl,rfl,⟨hl,Nat.le_refl _,by unfold maxLen;omega,by rw [List.size_toArray];exact hl,by rw [← hl,List.take_length]⟩⟩⟩
theorem yO {xs:List Int}:∀ c∈xs.map dH,c.length=1∧c.all (·.oneCell')=true:=fun c hc=>by obtain ⟨x,_,rfl⟩:=List.mem_map.1 hc;exact ⟨rfl,rfl⟩
theorem Row.cut {g cap sz n:Nat} {cur:Array Value} {xs:List (List Value)} (h:Row g cap cur sz n xs.flatten) (hall:∀ c∈xs,c.length=sz) {i:Nat} {c:List Value} (hi:xs[i]?=some c):(cur.toList.drop (i * sz)).take sz=c:=by
 have hf:=kZ hall hi
 rw [← h.take] at hf
 have hlt:i<xs.length:=(List.getElem?_eq_some_iff.1 hi).1
 have hn:xs.length * sz=n * sz:=by rw [← dI xs hall,h.len]
 have hle:i * sz + sz≤n * sz:=by rw [← hn,← Nat.succ_mul];exact Nat.mul_le_mul_right _ hlt
 rwa [List.drop_take,List.take_take,Nat.min_eq_left au'] at hf
theorem xI {n:Nat} {w0:World} {mu:List Nat} {l:Fm} {hp:Hp} {Q:Exit→Fm→Hp→Prop} {all:Array Oper} {rest:List Oper} {ty:TypeId} {pos:String} {af:Array Edge} {t d e sz jG cc a:Nat} {x y:Operand} {z v:Value} {c:List Value} {ha:Hp} {xs:List (List Value)} (hp':Hp) (hA:Own e sz v ha xs) (h:∀ v' ha',Own e sz v' ha' (xs++[c])→Ops Tryz.prog n w0 mu all rest ((d,v')::l) (ha'++hp') Q) (h63:xs.length<1000000) (hnews:lJ w0 mu hp a 0 c)
  (hperm:(ha++hp').Perm hp) (hd:Nat.blt d n=true:=by rfl) (hx:ev l x=some v:=by rfl) (hy:ev l y=some (.slice (some ⟨a,0,none⟩) 1 cc):=by rfl) (ht:lk Tb.sl t=some (e,sz):=by rfl)
  (hz:lk Tb.zs e=some z:=by rfl) (hzs:z.cells.size=sz:=by rfl) (hb:lk Tb.eb e=some jG:=by rfl) (hby:Nat.ble jG 4096=true:=by rfl) (hl:c.length=sz:=by rfl) (h1:c.all (·.oneCell')=true:=by rfl):Ops Tryz.prog n w0 mu all (⟨some d,.call { callee:=.builtin .append,args:=#[x,y],argTypes:=#[t,t] },ty,pos,af,none⟩::rest) l hp Q:=
 MB ay hA hd hx hy ht hz hzs hb hby hperm hl hnews h1 h63 h
theorem Own.jS {e sz:Nat} {v:Value} {h:Hp} {xs:List (List Value)} (hA:Own e sz v h xs):∃ p cap,v=.slice p xs.length cap∧xs.length≤cap:=by
 rcases hA.2 with ⟨rfl,rfl,rfl⟩ | ⟨g,cap,cur,rfl,rfl,hrow⟩
 ·exact ⟨_,_,rfl,Nat.le_refl _⟩
 ·exact ⟨_,_,rfl,hrow.le⟩
theorem gI {α:Type} [Inhabited α] {xs:List α} {k:Nat} (h:k<xs.length):xs.take (k + 1)=xs.take k++[xs.getD k default]:=by
 rw [List.take_succ_eq_append_getElem h,List.getD_eq_getElem?_getD,List.getElem?_eq_getElem h];rfl
end
section
attribute [local irreducible] Hy St Ops DH gB
theorem Fn.some {P:Program} {f:FuncId} {args:Array Value} {w:World} {mu:List Nat} {R:Value→Hp→Prop} (h:Fn P f args w mu R):∃ v hp,R v hp:=by
 obtain ⟨e,w',fr,⟨v,hp,_,_,hr⟩,_⟩:=h []
 exact ⟨v,hp,hr⟩
section
variable {P : Program} {T : Tab} {n : Nat} {w0 : World} {mu : List Nat} {l : Fm} {dd : Option Nat} {ty : TypeId} {pos : String} {af : Array Edge} {gg : Option (Nat × Bool)}
end
section
variable {n : Nat} {w0 : World} {mu : List Nat} {l : Fm} {hp : Hp} {Q : Exit → Fm → Hp → Prop} {all : Array Oper} {rest : List Oper} {ty : TypeId} {pos : String} {af : Array Edge}
theorem uS {t d e sz jG m cc a:Nat} {x y:Operand} {z v:Value} {ha:Hp} {xs:List (List Value)} (ys:List (List Value)) (hp':Hp) (hA:Own e sz v ha xs) (h0:0<xs.length) (h:∀ v' ha',Own e sz v' ha' (xs++ys)→Ops Tryz.prog n w0 mu all rest ((d,v')::l) (ha'++hp') Q) (h63:xs.length + m<1000000) (hm:ys.length=m) (hall:∀ c∈ys,c.length=sz∧c.all (·.oneCell')=true) (hnews:lJ w0 mu hp a 0 ys.flatten)
  (hperm:(ha++hp').Perm hp) (hd:Nat.blt d n=true:=by rfl) (hx:ev l x=some v:=by rfl) (hy:ev l y=some (.slice (some ⟨a,0,none⟩) m cc):=by rfl) (ht:lk Tb.sl t=some (e,sz):=by rfl)
  (hz:lk Tb.zs e=some z:=by rfl) (hzs:z.cells.size=sz:=by rfl) (hb:lk Tb.eb e=some jG:=by rfl) (hby:Nat.ble jG 4096=true:=by rfl):Ops Tryz.prog n w0 mu all (⟨some d,.call { callee:=.builtin .append,args:=#[x,y],argTypes:=#[t,t] },ty,pos,af,none⟩::rest) l hp Q:=by
 have vC:jG≤4096:=Nat.le_of_ble_eq_true hby
 have hfl:=dI ys (fun c hc=>(hall c hc).1)
 rcases hA.2 with ⟨rfl,rfl,rfl⟩ | ⟨g,cap,cur,rfl,rfl,hrow⟩
 ·simp at h0
 ·refine qC ay hd hx hy ht hz hzs hb hperm hrow (news:=ys.flatten) (by rw [hfl,hm]) hnews ?_ au' ?_ fun g cap cur hr=>?_
  ·rw [List.all_flatten,List.all_eq_true]
   exact fun c hc=>(hall c hc).2
  ·have h2:(xs.length + m + (xs.length + m) / 4 + 192)≤2000000:=by omega
   calc _≤2000000 * jG:=Nat.mul_le_mul_right _ h2
    _≤2000000 * 4096:=Nat.mul_le_mul_left _ vC
    _≤_:=by decide
  ·have:=h (.slice (some ⟨g,0,none⟩) (xs.length + m) cap) [⟨g,cur,e⟩] ⟨fun c hc=>?_,.inr ⟨g,cap,cur,by rw [List.length_append,hm],rfl,by rw [List.length_append,hm,List.flatten_append];exact hr⟩⟩
   ·exact this
   ·rcases List.mem_append.1 hc with hc | hc
    ·exact hA.1 c hc
    ·exact hall c hc
end
section
variable {P : Program} {T : Tab} {n : Nat} {w0 : World} {mu : List Nat} {l : Fm} {hp : Hp} {dd : Option Nat} {ty : TypeId} {pos : String} {af : Array Edge} {gg : Option (Nat × Bool)} {t u : TypeId} {x y : Operand}
theorem kT {pi qi:Int} (hx:ev l x=some (.int .u64 pi)) (hy:ev l y=some (.int .u64 qi)) (p q:Nat) (hpi:pi=(p:Int)) (hqi:qi=(q:Int))  (h1:p<18446744073709551616) (h2:q<18446744073709551616):Hy P n w0 mu l hp ⟨dd,.binOp .and t x y u,ty,pos,af,gg⟩ (.int .u64 ((p &&& q:Nat):Int)):=
 bz fun ac w hk _=>by
  subst hpi hqi
  have:=u64_and_nat p q h1 h2
  simp only [execOp,hk.ev hx,hk.ev hy]
  simp [eqGuard_and,binOp_and,intBits_and,this]
theorem uu {pi qi:Int} (hx:ev l x=some (.int .u64 pi)) (hy:ev l y=some (.int .u64 qi)) (p q:Nat) (hpi:pi=(p:Int)) (hqi:qi=(q:Int))  (h1:p<18446744073709551616) (h2:q<18446744073709551616):Hy P n w0 mu l hp ⟨dd,.binOp .or t x y u,ty,pos,af,gg⟩ (.int .u64 ((p ||| q:Nat):Int)):=
 bz fun ac w hk _=>by
  subst hpi hqi
  have:=u64_or_nat p q h1 h2
  simp only [execOp,hk.ev hx,hk.ev hy]
  simp [eqGuard_or,binOp_or,intBits_or,this]
theorem oI {pi qi:Int} (hx:ev l x=some (.int .u64 pi)) (hy:ev l y=some (.int .u64 qi)) (p q:Nat) (hpi:pi=(p:Int)) (hqi:qi=(q:Int))  (h1:p<18446744073709551616) (h2:q<18446744073709551616):Hy P n w0 mu l hp ⟨dd,.binOp .andNot t x y u,ty,pos,af,gg⟩ (.int .u64 ((p &&& (18446744073709551615 - q):Nat):Int)):=
 bz fun ac w hk _=>by
  subst hpi hqi
  have:=u64_andNot_nat p q h1 h2
  simp only [execOp,hk.ev hx,hk.ev hy]
  simp [eqGuard_andNot,binOp_andNot,intBits_andNot,this]
theorem uw {ky:IntKind} {pi qi:Int} (hx:ev l x=some (.int .u64 pi)) (hy:ev l y=some (.int ky qi)) (p c:Nat) (hpi:pi=(p:Int)) (hqi:qi=(c:Int))  (h1:c≤64):Hy P n w0 mu l hp ⟨dd,.binOp .shr t x y u,ty,pos,af,gg⟩ (.int .u64 ((p >>> c:Nat):Int)):=
 bz fun ac w hk _=>by
  subst hpi hqi
  simp only [execOp,hk.ev hx,hk.ev hy]
  have e:(p:Int) / 2 ^ ((c:Int).toNat)=((p >>> c:Nat):Int):=by rw [Nat.shiftRight_eq_div_pow];simp
  simp [eqGuard_shr,binOp_shr,shift_shr_u64 (yk:=ky) (h₀:=Int.natCast_nonneg c) (h₁:=by omega)]
  simpa using e
theorem mF {ky:IntKind} {pi qi:Int} (hx:ev l x=some (.int .u64 pi)) (hy:ev l y=some (.int ky qi)) (p c:Nat) (hpi:pi=(p:Int)) (hqi:qi=(c:Int))  (h1:c≤64):Hy P n w0 mu l hp ⟨dd,.binOp .shl t x y u,ty,pos,af,gg⟩ (.int .u64 (((p <<< c) % 18446744073709551616:Nat):Int)):=
 bz fun ac w hk _=>by
  subst hpi hqi
  simp only [execOp,hk.ev hx,hk.ev hy]
  have e:IntKind.u64.wrap ((p:Int) * 2 ^ ((c:Int).toNat))=(((p <<< c) % 18446744073709551616:Nat):Int):=by rw [IntKind.wrap_u64,Nat.shiftLeft_eq];simp
  simp [eqGuard_shl,binOp_shl,shift_shl_u64 (yk:=ky) (h₀:=Int.natCast_nonneg c) (h₁:=by omega)]
  simpa using e
theorem PN {ky:IntKind} {pi qi:Int} (hx:ev l x=some (.int .i64 pi)) (hy:ev l y=some (.int ky qi)) (p c:Nat) (hpi:pi=(p:Int)) (hqi:qi=(c:Int))  (h1:c≤64):Hy P n w0 mu l hp ⟨dd,.binOp .shr t x y u,ty,pos,af,gg⟩ (.int .i64 ((p >>> c:Nat):Int)):=
 bz fun ac w hk _=>by
  subst hpi hqi
  simp only [execOp,hk.ev hx,hk.ev hy]
  have e:(p:Int) / 2 ^ ((c:Int).toNat)=((p >>> c:Nat):Int):=by rw [Nat.shiftRight_eq_div_pow];simp
  have hs:=shift_shr .i64 ky (p:Int) (c:Int) (Int.natCast_nonneg c) (by show (c:Int)≤64;omega)
  simp only [eqGuard_shr,binOp_shr,hs,e]
  simp
theorem yP {ky:IntKind} {pi qi:Int} (hx:ev l x=some (.int .i64 pi)) (hy:ev l y=some (.int ky qi)) (p c:Nat) (hpi:pi=(p:Int)) (hqi:qi=(c:Int))  (h1:c≤64) (hb:p <<< c<9223372036854775808):Hy P n w0 mu l hp ⟨dd,.binOp .shl t x y u,ty,pos,af,gg⟩ (.int .i64 ((p <<< c:Nat):Int)):=
 bz fun ac w hk _=>by
  subst hpi hqi
  simp only [execOp,hk.ev hx,hk.ev hy]
  have e:IntKind.i64.wrap ((p:Int) * 2 ^ ((c:Int).toNat))=((p <<< c:Nat):Int):=by
   have h2:(p:Int) * 2 ^ ((c:Int).toNat)=((p <<< c:Nat):Int):=by rw [Nat.shiftLeft_eq];simp
   rw [h2,IntKind.wrap_i64]
   generalize p <<< c=z at hb
   omega
  have hs:=shift_shl .i64 ky (p:Int) (c:Int) (Int.natCast_nonneg c) (by show (c:Int)≤64;omega)
  simp only [eqGuard_shl,binOp_shl,hs,e]
  simp
theorem fP {k:IntKind} {pi qi:Int} (hx:ev l x=some (.int k pi)) (hy:ev l y=some (.int k qi)) (p q:Nat) (hpi:pi=(p:Int)) (hqi:qi=(q:Int))  (hq:0<q):Hy P n w0 mu l hp ⟨dd,.binOp .rem t x y u,ty,pos,af,gg⟩ (.int k ((p % q:Nat):Int)):=
 bz fun ac w hk _=>by
  subst hpi hqi
  have h1:(p:Int).tmod q=((p % q:Nat):Int):=by rw [Int.tmod_eq_emod_of_nonneg au'];simp
  have h2:¬ (q=0):=by omega
  simp only [execOp,hk.ev hx,hk.ev hy]
  simp [eqGuard_rem,binOp_rem,Op.intDiv,h1,h2]
theorem lK {pi qi:Int} (hx:ev l x=some (.int .i64 pi)) (hy:ev l y=some (.int .i64 qi)) (p q:Nat) (hpi:pi=(p:Int)) (hqi:qi=(q:Int))  (hq:0<q) (hb:p<9223372036854775808):Hy P n w0 mu l hp ⟨dd,.binOp .quo t x y u,ty,pos,af,gg⟩ (.int .i64 ((p / q:Nat):Int)):=
 bz fun ac w hk _=>by
  subst hpi hqi
  have h1:(p:Int).tdiv q=((p / q:Nat):Int):=by rw [Int.tdiv_eq_ediv_of_nonneg au'];simp
  have h2:¬ (q=0):=by omega
  have h3:p / q≤p:=Nat.div_le_self _ _
  have h4:IntKind.i64.wrap ((p / q:Nat):Int)=((p / q:Nat):Int):=by
   generalize p / q=z at h3
   rw [IntKind.wrap_i64];omega
  simp only [execOp,hk.ev hx,hk.ev hy]
  rw [show ((p / q:Nat):Int)=(p:Int) / (q:Int) by simp] at h4
  simp [eqGuard_quo,binOp_quo,Op.intDiv,h1,h2,h4]
end
section
variable {n : Nat} {w0 : World} {mu : List Nat} {l : Fm} {hp : Hp} {Q : Exit → Fm → Hp → Prop} {all : Array Oper} {rest : List Oper} {ty : TypeId} {pos : String} {af : Array Edge} {ds : List (Nat × Nat)} {tail : List Oper} {i : Nat} {iv fr : Fm}
theorem MC {d j dj:Nat} {want b:Bool} {op:Op} {v:Value} (hj:(all[j]?).bind (·.dst)=some dj:=by rfl) (hb:look (aA ds iv af.toList++l) dj=some (.bool b):=by rfl) (hdj:Nat.blt dj n=true:=by rfl) (hlk:lk ds i=some d:=by rfl)
  (hy:jg b want=true→Hy Tryz.prog n w0 mu (aA ds iv af.toList++l) hp ⟨some d,op,ty,pos,af,some (j,want)⟩ v) (h:gB Tryz.prog n w0 mu all ds tail l hp Q (i + 1) rest ((i,gv (jg b want) v)::iv) ((d,gv (jg b want) v)::fr)):gB Tryz.prog n w0 mu all ds tail l hp Q i (⟨some d,op,ty,pos,af,some (j,want)⟩::rest) iv fr:=
 O1 hlk hj hb hdj hy h
theorem VL {d j dj:Nat} {want b:Bool} {op:Op} {v:Value} (hj:(all[j]?).bind (·.dst)=some dj:=by rfl) (hb:look l dj=some (.bool b):=by rfl) (hdj:Nat.blt dj n=true:=by rfl) (hd:Nat.blt d n=true:=by rfl)
  (hy:jg b want=true→Hy Tryz.prog n w0 mu l hp ⟨some d,op,ty,pos,af,some (j,want)⟩ v) (h:Ops Tryz.prog n w0 mu all rest ((d,gv (jg b want) v)::l) hp Q):Ops Tryz.prog n w0 mu all (⟨some d,op,ty,pos,af,some (j,want)⟩::rest) l hp Q:=
 Oz hd hj hb hdj hy h
end
section
variable {n : Nat} {w0 : World} {mu : List Nat} {l : Fm} {hp : Hp} {all : Array Oper} {ty : TypeId} {pos : String} {af : Array Edge} {ds : List (Nat × Nat)} {S E : List Nat} {iv : Fm} {Rs : List (Nat × RT)} {X : Fm → Prop} {Z : List (Nat × RT) → Prop} {i d : Nat}
theorem WU {j dj:Nat} {want b:Bool} {op:Op} {v:Value} (hy:∀ hx,jg b want=true→Hy Tryz.prog n w0 mu (aA ds iv af.toList++l) (hx++hp) ⟨some d,op,ty,pos,af,some (j,want)⟩ v) (h:iH Tryz.prog n w0 mu all ds l hp X S ((i,gv (jg b want) v)::iv))
  (ho:all[i]?=some ⟨some d,op,ty,pos,af,some (j,want)⟩:=by rfl) (hj:(all[j]?).bind (·.dst)=some dj:=by rfl) (hb:look (aA ds iv af.toList++l) dj=some (.bool b):=by rfl) (hdj:Nat.blt dj n=true:=by rfl):iH Tryz.prog n w0 mu all ds l hp X (i::S) iv:=
 ⟨_,_,ho,fun hx=>⟨dj,true,b,v,hj,hb,hdj,fun _ hg=>hy hx hg,rfl⟩,h⟩
theorem TM {t len e sz:Nat} {z:Value} {ps:List (Nat × Operand)} {vs:List (Nat × Value)} {zl:List Value} {out:Array Value} (out':List Value) (h:iq Tryz.prog n w0 mu all ds l hp iv Z E ((i,fun v hn=>∃ b,v=.slice (some ⟨b,0,none⟩) len len∧hn=[⟨b,out'.toArray,e⟩])::Rs)) (ho:all[i]?=some ⟨some d,.buildSlice t len ps.toArray,ty,pos,af,none⟩:=by rfl) (ht:lk Tb.sl t=some (e,sz):=by rfl) (hz:lk Tb.zs e=some z:=by rfl) (hzc:z.cells=zl.toArray:=by (first | ((simp only [Value.cells])<;>rfl) | rfl)) (hzs:Nat.beq zl.length sz=true:=by rfl) (hpos:(Nat.blt 0 (len * sz) && Nat.ble (len * sz) 16777216)=true:=by rfl) (hv:FQ (aA ds iv af.toList++l) ps=some vs:=by rfl) (hf:VE sz (rep zl len).toArray vs=some out:=by rfl) (hn:out=out'.toArray:=by rfl):iq Tryz.prog n w0 mu all ds l hp iv Z (i::E) Rs:=
 J8 ho (Df ay ht hz hzc hzs hpos hv hf hn) ⟨_,_,0,rfl,rfl⟩ h
end
end
section
section
variable {P : Program} {ops : Array Oper} {Q' : Exit → Act → World → Prop} {k i : Nat} {listed : Array Bool}
def Unl (listed:Array Bool) (n:Nat):Prop:=∀ T:List Nat,T.Nodup→(∀ t∈T,listed.getD t true=false)→T.length≤n
theorem Unl.set {n j:Nat} (h:Unl listed (n + 1)) (hj:listed.getD j true=false) (hs:j<listed.size):Unl (listed.setIfInBounds j true) n:=by
 intro T hT hu
 have hjT:j ∉ T:=fun hm=>by have:=hu j hm;simp [hs] at this
 have:=h (j::T) (List.nodup_cons.2 ⟨hjT,hT⟩) (fun t ht=>by
  rcases List.mem_cons.1 ht with rfl | ht
  ·exact hj
  ·have h1:=hu t ht
   rwa [getD_set_ne true (show j ≠ t from fun e=>hjT (by rw [e];exact ht))] at h1)
 simpa using this
end
section
variable {n : Nat} {w0 : World} {mu : List Nat} {l : Fm} {hp : Hp} {Q : Exit → Fm → Hp → Prop}
def drop1 (k:Nat):Fm→Fm
 | []=>[]
 | p::r=>if p.1=k then drop1 k r else p::drop1 k r
theorem Je (k:Nat):∀ (l:Fm) (t:Nat) (v:Value),look (drop1 k l) t=some v→look l t=some v:=by
 intro l
 induction l with
 | nil=>intro t v h;exact h
 | cons p r ih=>
  obtain ⟨j,u⟩:=p
  intro t v h
  have key:∀ t v,look (drop1 k r) t=some v→t ≠ k:=by
   intro t v
   clear h ih
   induction r with
   | nil=>intro h;cases h
   | cons p r ih=>
    obtain ⟨j,u⟩:=p
    intro h
    unfold drop1 at h
    by_cases hj:j=k
    ·rw [if_pos hj] at h;exact ih h
    ·rw [if_neg hj] at h
     simp only [look] at h
     cases hb:Nat.beq j t with
     | true=>have:=Nat.eq_of_beq_eq_true hb;omega
     | false=>rw [hb] at h;exact ih h
  unfold drop1 at h
  by_cases hj:j=k
  ·rw [if_pos hj] at h
   have hne:=key t v h
   simp only [look]
   have hb:Nat.beq j t=false:=by
    cases hb:Nat.beq j t with
    | true=>have:=Nat.eq_of_beq_eq_true hb;omega
    | false=>rfl
   rw [hb]
   exact ih t v h
  ·rw [if_neg hj] at h
   simp only [look] at h ⊢
   cases hb:Nat.beq j t with
   | true=>rw [hb] at h;exact h
   | false=>rw [hb] at h;exact ih t v h
theorem iw {c:Code} (k:Nat) {l':Fm} (h:St Tryz.prog n w0 mu c l' hp Q) (hl:drop1 k l=l':=by (simp only [drop1,wY,List.cons_append,List.nil_append,Nat.reduceEqDiff,Nat.reduceAdd,Nat.zero_add,reduceIte,if_true,if_false];rfl)):St Tryz.prog n w0 mu c l hp Q:=by
 subst hl
 intro a w hk hG
 exact h a w ⟨hk.size,hk.defers,fun t v ht=>hk.has t v (Je k l t v ht)⟩ hG
end
end
section
def fA (P:Program) (n:Nat) (w0:World) (mu:List Nat) (all:Array Oper) (ds:List (Nat × Nat)) (l:Fm) (h0:Hp) (aG:Fm) (X:Fm→Hp→Prop):List Nat→Fm→Hp→Prop
 | [],aN,h=>X aN h
 | i::r,aN,h=>∃ o,all[i]?=some o∧((o.dst.isSome=true∧∃ R:RT,wL P n w0 mu all (aA ds (aN++aG) o.after.toList++l) h o R∧∀ v hn,R v hn→fA P n w0 mu all ds l h0 aG X r ((i,v)::aN) (hn++h)) ∨
   (o.dst=none∧∃ h',YK P n w0 mu (aA ds (aN++aG) o.after.toList++l) h o h'∧aF h0 h'∧fA P n w0 mu all ds l h0 aG X r aN h'))
def DS (P:Program) (n:Nat) (w0:World) (mu:List Nat) (all:Array Oper) (ds:List (Nat × Nat)) (l:Fm) (h0 hp:Hp) (t0:Nat) (X:Fm→Prop):List Nat→Fm→Prop
 | [],iv=>X iv
 | i::S,iv=>∃ o v,all[i]?=some o∧(∀ hx,pz P n w0 mu all (aA ds iv o.after.toList++l) (bif Region.waitsFor .any all t0 i then hx++hp else hx++h0) o v)∧DS P n w0 mu all ds l h0 hp t0 X S ((i,v)::iv)
def nT (all:Array Oper):List Nat→Bool
 | i::j::r=>Region.waitsFor .any all j i && nT all (j::r)
 | _=>true
def pG (ops:Array Oper) (k n:Nat):Bool:=
 (List.range k).all fun i=>(match aQ ops i with | some d=>Nat.blt d n | none=>true) && (List.range k).all fun j=>Nat.beq i j || (match aQ ops i,aQ ops j with | some a,some b=>!Nat.beq a b | _,_=>true)
def nJ (k:Nat) (S C:List Nat):Bool:=decide ((S++C).Nodup) && (S++C).all (fun i=>Nat.blt i k) && (List.range k).all fun i=>mem (S++C) i
def oQ (ops:Array Oper) (k:Nat):Bool:=
 decide (k=ops.size) || (decide (k<ops.size) && Region.sinkB .any ops k && Region.chainB .any ops k && Region.seqB .any ops (ops.size - k) k ((Array.replicate k true)++(Array.replicate (ops.size - k) false)))
def yQ (ops:Array Oper) (n k t0:Nat) (S C:List Nat):Bool:=
 pG ops k n && lH ops && nJ k S C && nT ops C && oQ ops k && (List.range k).all fun i=>(aQ ops i).isSome || Nat.beq i t0 || Region.waitsFor .any ops i t0
structure nK (n:Nat) (w0:World) (mu:List Nat) (all:Array Oper) (l aG aN:Fm) (h:Hp) (listed:Array Bool) (a:Act) (w:World):Prop where
 size:a.tmps.size=n
 defers:a.defers=[]
 has:∀ t v,look l t=some v→a.tmps.getD t undef=v
 good:Good w0 mu h w
 nU:∀ i v,lk aG i=some v→listed.getD i false=true→∀ d,aQ all i=some d→a.tmps.getD d undef=v
 jZ:∀ i v,(i,v)∈aN→listed.getD i false=true∧∀ d,aQ all i=some d→a.tmps.getD d undef=v
theorem rF {all:Array Oper}:∀ {c:Nat} {r:List Nat} {i:Nat},nT all (c::r)=true→i∈r→∃ p,p∈c::r∧p ≠ i∧Region.waitsFor .any all i p=true∨i∈c::r∧False∨∃ p∈c::r,Region.waitsFor .any all i p=true:=by
 intro c r
 induction r generalizing c with
 | nil=>intro i _ h;cases h
 | cons j r ih=>
  intro i h hi
  simp only [nT,Bool.and_eq_true] at h
  rcases List.mem_cons.1 hi with rfl | hi
  ·exact ⟨c,.inr (.inr ⟨c,List.mem_cons_self ..,h.1⟩)⟩
  ·obtain ⟨p,hp⟩:=ih h.2 hi
   rcases hp with ⟨_,_,h3⟩ | ⟨_,h3⟩ | ⟨p,h1,h2⟩
   ·exact ⟨p,.inr (.inr ⟨p,List.mem_cons_of_mem _ ‹_›,h3⟩)⟩
   ·exact h3.elim
   ·exact ⟨p,.inr (.inr ⟨p,List.mem_cons_of_mem _ h1,h2⟩)⟩
section
variable {P : Program} {n : Nat} {w0 : World} {mu : List Nat} {l : Fm} {h0 hp : Hp} {Q : Exit → Fm → Hp → Prop} {all : Array Oper} {aG : Fm} {k t0 : Nat} {ds : List (Nat × Nat)}
theorem Ky (hd:pG all k n=true) {i d:Nat} (hi:i<k) (h:aQ all i=some d):d<n:=by
 have:=List.all_eq_true.1 hd i (List.mem_range.2 hi)
 rw [Bool.and_eq_true,h] at this
 simpa using this.1
theorem Kz (hd:pG all k n=true) {i j a b:Nat} (hi:i<k) (hj:j<k) (hij:i ≠ j) (h1:aQ all i=some a) (h2:aQ all j=some b):a ≠ b:=by
 have:=List.all_eq_true.1 hd i (List.mem_range.2 hi)
 rw [Bool.and_eq_true] at this
 have:=List.all_eq_true.1 this.2 j (List.mem_range.2 hj)
 rw [h1,h2,Bool.or_eq_true] at this
 rcases this with h | h
 ·exact absurd (Nat.eq_of_beq_eq_true h) hij
 ·intro e;subst e;simp at h
theorem lM {aN Cb:Fm} {h h':Hp} {listed:Array Bool} {a:Act} {w w':World} {i:Nat} {o:Oper} {v:Value} (hm:nK n w0 mu all l aG aN h listed a w) (ho:all[i]?=some o) (hi:i<k) (hun:listed.getD i true=false) (hs:i<listed.size)
  (hd:pG all k n=true) (hf:bu l (dstsOf all k)=true) (hG:Good w0 mu h' w') (WV:∀ j v,lk aG j=some v→j<k) (hEk:∀ j v,(j,v)∈aN→j<k)
  (hv:(lk aG i=some v∧Cb=aN)∨(lk aG i=none∧Cb=(i,v)::aN)):nK n w0 mu all l aG Cb h' (listed.setIfInBounds i true) (a.put o.dst v) w':=by
 have hod:aQ all i=o.dst:=by simp [aQ,ho]
 have hput:∀ t,(∀ d,o.dst=some d→t ≠ d)→(a.put o.dst v).tmps.getD t undef=a.tmps.getD t undef:=by
  intro t ht
  cases hdd:o.dst with
  | none=>rfl
  | some d=>simp [Act.put,Array.getElem?_setIfInBounds_ne (Ne.symm (ht d hdd))]
 have hself:∀ d,o.dst=some d→(a.put o.dst v).tmps.getD d undef=v:=by
  intro d hdd
  have:=Ky hd hi (hod.trans hdd)
  rw [hdd]
  simp [Act.put,hm.size,this]
 have hother:∀ j d,j<k→j ≠ i→aQ all j=some d→(a.put o.dst v).tmps.getD d undef=a.tmps.getD d undef:=fun j d hj hji hdj=>hput d fun d' hd'=>Kz hd hj hi hji hdj (hod.trans hd')
 refine ⟨?_,?_,fun t u hu=>?_,hG,fun j u hj hl d hdj=>?_,fun j u hj=>?_⟩
 ·cases o.dst<;>simpa [Act.put] using hm.size
 ·cases o.dst<;>exact hm.defers
 ·rw [hput t fun d hdd e=>?_]
  ·exact hm.has t u hu
  ·subst e
   have:=wu _ hf (List.mem_map.2 ⟨i,List.mem_range.2 hi,hod.trans hdd⟩)
   rw [this] at hu;cases hu
 ·by_cases hji:j=i
  ·subst hji
   rcases hv with ⟨h1,_⟩ | ⟨h1,_⟩
   ·rw [h1] at hj;cases hj
    exact hself d (hod▸hdj)
   ·rw [h1] at hj;cases hj
  ·rw [hother j d (WV j u hj) hji hdj]
   exact hm.nU j u hj az1 d hdj
 ·have hold:(j,u)∈aN→(listed.setIfInBounds i true).getD j false=true∧∀ d,aQ all j=some d→(a.put o.dst v).tmps.getD d undef=u:=fun hj=>by
   have h1:=hm.jZ j u hj
   have hji:j ≠ i:=fun e=>by subst e;rw [getD_both hun] at h1;cases h1.1
   exact ⟨getD_set_true h1.1,fun d hdj=>by rw [hother j d (hEk j u hj) hji hdj];exact h1.2 d hdj⟩
  rcases hv with ⟨_,rfl⟩ | ⟨_,rfl⟩
  ·exact hold hj
  ·rcases List.mem_cons.1 hj with hj | hj
   ·cases hj
    exact ⟨by simp [hs],fun d hdj=>hself d (hod▸hdj)⟩
   ·exact hold hj
theorem iQ (hds:∀ k d,lk ds k=some d→aQ all k=some d) {bC aN:Fm} {h:Hp} {listed:Array Bool} {a:Act} {w:World} {o:Oper} (hm:nK n w0 mu all l aG aN h listed a w) (hiv:∀ j u,look bC j=some u→lk aN j=some u∨lk aG j=some u)
  (hl:∀ e∈o.after,Region.binds .any e=true→listed.getD e.on false=true):Knows n (aA ds bC o.after.toList++l) a:=by
 refine ⟨hm.size,hm.defers,fun t v h=>?_⟩
 rcases dW h with h | ⟨_,h⟩
 ·obtain ⟨e,he,h1,h2,h3⟩:=yA (gm h)
  rcases hiv _ _ h3 with h4 | h4
  ·exact (hm.jZ _ _ (iP h4)).2 t (hds _ _ h2)
  ·exact hm.nU _ _ h4 (hl e (by simpa using he) h1) t (hds _ _ h2)
 ·exact hm.has t v h
theorem AL {α:Type}:∀ (a b:List (Nat × α)) (i:Nat),lk (a++b) i=match lk a i with | some v=>some v | none=>lk b i:=by
 intro a
 induction a with
 | nil=>intro b i;rfl
 | cons p r ih=>
  intro b i
  obtain ⟨j,v⟩:=p
  rw [List.cons_append,bM,bM,ih]
  by_cases h:j=i
  ·subst h;simp
  ·simp [h]
theorem Dh (hds:∀ k d,lk ds k=some d→aQ all k=some d) {g:Nat} {Q':Exit→Act→World→Prop} {X:Fm→Hp→Prop} (hk:k≤all.size) (hd:pG all k n=true) (hf:bu l (dstsOf all k)=true) (hback:lH all=true) (hle0:aF h0 hp)
  (qf:∀ i,i<k→aQ all i=none→i=t0∨Region.waitsFor .any all i t0=true)
  (hS:∀ i v,lk aG i=some v→i<k∧∃ o bC,all[i]?=some o∧lG bC aG∧∀ hx,pz P n w0 mu all (aA ds bC o.after.toList++l) (bif Region.waitsFor .any all t0 i then hx++hp else hx++h0) o v)
  (htail:∀ aN h listed,HeadInv .any all k listed→(∀ i,i<k→listed.getD i true=true)→X aN h→∀ a w,nK n w0 mu all l aG aN h listed a w→(∀ i v,(i,v)∈aN→i<k)→wpAny P .any all Q' g listed a w)
  (jW:∀ listed,HeadInv .any all k listed→∀ i,i<k→listed.getD i true=false→∀ t,k≤t→t ∉ Region.ready .any all listed):
  ∀ f r aN h listed a w,leftOf k listed=f→HeadInv .any all k listed→nK n w0 mu all l aG aN h listed a w→(∀ i v,(i,v)∈aN→i<k)→(∀ i∈r,i<k∧listed.getD i true=false∧lk aG i=none)→r.Nodup→nT all r=true→(∀ i,i<k→listed.getD i true=false→(∃ v,lk aG i=some v)∨i∈r) →
   aF h0 h→(listed.getD t0 false=false→aF hp h)→fA P n w0 mu all ds l h0 aG X r aN h→wpAny P .any all Q' (f + g) listed a w:=by
 intro f
 induction f with
 | zero=>
  intro r aN h listed a w hlf inv hm hEk hr hnd dU hcov hle ny hD
  have hall:∀ i,i<k→listed.getD i true=true:=by
   intro i hi
   cases hc:listed.getD i true with
   | true=>rfl
   | false=>
    exfalso
    have:i∈(List.range k).filter fun i=>!listed.getD i true:=List.mem_filter.2 ⟨List.mem_range.2 hi,by simp only [hc,Bool.not_false]⟩
    have h2:=List.length_pos_of_mem this
    unfold leftOf at hlf
    omega
  cases r with
  | nil=>
   rw [Nat.zero_add]
   exact htail aN h listed inv hall hD a w hm hEk
  | cons c r=>
   have h1:=hr c (List.mem_cons_self ..)
   rw [hall c h1.1] at h1
   exact absurd h1.2.1 av1
 | succ f ih=>
  intro r aN h listed a w hlf inv hm hEk hr hnd dU hcov hle ny hD
  rw [show f + 1 + g=(f + g) + 1 by omega]
  have hex:∃ i,i<k∧listed.getD i true=false:=by
   have h2:0<leftOf k listed:=by omega
   obtain ⟨i,hi⟩:=List.exists_mem_of_length_pos h2
   rw [List.mem_filter] at hi
   exact ⟨i,List.mem_range.1 hi.1,by simpa using hi.2⟩
  obtain ⟨i0,jF,hi0⟩:=hex
  refine ⟨fun hnil=>?_,fun i hi=>?_⟩
  ·exfalso
   obtain ⟨i,⟨hik,hil⟩,hmin⟩:=exists_least (p:=fun i=>i<k∧listed.getD i true=false) ⟨i0,jF,hi0⟩
   have hr:i∈Region.ready .any all listed:=by
    rw [mem_ready]
    have hs:i<all.size:=by omega
    refine ⟨hil,all[i],by simp [hs],fun e he hb=>?_⟩
    have hb2:=List.all_eq_true.1 hback i (List.mem_range.2 hs)
    simp only [Array.getElem?_eq_getElem hs] at hb2
    have hb3:=(Array.all_eq_true_iff_forall_mem.1 hb2) e he
    simp only [hb,Bool.not_true,Bool.false_or,Nat.blt_eq] at hb3
    cases hc:listed.getD e.on false with
    | true=>rfl
    | false=>
     have h5:=hmin e.on ⟨by omega,getD_in av7 hc⟩
     omega
   rw [hnil] at hr;cases hr
  ·have hik:i<k:=by
    rcases Nat.lt_or_ge i k with h | h
    ·exact h
    ·exact absurd hi (jW listed inv i0 jF hi0 i h)
   obtain ⟨hun,o,ho,hall⟩:=mem_ready.1 hi
   have hsz:i<listed.size:=by rw [inv.size];omega
   have nI:listed.getD i false=false:=getD_both hun
   have hleft:leftOf k (listed.setIfInBounds i true)=f:=by have:=jI hik av7 hun;omega
   have hwl:∀ t,Region.waitsFor .any all i t=true→listed.getD t false=true:=fun t ht=>by
    obtain ⟨oj,h6,e,he,hb,heq⟩:=Region.waitsFor_spec ht
    rw [ho] at h6;cases h6
    rw [← heq];exact hall e he hb
   unfold wpOp
   simp only [ho]
   cases qP:lk aG i with
   | some v=>
    obtain ⟨_,o',bC,ho',hmo,hy⟩:=hS i v qP
    rw [ho] at ho';cases ho'
    have hkn:=iQ (o:=o) hds hm (bC:=bC) (fun j u hu=>.inr (hmo j u aw4)) hall
    have hir:i ∉ r:=fun hm'=>by rw [(hr i hm').2.2] at qP;cases qP
    have hnext:∀ w',Good w0 mu h w'→wpAny P .any all Q' (f + g) (listed.setIfInBounds i true) (a.put o.dst v) w':=fun w' hG'=>by
     refine ih r aN h _ _ _ hleft (inv.set hi hik) (lM hm ho hik hun hsz hd hf hG' (fun j u hu=>(hS j u hu).1) hEk (.inl ⟨qP,rfl⟩)) hEk (fun j hj=>?_) hnd dU (fun j hj hl=>?_) hle (fun ht=>?_) hD
     ·have hji:i ≠ j:=fun e=>hir (e▸hj)
      exact ⟨(hr j hj).1,by rw [getD_set_ne true hji];exact (hr j hj).2.1,(hr j hj).2.2⟩
     ·refine hcov j hj ?_
      by_cases hji:i=j
      ·subst hji;simp [hsz] at hl
      ·rwa [getD_set_ne true hji] at hl
     ·refine ny ?_
      by_cases hji:i=t0
      ·subst hji;exact nI
      ·rwa [getD_set_ne false hji] at ht
    obtain ⟨hx,h3,jv⟩:∃ hx,pz P n w0 mu all (aA ds bC o.after.toList++l) hx o v∧hx.Perm h:=by
     cases hwt:Region.waitsFor .any all t0 i with
     | true=>
      have ht0:listed.getD t0 false=false:=by
       cases hc:listed.getD t0 false with
       | false=>rfl
       | true=>
        obtain ⟨oj,h6,e,he,hb,heq⟩:=Region.waitsFor_spec hwt
        have:=inv.closed t0 oj h6 hc e he hb
        rw [heq,nI] at this;cases this
      obtain ⟨x,hxp⟩:=(ny ht0).perm
      have h4:=hy x
      rw [hwt] at h4
      exact ⟨x++hp,h4,List.perm_append_comm.trans hxp⟩
     | false=>
      obtain ⟨x,hxp⟩:=hle.perm
      have h4:=hy x
      rw [hwt] at h4
      exact ⟨x++h0,h4,List.perm_append_comm.trans hxp⟩
    have hgd:Good w0 mu hx w:=hm.good.perm jv
    replace hnext:∀ w',Good w0 mu hx w'→wpAny P .any all Q' (f + g) (listed.setIfInBounds i true) (a.put o.dst v) w':=fun w' hG'=>hnext w' (hG'.perm jv.symm)
    unfold pz at h3
    cases hg:o.guard with
    | none=>
     rw [hg] at h3
     rw [if_pos aw2]
     exact .inl (h3 a w hkn hgd _ _ hnext)
    | some jw=>
     obtain ⟨j,want⟩:=jw
     rw [hg] at h3
     obtain ⟨dj,c0,b,u,hj,hb,hdj,hy,hvv⟩:=h3
     have hw:=gY hkn hg hj hb hdj
     cases hc:(c0 && jg b want) with
     | true=>
      rw [hc] at hw hvv
      rw [if_pos hw]
      rw [Bool.and_eq_true] at hc
      rw [show v=u from hvv] at hnext
      exact .inl (hy hc.1 hc.2 a w hkn hgd _ _ hnext)
     | false=>
      rw [hc] at hw hvv
      rw [if_neg ax7]
      rw [show v=undef from hvv] at hnext
      exact hnext w hgd
   | none=>
    have hir:i∈r:=by
     rcases hcov i hik hun with ⟨v,hv⟩ | h
     ·rw [qP] at hv;cases hv
     ·exact h
    cases r with
    | nil=>cases hir
    | cons c r=>
     have hic:i=c:=by
      rcases List.mem_cons.1 hir with h | h
      ·exact h
      ·exfalso
       obtain ⟨p,hp⟩:=rF dU h
       rcases hp with ⟨h1,_,h3⟩ | ⟨_,h3⟩ | ⟨p,h1,h3⟩
       ·have:=(hr p h1).2.1;have h5:=hwl p h3
        rw [getD_both this] at h5;cases h5
       ·exact h3
       ·have:=(hr p h1).2.1;have h5:=hwl p h3
        rw [getD_both this] at h5;cases h5
     subst hic
     rw [List.nodup_cons] at hnd
     have nM:nT all r=true:=by
      cases r with
      | nil=>rfl
      | cons j r=>simp only [nT,Bool.and_eq_true] at dU;exact dU.2
     have hr':∀ j∈r,j<k∧(listed.setIfInBounds i true).getD j true=false∧lk aG j=none:=fun j hj=>by
      have h1:=hr j (List.mem_cons_of_mem _ hj)
      have hji:i ≠ j:=fun e=>hnd.1 (e▸hj)
      exact ⟨h1.1,by rw [getD_set_ne true hji];exact h1.2.1,h1.2.2⟩
     have lu:∀ j,j<k→(listed.setIfInBounds i true).getD j true=false→(∃ v,lk aG j=some v)∨j∈r:=fun j hj hl=>by
      by_cases hji:i=j
      ·subst hji;simp [hsz] at hl
      ·rw [getD_set_ne true hji] at hl
       rcases hcov j hj hl with h | h
       ·exact .inl h
       ·exact .inr ((List.mem_cons.1 h).resolve_left (Ne.symm hji))
     have hkn:=iQ (o:=o) hds hm (bC:=aN++aG) (fun j u hu=>by
      rw [eu,AL] at hu
      cases hE:lk aN j with
      | some v=>rw [hE] at hu;exact .inl hu
      | none=>rw [hE] at hu;exact .inr hu) hall
     unfold fA at hD
     obtain ⟨o',ho',hD⟩:=hD
     rw [ho] at ho';cases ho'
     rcases hD with ⟨hds',R,⟨hg,hE⟩,hD⟩ | ⟨hdn,h',⟨hg,_,hSt⟩,hle',hD⟩
     ·rw [if_pos (hg _ hkn)]
      refine .inl (hE a w [] hkn aA7 _ _ fun v hn w' hR hG'=>?_)
      rw [List.nil_append] at hG'
      have hlen:∀ x:Hp,aF x h→aF x (hn++h):=fun x hx=>bU fun b=>by have:=hx.cnt b;rw [dZ];omega
      refine ih r ((i,v)::aN) (hn++h) _ _ _ hleft (inv.set hi hik) (lM hm ho hik hun hsz hd hf hG' (fun j u hu=>(hS j u hu).1) hEk (.inr ⟨qP,rfl⟩)) (fun j u hu=>?_) hr' hnd.2 nM lu (hlen _ hle) (fun ht=>hlen _ (ny ?_)) (hD v hn hR)
      ·rcases List.mem_cons.1 hu with hu | hu
       ·cases hu;exact hik
       ·exact hEk j u hu
      ·by_cases hji:i=t0
       ·subst hji;exact nI
       ·rwa [getD_set_ne false hji] at ht
     ·rw [if_pos aw2]
      refine .inl (hSt a w hkn hm.good _ _ fun w' hG'=>?_)
      have hmc:nK n w0 mu all l aG aN h' (listed.setIfInBounds i true) a w':=by
       refine ⟨hm.size,hm.defers,hm.has,hG',fun j u hj hl d hdj=>?_,fun j u hj=>⟨getD_set_true (hm.jZ j u hj).1,(hm.jZ j u hj).2⟩⟩
       have hji:i ≠ j:=fun e=>by subst e;rw [qP] at hj;cases hj
       exact hm.nU j u hj ay8 d hdj
      refine ih r aN h' _ _ _ hleft (inv.set hi hik) hmc hEk hr' hnd.2 nM lu hle' (fun ht=>?_) hD
      exfalso
      rcases qf i hik (by simp [aQ,ho,hdn]) with e | e
      ·subst e
       rw [show (listed.setIfInBounds i true).getD i false=true by simp [hsz]] at ht;cases ht
      ·have:=getD_set_true (i:=i) (hwl t0 e)
       rw [this] at ht;cases ht
theorem Es {X:Fm→Prop}:∀ (S:List Nat) (iv:Fm),S.Nodup→(∀ i∈S,lk iv i=none)→Uq iv→DS P n w0 mu all ds l h0 hp t0 X S iv →
  (∀ i v,lk iv i=some v→∃ o bC,all[i]?=some o∧lG bC iv∧∀ hx,pz P n w0 mu all (aA ds bC o.after.toList++l) (bif Region.waitsFor .any all t0 i then hx++hp else hx++h0) o v) →
  ∃ aG,X aG∧Uq aG∧(∀ i,(∃ v,lk aG i=some v)↔i∈S∨∃ v,lk iv i=some v)∧∀ i v,lk aG i=some v→∃ o bC,all[i]?=some o∧lG bC aG∧∀ hx,pz P n w0 mu all (aA ds bC o.after.toList++l) (bif Region.waitsFor .any all t0 i then hx++hp else hx++h0) o v:=by
 intro S
 induction S with
 | nil=>intro iv _ _ hu h hs;exact ⟨iv,h,hu,fun i=>by simp,hs⟩
 | cons i S ih=>
  rintro iv hnd hno hu ⟨o,v,ho,hy,h⟩ hs
  rw [List.nodup_cons] at hnd
  have hi:=hno i (List.mem_cons_self ..)
  obtain ⟨aG,hX,hu2,hk,hs2⟩:=ih ((i,v)::iv) hnd.2 (fun j hj=>by rw [bM,if_neg ay3];exact hno j (List.mem_cons_of_mem _ hj)) (Eh hi hu) h (fun j u hj=>by
   rw [bM] at hj
   by_cases hij:i=j
   ·subst hij
    rw [if_pos rfl] at hj
    cases hj
    exact ⟨o,iv,ho,l9 hi,hy⟩
   ·rw [if_neg hij] at hj
    obtain ⟨o',bC,h1,h2,h3⟩:=hs j u hj
    exact ⟨o',bC,h1,fun a b hab=>l9 hi a b (h2 a b hab),h3⟩)
  refine ⟨aG,hX,hu2,fun j=>?_,hs2⟩
  rw [hk,List.mem_cons,bM]
  by_cases hij:i=j
  ·subst hij;simp
  ·rw [if_neg hij];simp [Ne.symm hij]
theorem PO {ops:List Oper} (k t0:Nat) (S C:List Nat) (h0:Hp) (hB:yQ ops.toArray n k t0 S C=true) (hf:bu l (dstsOf ops.toArray k)=true) (hle0:aF h0 hp) (hds:bP ops 0=ds)
  (h:DS P n w0 mu ops.toArray ds l h0 hp t0 (fun aG=>fA P n w0 mu ops.toArray ds l h0 aG (fun aN hc=>Ops P n w0 mu ops.toArray (ops.drop k) (aY ds (aN++aG)++l) hc Q) C [] hp) S []):lq P n w0 mu ops.toArray l hp Q:=by
 intro a w hk hG
 simp only [yQ,Bool.and_eq_true] at hB
 obtain ⟨⟨⟨⟨⟨hd,hback⟩,oU⟩,dU⟩,fQ⟩,qf⟩:=hB
 simp only [nJ,Bool.and_eq_true,decide_eq_true_eq] at oU
 obtain ⟨⟨hnd,hlt⟩,hcov⟩:=oU
 have hlt':∀ i∈S++C,i<k:=fun i hi=>by have:=List.all_eq_true.1 hlt i hi;simpa using this
 rw [List.nodup_append] at hnd
 obtain ⟨wz,yR,YV⟩:=hnd
 obtain ⟨aG,hX,Gj,nP,hsS⟩:=Es S [] wz (fun _ _=>rfl) (fun _ _ h=>by cases h) h (fun i v hv=>by cases hv)
 simp only [lk,reduceCtorEq,exists_false,or_false] at nP
 have hks:k≤ops.toArray.size:=by
  simp only [oQ,Bool.or_eq_true,Bool.and_eq_true,decide_eq_true_eq] at fQ
  rcases fQ with h | h<;>omega
 have jR:∀ i d,lk ds i=some d→aQ ops.toArray i=some d:=fun i d h=>by rw [← hds] at h;have:=(jb ops 0 i d h).2;simpa [aQ] using this
 have inv0:HeadInv .any ops.toArray k (Array.replicate ops.toArray.size false):=
  ⟨by simp,fun j oj _ hl=>av6,fun t _ ht=>getD_in ay4 (getD_replicate_false _ _)⟩
 have zC:∀ i,i<k→(Array.replicate ops.toArray.size false).getD i true=false:=fun i hi=>getD_in ay5 (getD_replicate_false _ _)
 have hleft:leftOf k (Array.replicate ops.toArray.size false)=k:=by
  unfold leftOf
  rw [List.filter_eq_self.2]
  ·simp
  ·intro i hi
   simp only [zC i ay0,Bool.not_false]
 have key:=Dh jR (P:=P) (n:=n) (w0:=w0) (mu:=mu) (l:=l) (hp:=hp) (h0:=h0) (all:=ops.toArray) (aG:=aG) (k:=k) (t0:=t0) (g:=ops.toArray.size - k) (Q':=QQ n w0 mu Q) (X:=fun aN hc=>Ops P n w0 mu ops.toArray (ops.drop k) (aY ds (aN++aG)++l) hc Q) hks hd hf hback hle0
  (fun i hi hdn=>by
   have:=List.all_eq_true.1 qf i (List.mem_range.2 hi)
   rw [hdn] at this
   simp only [Option.isSome_none,Bool.false_or,Bool.or_eq_true] at this
   rcases this with h | h
   ·exact .inl (Nat.eq_of_beq_eq_true h)
   ·exact .inr h)
  (fun i v hv=>⟨hlt' i (List.mem_append_left _ ((nP i).1 ⟨v,hv⟩)),hsS i v hv⟩)
  (fun aN h listed inv hall hX a w hmid hEk=>by
   have mG:Knows n (aY ds (aN++aG)++l) a:=by
    refine ⟨hmid.size,hmid.defers,fun t v ht=>?_⟩
    rcases dW ht with ht | ⟨_,ht⟩
    ·obtain ⟨j,h1,h2⟩:=ig (gm ht)
     rcases List.mem_append.1 h1 with h1 | h1
     ·exact (hmid.jZ j v h1).2 t (jR _ _ h2)
     ·have hj:=Gj j v h1
      have hjk:=hlt' j (List.mem_append_left _ ((nP j).1 ⟨v,hj⟩))
      refine hmid.nU j v hj ?_ t (jR _ _ h2)
      have h5:=hall j hjk
      cases hcc:listed.getD j false with
      | true=>rfl
      | false=>rw [getD_in av7 hcc] at h5;cases h5
    ·exact hmid.has t v ht
   have hfin:=hX a w mG hmid.good
   simp only [oQ,Bool.or_eq_true,Bool.and_eq_true,decide_eq_true_eq] at fQ
   rcases fQ with AO | ⟨⟨⟨qY,hs⟩,hc⟩,hseq⟩
   ·have e0:ops.drop k=[]:=List.drop_eq_nil_of_le (by simp at AO;omega)
    rw [e0] at hfin
    rw [show ops.toArray.size - k=0 by omega]
    refine ⟨?_,hfin⟩
    rw [List.eq_nil_iff_forall_not_mem]
    intro i hi
    obtain ⟨hun,o,ho,_⟩:=mem_ready.1 hi
    have hi':i<k:=by rw [AO];exact (Array.getElem?_eq_some_iff.1 ho).1
    rw [hall i hi'] at hun;cases hun
   ·have hl:listed=(Array.replicate k true)++(Array.replicate (ops.toArray.size - k) false):=by
     apply Array.ext
     ·simp [inv.size];simp at qY;omega
     ·intro i h1 h2
      by_cases hi:i<k
      ·have:=hall i hi
       simp [h1] at this
       rw [Array.getElem_append_left ay0]
       simpa using this
      ·have h3:=inv.tail i au' ax'
       simp [h1] at h3
       rw [Array.getElem_append_right aw0]
       simpa using h3
    have hdl:(ops.drop k).length=ops.toArray.size - k:=by simp
    rw [← hdl]
    exact wpAny_of_seq (ops.drop k) k listed a w (fun j=>by simp) ay6 hfin)
  (fun listed inv i hi hun t ht=>by
   simp only [oQ,Bool.or_eq_true,Bool.and_eq_true,decide_eq_true_eq] at fQ
   rcases fQ with h | ⟨⟨⟨qY,hs⟩,hc⟩,hseq⟩
   ·intro hr
    obtain ⟨_,o,ho,_⟩:=mem_ready.1 hr
    have:=(Array.getElem?_eq_some_iff.1 ho).1
    omega
   ·exact tail_waits hs hc qY inv _ i rfl hi hun t ht)
  k C [] hp _ a { w with drawn:=w.drawn + 1 } hleft inv0 ⟨hk.size,hk.defers,hk.has,hG.drawn _,fun i v _ hl=>av6,fun i v hv=>by cases hv⟩ (fun i v hv=>by cases hv)
  (fun i hi=>⟨hlt' i (List.mem_append_right _ hi),zC i (hlt' i (List.mem_append_right _ hi)),by
   cases hv:lk aG i with
   | none=>rfl
   | some v=>exact absurd rfl (YV i ((nP i).1 ⟨v,hv⟩) i hi)⟩) yR dU
  (fun i hi _=>by
   have:=bV (List.all_eq_true.1 hcov i (List.mem_range.2 hi))
   rcases List.mem_append.1 this with h | h
   ·exact .inl ((nP i).2 h)
   ·exact .inr h) hle0 (fun _=>aF.refl _) hX
 have e:k + (ops.toArray.size - k)=ops.toArray.size:=by omega
 rw [e] at key
 exact key
end
attribute [local irreducible] Hy St Ops DH gB iH iq fK
section
variable {P : Program} {n : Nat} {w0 : World} {mu : List Nat} {l lf : Fm} {h0 hp hc : Hp} {Q : Exit → Fm → Hp → Prop} {all : Array Oper} {aG iv aN : Fm} {k t0 i d : Nat} {ds : List (Nat × Nat)} {S r : List Nat} {X : Fm → Prop} {Y : Fm → Hp → Prop} {op : Op} {ty : TypeId} {pos : String} {af : Array Edge} {v : Value}
theorem WW (h:X iv):DS P n w0 mu all ds l h0 hp t0 X [] iv:=h
theorem Et (ho:all[i]?=some ⟨some d,op,ty,pos,af,none⟩) (hwt:Region.waitsFor .any all t0 i=true) (hy:∀ hx,Hy P n w0 mu (aA ds iv af.toList++l) (hx++hp) ⟨some d,op,ty,pos,af,none⟩ v) (h:DS P n w0 mu all ds l h0 hp t0 X S ((i,v)::iv)):DS P n w0 mu all ds l h0 hp t0 X (i::S) iv:=⟨_,v,ho,fun hx=>by rw [hwt];exact hy hx,h⟩
theorem YW (ho:all[i]?=some ⟨some d,op,ty,pos,af,none⟩) (hwt:Region.waitsFor .any all t0 i=false) (hy:∀ hx,Hy P n w0 mu (aA ds iv af.toList++l) (hx++h0) ⟨some d,op,ty,pos,af,none⟩ v) (h:DS P n w0 mu all ds l h0 hp t0 X S ((i,v)::iv)):DS P n w0 mu all ds l h0 hp t0 X (i::S) iv:=⟨_,v,ho,fun hx=>by rw [hwt];exact hy hx,h⟩
theorem aH (h:Y aN hc):fA P n w0 mu all ds l h0 aG Y [] aN hc:=h
theorem TN {R:RT} {gg:Option (Nat × Bool)} (ho:all[i]?=some ⟨some d,op,ty,pos,af,gg⟩) (he:wL P n w0 mu all (aA ds (aN++aG) af.toList++l) hc ⟨some d,op,ty,pos,af,gg⟩ R) (h:∀ v hn,R v hn→fA P n w0 mu all ds l h0 aG Y r ((i,v)::aN) (hn++hc)):fA P n w0 mu all ds l h0 aG Y (i::r) aN hc:=⟨_,ho,.inl ⟨rfl,R,he,h⟩⟩
theorem WX {o:Oper} (hg:o.guard=none) (hy:∀ hx,Hy P n w0 mu lf (hx++hp) o v):wL P n w0 mu all lf hp o (fun u hn=>u=v∧hn=[]):=
 ⟨fun a _=>by simp [Region.wanted,hg],fun a w hx hk hG K Q hK=>by
  have:=hy hx
  unfold Hy at this
  exact this a w hk hG K Q fun w' hG'=>hK v [] w' ⟨rfl,rfl⟩ hG'⟩
theorem YX (ho:all[i]?=some ⟨some d,op,ty,pos,af,none⟩) (hy:∀ hx,Hy P n w0 mu (aA ds (aN++aG) af.toList++l) (hx++hc) ⟨some d,op,ty,pos,af,none⟩ v) (h:fA P n w0 mu all ds l h0 aG Y r ((i,v)::aN) hc):fA P n w0 mu all ds l h0 aG Y (i::r) aN hc:=
 TN ho (WX rfl hy) (by rintro _ _ ⟨rfl,rfl⟩;exact h)
theorem WY {T:Tab} (ok:bf P T) {t:TypeId} {x y:Operand} {b off sz:Nat} {vs:List Value} {cs cs':Array Value} {tb:TypeId} {hp':Hp} (ho:all[i]?=some ⟨none,.store t x y,ty,pos,af,none⟩)
  (hx:ev (aA ds (aN++aG) af.toList++l) x=some (.pointer (some ⟨b,off,none⟩))) (hy:ev (aA ds (aN++aG) af.toList++l) y=some v) (pq:v.cells=vs.toArray) (hs:lk T.sz t=some sz) (hl:vs.length=sz) (hperm:(⟨b,cs,tb⟩::hp').Perm hc) (hv1:vs.all (·.oneCell')=true) (hlt:off + vs.length≤cs.size) (hput:putAt cs off vs=cs')
  (hle:aF h0 (⟨b,cs',tb⟩::hp')) (h:fA P n w0 mu all ds l h0 aG Y r aN (⟨b,cs',tb⟩::hp')):fA P n w0 mu all ds l h0 aG Y (i::r) aN hc:=by
 refine ⟨_,ho,.inr ⟨rfl,⟨b,cs',tb⟩::hp',⟨rfl,rfl,fun a w hk hG K Q' hK=>?_⟩,hle,h⟩⟩
 subst hput
 have hG':=hG.perm hperm
 have hb:=hG'.here _ (List.mem_cons_self ..)
 have hst:=run_storeCells_cells (P:=P) b off vs 0 w
  (fun j hj=>by rw [cell_of_block hb];simp [show off + j<cs.size by omega])
  (fun j _=>kF hb) (fun u hu=>(List.all_eq_true.1 hv1) u hu)
 unfold Oper.wp
 have hrun:(execOp a.eval ⟨none,.store t x y,ty,pos,af,none⟩).run P w=.ok .skip (w.setCells b off vs):=by
  simp only [execOp,hk.ev hx,hk.ev hy]
  simp only [Nat.add_zero] at hst
  simp [Instr.storeAt,Instr.sureAddr,storeVar,pq,run_sizeOf (show fZ P t=some vs.length by rw [hl];exact ok.tH hs) w,hst]
 rw [hrun]
 exact hK _ (Good.sets (w:=w) vs cs off w hG')
end
section
variable {n : Nat} {w0 : World} {mu : List Nat} {l lf : Fm} {h0 hp hc : Hp} {Q : Exit → Fm → Hp → Prop} {all : Array Oper} {aG iv aN : Fm} {k t0 i d : Nat} {ds : List (Nat × Nat)} {S r : List Nat} {X : Fm → Prop} {Y : Fm → Hp → Prop} {op : Op} {ty : TypeId} {pos : String} {af : Array Edge} {v : Value}
theorem dN {id:Nat} {ops tl:List Oper} (k t0:Nat) (S C:List Nat) (h0:Hp) (h:DS Tryz.prog n w0 mu ops.toArray ds l h0 hp t0 (fun aG=>fA Tryz.prog n w0 mu ops.toArray ds l h0 aG (fun aN hc=>Ops Tryz.prog n w0 mu ops.toArray tl (aY ds (aN++aG)++l) hc Q) C [] hp) S [])
  (hle0:aF h0 hp:=by (exact ak)) (hds:bP ops 0=ds:=by (simp only [bP,Nat.reduceAdd,Nat.zero_add];rfl)) (htl:ops.drop k=tl:=by (simp only [List.drop_succ_cons,List.drop_zero,List.drop_nil];rfl)) (hm:Tryz.prog.follows .mixedOrders=true:=by kernel_rfl) (hB:yQ ops.toArray n k t0 S C=true:=by decide +kernel) (hf:bu l (dstsOf ops.toArray k)=true:=by rfl):St Tryz.prog n w0 mu (.region id ops.toArray true) l hp Q:=
 qX hm (PO k t0 S C h0 hB hf hle0 hds az7)
theorem dh {G R:Prop} (k:R) (h:uh R→G:=by (intro kJ;(repeat (first | (with_reducible apply WW) | ((with_reducible apply Et);rfl;decide +kernel;(intro Yj;(first | exact Md))) | ((with_reducible apply YW);rfl;decide +kernel;(intro Yj;(first | exact Md)))));exact kJ.get)):G:=h ⟨k⟩
theorem uy {f:FuncId} {xs:List Operand} {vs:List Value} {tys:Array TypeId} {R:RT} (hcl:∀ w,Good w0 mu hc w→Fn Tryz.prog f vs.toArray w [] R) (h:∀ v hn,R v hn→fA Tryz.prog n w0 mu all ds l h0 aG Y r ((i,v)::aN) (hn++hc)) (ho:all[i]?=some ⟨some d,.call { callee:=.value (.func f),args:=xs.toArray,argTypes:=tys },ty,pos,af,none⟩:=by rfl) (dY:mem mY f=true:=by rfl) (hv:evs (aA ds (aN++aG) af.toList++l) xs=some vs:=by rfl):fA Tryz.prog n w0 mu all ds l h0 aG Y (i::r) aN hc:=
 TN ho (J9 (fV f dY) hv hcl) h
theorem wC {t len e sz:Nat} {z:Value} {ps:List (Nat × Operand)} {vs:List (Nat × Value)} {zl:List Value} {out:Array Value} (out':List Value) (h:∀ b,fA Tryz.prog n w0 mu all ds l h0 aG Y r ((i,.slice (some ⟨b,0,none⟩) len len)::aN) (⟨b,out'.toArray,e⟩::hc)) (ho:all[i]?=some ⟨some d,.buildSlice t len ps.toArray,ty,pos,af,none⟩:=by rfl) (ht:lk Tb.sl t=some (e,sz):=by rfl) (hz:lk Tb.zs e=some z:=by rfl) (hzc:z.cells=zl.toArray:=by (first | ((simp only [Value.cells])<;>rfl) | rfl)) (hzs:Nat.beq zl.length sz=true:=by rfl) (hpos:(Nat.blt 0 (len * sz) && Nat.ble (len * sz) 16777216)=true:=by rfl) (hv:FQ (aA ds (aN++aG) af.toList++l) ps=some vs:=by rfl) (hf:VE sz (rep zl len).toArray vs=some out:=by rfl) (hn:out=out'.toArray:=by rfl):fA Tryz.prog n w0 mu all ds l h0 aG Y (i::r) aN hc:=
 TN ho (Df ay ht hz hzc hzs hpos hv hf hn) (by rintro _ _ ⟨b,rfl,rfl⟩;exact h b)
theorem sV (hy:∀ hx,Hy Tryz.prog n w0 mu (aA ds (aN++aG) af.toList++l) (hx++hc) ⟨some d,op,ty,pos,af,none⟩ v) (h:fA Tryz.prog n w0 mu all ds l h0 aG Y r ((i,v)::aN) hc) (ho:all[i]?=some ⟨some d,op,ty,pos,af,none⟩:=by rfl):fA Tryz.prog n w0 mu all ds l h0 aG Y (i::r) aN hc:=YX ho hy h
theorem aV {t:TypeId} {x y:Operand} {b off sz:Nat} {vs:List Value} {cs cs':Array Value} {tb:TypeId} {hp':Hp} (h:fA Tryz.prog n w0 mu all ds l h0 aG Y r aN (⟨b,cs',tb⟩::hp')) (hperm:(⟨b,cs,tb⟩::hp').Perm hc) (ho:all[i]?=some ⟨none,.store t x y,ty,pos,af,none⟩:=by rfl)
  (hx:ev (aA ds (aN++aG) af.toList++l) x=some (.pointer (some ⟨b,off,none⟩)):=by rfl) (hy:ev (aA ds (aN++aG) af.toList++l) y=some v:=by rfl) (pq:v.cells=vs.toArray:=by (first | ((simp only [Value.cells])<;>rfl) | rfl)) (hs:lk Tb.sz t=some sz:=by rfl) (hl:vs.length=sz:=by rfl) (hv1:vs.all (·.oneCell')=true:=by first | rfl | (focus (simp;done))) (hlt:off + vs.length≤cs.size:=by first | omega | (focus (simp;done)) | (focus (simp;omega))) (hput:putAt cs off vs=cs':=by (first | ((simp only [putAt,Value.cells,List.toList_toArray,List.setIfInBounds_toArray,List.set_cons_zero,List.set_cons_succ,List.drop_succ_cons,List.drop_zero,List.take_succ_cons,List.take_zero,List.cons_append,List.nil_append,List.append_nil])<;>rfl) | rfl))
  (hle:aF h0 (⟨b,cs',tb⟩::hp'):=by (exact ak)):fA Tryz.prog n w0 mu all ds l h0 aG Y (i::r) aN hc:=WY ay ho hx hy pq hs hl hperm hv1 hlt hput hle h
theorem di {rest:List Oper} {fr:Fm} (h:Ops Tryz.prog n w0 mu all rest (fr++l) hc Q) (hfr:aY ds iv=fr:=by (simp only [aY,bM,List.cons_append,List.nil_append,reduceIte,Nat.reduceEqDiff];rfl)):Ops Tryz.prog n w0 mu all rest (aY ds iv++l) hc Q:=by rw [hfr];exact h
end
end
section
def MF:List (Nat × Value × Hp)→Hp
 | []=>[]
 | p::r=>p.2.2++MF r
def VM:List (Nat × Value × Hp)→Fm
 | []=>[]
 | p::r=>(p.1,p.2.1)::VM r
theorem KA:∀ {Dn:List (Nat × Value × Hp)} {i:Nat} {v:Value},(i,v)∈VM Dn↔∃ hn,(i,v,hn)∈Dn:=by
 intro Dn
 induction Dn with
 | nil=>intro i v;simp [VM]
 | cons p r ih=>
  intro i v
  obtain ⟨j,u,hu⟩:=p
  simp only [VM,List.mem_cons,ih]
  constructor
  ·rintro (h | ⟨hn,h⟩)
   ·cases h;exact ⟨hu,.inl rfl⟩
   ·exact ⟨hn,.inr h⟩
  ·rintro ⟨hn,h | h⟩
   ·cases h;exact .inl rfl
   ·exact .inr ⟨hn,h⟩
theorem jP {listed:Array Bool} {i j:Nat} (h:listed.getD j true=true):(listed.setIfInBounds i true).getD j true=true:=by
 by_cases hij:i=j
 ·subst hij
  simp only [Array.getD_eq_getD_getElem?,Array.getElem?_setIfInBounds] at h ⊢
  simp
  split<;>simp
 ·rw [getD_set_ne true hij];exact h
section
variable {P : Program} {n : Nat} {w0 : World} {mu : List Nat} {l : Fm} {h0 hp : Hp} {Q : Exit → Fm → Hp → Prop} {all : Array Oper} {aG : Fm} {k t0 : Nat} {ds : List (Nat × Nat)}
theorem WZ (hds:∀ k d,lk ds k=some d→aQ all k=some d) {g:Nat} {Q':Exit→Act→World→Prop} (hk:k≤all.size) (hd:pG all k n=true) (hf:bu l (dstsOf all k)=true) (hback:lH all=true) (hle0:aF h0 hp)
  (hS:∀ i v,lk aG i=some v→i<k∧∃ o bC,all[i]?=some o∧lG bC aG∧∀ hx,pz P n w0 mu all (aA ds bC o.after.toList++l) (bif Region.waitsFor .any all t0 i then hx++hp else hx++h0) o v)
  {E C:List Nat} {Rf:Nat→RT}
  (hE:∀ i∈E,i<k∧lk aG i=none∧∃ o,all[i]?=some o∧wL P n w0 mu all (aA ds aG o.after.toList++l) hp o (Rf i))
  (yH:E.Nodup) (hCS:∀ i∈C,∀ {v:Value},lk aG i ≠ some v) (ad2:∀ i∈E,i ∉ C)
  (hcov:∀ i,i<k→(∃ v,lk aG i=some v)∨i∈E∨i∈C)
  (hCE:∀ i∈C,∀ listed,i∈Region.ready .any all listed→(∀ j∈C,listed.getD j true=false)→∀ j∈E,listed.getD j false=true)
  (jW:∀ listed,HeadInv .any all k listed→∀ i,i<k→listed.getD i true=false→∀ t,k≤t→t ∉ Region.ready .any all listed)
  (cont:∀ f Dn listed a w,leftOf k listed=f→HeadInv .any all k listed→((Dn.map (·.1)).Perm E)→(∀ p∈Dn,Rf p.1 p.2.1 p.2.2)→nK n w0 mu all l aG (VM Dn) (MF Dn++hp) listed a w→(∀ i∈E,listed.getD i true=true)→(∀ i∈C,listed.getD i true=false)→wpAny P .any all Q' (f + g) listed a w):
  ∀ f E' Dn listed a w,leftOf k listed=f→HeadInv .any all k listed→((Dn.map (·.1))++E').Perm E→(∀ p∈Dn,Rf p.1 p.2.1 p.2.2)→nK n w0 mu all l aG (VM Dn) (MF Dn++hp) listed a w→(∀ p∈Dn,listed.getD p.1 true=true)→(∀ i∈E',listed.getD i true=false)→(∀ i∈C,listed.getD i true=false)→wpAny P .any all Q' (f + g) listed a w:=by
 intro f
 induction f with
 | zero=>
  intro E' Dn listed a w hlf inv jv hR hm hDl hEl PR
  cases E' with
  | nil=>
   rw [List.append_nil] at jv
   exact cont 0 Dn listed a w hlf inv jv hR hm (fun i hi=>by
    obtain ⟨p,hp1,rfl⟩:=List.mem_map.1 (jv.mem_iff.2 hi)
    exact hDl p hp1) PR
  | cons c r=>
   exfalso
   have hcE:c∈E:=jv.mem_iff.1 (List.mem_append_right _ (List.mem_cons_self ..))
   have h1:=(hE c hcE).1
   have:c∈(List.range k).filter fun i=>!listed.getD i true:=List.mem_filter.2 ⟨List.mem_range.2 h1,by simp only [hEl c (List.mem_cons_self ..),Bool.not_false]⟩
   have h2:=List.length_pos_of_mem this
   unfold leftOf at hlf
   omega
 | succ f ih=>
  intro E' Dn listed a w hlf inv jv hR hm hDl hEl PR
  cases E' with
  | nil=>
   rw [List.append_nil] at jv
   exact cont (f + 1) Dn listed a w hlf inv jv hR hm (fun i hi=>by
    obtain ⟨p,hp1,rfl⟩:=List.mem_map.1 (jv.mem_iff.2 hi)
    exact hDl p hp1) PR
  | cons c r=>
  generalize hEE:c::r=E' at jv hEl
  have hcE':c∈E':=by rw [← hEE];exact List.mem_cons_self ..
  have hcE:c∈E:=jv.mem_iff.1 (List.mem_append_right _ hcE')
  have hEk:∀ i v,(i,v)∈VM Dn→i<k:=fun i v hiv=>by
   obtain ⟨hn,h1⟩:=KA.1 hiv
   exact (hE i (jv.mem_iff.1 (List.mem_append_left _ (List.mem_map.2 ⟨_,h1,rfl⟩)))).1
  have ad4:aF hp (MF Dn++hp):=aF.right _ _
  have YY:aF h0 (MF Dn++hp):=bU fun b=>by have:=hle0.cnt b;rw [dZ];omega
  rw [show f + 1 + g=(f + g) + 1 by omega]
  obtain ⟨i0,jF,hi0⟩:∃ i,i<k∧listed.getD i true=false:=⟨c,(hE c hcE).1,hEl c hcE'⟩
  refine ⟨fun hnil=>?_,fun i hi=>?_⟩
  ·exfalso
   obtain ⟨i,⟨hik,hil⟩,hmin⟩:=exists_least (p:=fun i=>i<k∧listed.getD i true=false) ⟨i0,jF,hi0⟩
   have hr:i∈Region.ready .any all listed:=by
    rw [mem_ready]
    have hs:i<all.size:=by omega
    refine ⟨hil,all[i],by simp [hs],fun e he hb=>?_⟩
    have hb2:=List.all_eq_true.1 hback i (List.mem_range.2 hs)
    simp only [Array.getElem?_eq_getElem hs] at hb2
    have hb3:=(Array.all_eq_true_iff_forall_mem.1 hb2) e he
    simp only [hb,Bool.not_true,Bool.false_or,Nat.blt_eq] at hb3
    cases hc:listed.getD e.on false with
    | true=>rfl
    | false=>
     have h5:=hmin e.on ⟨by omega,getD_in av7 hc⟩
     omega
   rw [hnil] at hr;cases hr
  ·have hik:i<k:=by
    rcases Nat.lt_or_ge i k with h | h
    ·exact h
    ·exact absurd hi (jW listed inv i0 jF hi0 i h)
   obtain ⟨hun,o,ho,hall⟩:=mem_ready.1 hi
   have hsz:i<listed.size:=by rw [inv.size];omega
   have nI:listed.getD i false=false:=getD_both hun
   have hleft:leftOf k (listed.setIfInBounds i true)=f:=by have:=jI hik av7 hun;omega
   have hwl:∀ t,Region.waitsFor .any all i t=true→listed.getD t false=true:=fun t ht=>by
    obtain ⟨oj,h6,e,he,hb,heq⟩:=Region.waitsFor_spec ht
    rw [ho] at h6;cases h6
    rw [← heq];exact hall e he hb
   unfold wpOp
   simp only [ho]
   cases qP:lk aG i with
   | some v=>
    obtain ⟨_,o',bC,ho',hmo,hy⟩:=hS i v qP
    rw [ho] at ho';cases ho'
    have hkn:=iQ (o:=o) hds hm (bC:=bC) (fun j u hu=>.inr (hmo j u aw4)) hall
    have YZ:i ∉ E:=fun hm'=>by rw [(hE i hm').2.1] at qP;cases qP
    have hnext:∀ w',Good w0 mu (MF Dn++hp) w'→wpAny P .any all Q' (f + g) (listed.setIfInBounds i true) (a.put o.dst v) w':=fun w' hG'=>by
     refine ih E' Dn _ _ _ hleft (inv.set hi hik) jv hR (lM hm ho hik hun hsz hd hf hG' (fun j u hu=>(hS j u hu).1) hEk (.inl ⟨qP,rfl⟩)) (fun p hp1=>jP (hDl p hp1)) (fun j hj=>?_) (fun j hj=>?_)
     ·have hji:i ≠ j:=fun e=>YZ (by rw [e];exact jv.mem_iff.1 (List.mem_append_right _ hj))
      rw [getD_set_ne true hji];exact hEl j hj
     ·have hji:i ≠ j:=fun e=>by subst e;exact hCS _ hj qP
      rw [getD_set_ne true hji];exact PR j hj
    obtain ⟨hx,h3,jv⟩:∃ hx,pz P n w0 mu all (aA ds bC o.after.toList++l) hx o v∧hx.Perm (MF Dn++hp):=by
     cases hwt:Region.waitsFor .any all t0 i with
     | true=>
      have ht0:listed.getD t0 false=false:=by
       cases hc:listed.getD t0 false with
       | false=>rfl
       | true=>
        obtain ⟨oj,h6,e,he,hb,heq⟩:=Region.waitsFor_spec hwt
        have:=inv.closed t0 oj h6 hc e he hb
        rw [heq,nI] at this;cases this
      obtain ⟨x,hxp⟩:=ad4.perm
      have h4:=hy x
      rw [hwt] at h4
      exact ⟨x++hp,h4,List.perm_append_comm.trans hxp⟩
     | false=>
      obtain ⟨x,hxp⟩:=YY.perm
      have h4:=hy x
      rw [hwt] at h4
      exact ⟨x++h0,h4,List.perm_append_comm.trans hxp⟩
    have hgd:Good w0 mu hx w:=hm.good.perm jv
    replace hnext:∀ w',Good w0 mu hx w'→wpAny P .any all Q' (f + g) (listed.setIfInBounds i true) (a.put o.dst v) w':=fun w' hG'=>hnext w' (hG'.perm jv.symm)
    unfold pz at h3
    cases hg:o.guard with
    | none=>
     rw [hg] at h3
     rw [if_pos aw2]
     exact .inl (h3 a w hkn hgd _ _ hnext)
    | some jw=>
     obtain ⟨j,want⟩:=jw
     rw [hg] at h3
     obtain ⟨dj,c0,b,u,hj,hb,hdj,hy,hvv⟩:=h3
     have hw:=gY hkn hg hj hb hdj
     cases hc:(c0 && jg b want) with
     | true=>
      rw [hc] at hw hvv
      rw [if_pos hw]
      rw [Bool.and_eq_true] at hc
      rw [show v=u from hvv] at hnext
      exact .inl (hy hc.1 hc.2 a w hkn hgd _ _ hnext)
     | false=>
      rw [hc] at hw hvv
      rw [if_neg ax7]
      rw [show v=undef from hvv] at hnext
      exact hnext w hgd
   | none=>
    rcases (hcov i hik).resolve_left (fun ⟨v,hv⟩=>by rw [qP] at hv;cases hv) with YZ | hiC
    ·have ad5:i∈E':=by
      rcases List.mem_append.1 (jv.mem_iff.2 YZ) with h | h
      ·obtain ⟨p,hp1,rfl⟩:=List.mem_map.1 h
       rw [hDl p hp1] at hun;cases hun
      ·exact h
     obtain ⟨_,_,o',ho',hg,hEo⟩:=hE i YZ
     rw [ho] at ho';cases ho'
     have hkn:=iQ (o:=o) hds hm (bC:=aG) (fun j u hu=>.inr aw4) hall
     rw [if_pos (hg _ hkn)]
     refine .inl (hEo a w (MF Dn) hkn hm.good _ _ fun v hn w' hRi hG'=>?_)
     obtain ⟨s,t,hst⟩:=List.append_of_mem ad5
     have Y0:(((i,v,hn)::Dn).map (·.1)++(s++t)).Perm E:=by
      refine List.Perm.trans ?_ jv
      rw [hst,List.map_cons,List.cons_append,← List.append_assoc,← List.append_assoc]
      exact List.perm_middle.symm
     have hnd':i ∉ s++t:=fun hm'=>by
      have h5:=jv.nodup_iff.2 yH
      rw [List.nodup_append] at h5
      have h6:=h5.2.1
      rw [hst] at h6
      have h7:=(List.perm_middle (a:=i) (l₁:=s) (l₂:=t)).nodup_iff.1 h6
      exact (List.nodup_cons.1 h7).1 hm'
     refine ih (s++t) ((i,v,hn)::Dn) _ _ _ hleft (inv.set hi hik) Y0 (fun p hp1=>?_) (lM (Cb:=(i,v)::VM Dn) hm ho hik hun hsz hd hf (by rw [MF,List.append_assoc];exact hG') (fun j u hu=>(hS j u hu).1) hEk (.inr ⟨qP,rfl⟩)) (fun p hp1=>?_) (fun j hj=>?_) (fun j hj=>?_)
     ·rcases List.mem_cons.1 hp1 with rfl | hp1
      ·exact hRi
      ·exact hR p hp1
     ·rcases List.mem_cons.1 hp1 with rfl | hp1
      ·simp [hsz]
      ·exact jP (hDl p hp1)
     ·have hji:i ≠ j:=fun e=>hnd' (e▸hj)
      rw [getD_set_ne true hji]
      refine hEl j ?_
      rw [hst]
      rcases List.mem_append.1 hj with h | h
      ·exact List.mem_append_left _ h
      ·exact List.mem_append_right _ (List.mem_cons_of_mem _ h)
     ·have hji:i ≠ j:=fun e=>by subst e;exact ad2 _ YZ hj
      rw [getD_set_ne true hji];exact PR j hj
    ·exfalso
     have h5:=hCE i hiC listed hi PR c hcE
     rw [getD_both (hEl c hcE')] at h5;cases h5
theorem TP:∀ (Dn:List (Nat × Value × Hp)) (c:Ch),(∀ p∈Dn,c p.1=p.2)→MF Dn=Iq c (Dn.map (·.1)):=by
 intro Dn
 induction Dn with
 | nil=>intro c _;rfl
 | cons p r ih=>
  intro c h
  rw [MF,List.map_cons,Iq,ih c (fun q hq=>h q (List.mem_cons_of_mem _ hq)),h p (List.mem_cons_self ..)]
theorem PT {c:Ch} {L M:List Nat} (h:L.Perm M):(Iq c L).Perm (Iq c M):=by
 induction h with
 | nil=>exact .refl _
 | cons x _ ih=>exact List.Perm.append_left _ ih
 | swap x y l=>
  simp only [Iq]
  rw [← List.append_assoc,← List.append_assoc]
  exact List.Perm.append_right _ List.perm_append_comm
 | trans _ _ h1 h2=>exact h1.trans h2
def Eu (ops:Array Oper) (n k t0:Nat) (S E C:List Nat):Bool:=
 pG ops k n && lH ops && nJ k S (E++C) && nT ops C && (match C with | []=>true | c::_=>E.all fun j=>Region.waitsFor .any ops c j) && oQ ops k && (List.range k).all fun i=>(aQ ops i).isSome || Nat.beq i t0 || Region.waitsFor .any ops i t0
def PU (Dn:List (Nat × Value × Hp)):Ch:=fun i=>match lk Dn i with | some x=>x | none=>(undef,[])
theorem TQ:∀ {Dn:List (Nat × Value × Hp)},(Dn.map (·.1)).Nodup→∀ p∈Dn,PU Dn p.1=p.2:=by
 intro Dn
 induction Dn with
 | nil=>intro _ p h;cases h
 | cons q r ih=>
  intro hnd p hp
  rw [List.map_cons,List.nodup_cons] at hnd
  unfold PU
  obtain ⟨j,x⟩:=q
  rw [bM]
  rcases List.mem_cons.1 hp with rfl | hp
  ·simp
  ·have hne:j ≠ p.1:=fun e=>hnd.1 (by simp only at e ⊢;rw [e];exact List.mem_map.2 ⟨p,hp,rfl⟩)
   rw [if_neg hne]
   exact ih hnd.2 p hp
theorem MG {ops:List Oper} (k t0:Nat) (S E C:List Nat) (h0:Hp) (hB:Eu ops.toArray n k t0 S E C=true) (hf:bu l (dstsOf ops.toArray k)=true) (hle0:aF h0 hp) (hds:bP ops 0=ds)
  (h:DS P n w0 mu ops.toArray ds l h0 hp t0 (fun aG=>iq P n w0 mu ops.toArray ds l hp aG (fun Rs=>DN (fun iv bl=>fA P n w0 mu ops.toArray ds l h0 aG (fun aN hc=>Ops P n w0 mu ops.toArray (ops.drop k) (aY ds (aN++aG)++l) hc Q) C iv (bl++hp)) Rs) E []) S []):lq P n w0 mu ops.toArray l hp Q:=by
 intro a w hkn hG
 simp only [Eu,Bool.and_eq_true] at hB
 obtain ⟨⟨⟨⟨⟨⟨hd,hback⟩,oU⟩,dU⟩,hhead⟩,fQ⟩,qf⟩:=hB
 simp only [nJ,Bool.and_eq_true,decide_eq_true_eq] at oU
 obtain ⟨⟨hnd,hlt⟩,hcov⟩:=oU
 have hlt':∀ i∈S++(E++C),i<k:=fun i hi=>by have:=List.all_eq_true.1 hlt i hi;simpa using this
 rw [List.nodup_append,List.nodup_append] at hnd
 obtain ⟨wz,⟨yH,yR,hEC⟩,ad6⟩:=hnd
 obtain ⟨aG,hX,Gj,nP,hsS⟩:=Es S [] wz (fun _ _=>rfl) (fun _ _ h=>by cases h) h (fun i v hv=>by cases hv)
 simp only [lk,reduceCtorEq,exists_false,or_false] at nP
 have hX2:=Aq (Y:=fun Rs=>DN (fun iv bl=>fA P n w0 mu ops.toArray ds l h0 aG (fun aN hc=>Ops P n w0 mu ops.toArray (ops.drop k) (aY ds (aN++aG)++l) hc Q) C iv (bl++hp)) Rs∧Rs.map (·.1)=E.reverse) E [] (fun zQ h1 h2=>⟨h2,by simpa using h1⟩) hX
 obtain ⟨RE,⟨hXE,ad7⟩,nR,hsE⟩:=Ei E [] yH (fun _ _=>rfl) hX2 (fun i R hi=>by cases hi)
 simp only [lk,reduceCtorEq,exists_false,or_false] at nR
 have hks:k≤ops.toArray.size:=by
  simp only [oQ,Bool.or_eq_true,Bool.and_eq_true,decide_eq_true_eq] at fQ
  rcases fQ with h | h<;>omega
 have jR:∀ i d,lk ds i=some d→aQ ops.toArray i=some d:=fun i d h=>by rw [← hds] at h;have:=(jb ops 0 i d h).2;simpa [aQ] using this
 have inv0:HeadInv .any ops.toArray k (Array.replicate ops.toArray.size false):=
  ⟨by simp,fun j oj _ hl=>av6,fun t _ ht=>getD_in ay4 (getD_replicate_false _ _)⟩
 have zC:∀ i,i<k→(Array.replicate ops.toArray.size false).getD i true=false:=fun i hi=>getD_in ay5 (getD_replicate_false _ _)
 have hleft:leftOf k (Array.replicate ops.toArray.size false)=k:=by
  unfold leftOf
  rw [List.filter_eq_self.2]
  ·simp
  ·intro i hi
   simp only [zC i ay0,Bool.not_false]
 have W9:∀ i,i∈E++C→lk aG i=none:=fun i hi=>by
  cases hv:lk aG i with
  | none=>rfl
  | some v=>exact absurd rfl (ad6 i ((nP i).1 ⟨v,hv⟩) i hi)
 have hS':∀ i v,lk aG i=some v→i<k∧∃ o bC,ops.toArray[i]?=some o∧lG bC aG∧∀ hx,pz P n w0 mu ops.toArray (aA ds bC o.after.toList++l) (bif Region.waitsFor .any ops.toArray t0 i then hx++hp else hx++h0) o v:=fun i v hv=>⟨hlt' i (List.mem_append_left _ ((nP i).1 ⟨v,hv⟩)),hsS i v hv⟩
 have jW:∀ listed,HeadInv .any ops.toArray k listed→∀ i,i<k→listed.getD i true=false→∀ t,k≤t→t ∉ Region.ready .any ops.toArray listed:=fun listed inv i hi hun t ht=>by
  simp only [oQ,Bool.or_eq_true,Bool.and_eq_true,decide_eq_true_eq] at fQ
  rcases fQ with h | ⟨⟨⟨qY,hs⟩,hc⟩,hseq⟩
  ·intro hr
   obtain ⟨_,o,ho,_⟩:=mem_ready.1 hr
   have:=(Array.getElem?_eq_some_iff.1 ho).1
   omega
  ·exact tail_waits hs hc qY inv _ i rfl hi hun t ht
 have Xa:(RE.map (·.1)).Perm E:=by rw [ad7];exact List.reverse_perm E
 have hE':∀ i∈E,i<k∧lk aG i=none∧∃ o,ops.toArray[i]?=some o∧wL P n w0 mu ops.toArray (aA ds aG o.after.toList++l) hp o (match lk RE i with | some R=>R | none=>fun _ _=>False):=fun i hi=>by
  obtain ⟨R,hR⟩:=(nR i).2 hi
  obtain ⟨_,o,ho,he,_⟩:=hsE i R (iP hR)
  refine ⟨hlt' i (List.mem_append_right _ (List.mem_append_left _ hi)),W9 i (List.mem_append_left _ hi),o,ho,?_⟩
  rw [hR];exact he
 have VN:∀ i,i<k→(∃ v,lk aG i=some v)∨i∈E∨i∈C:=fun i hi=>by
  have:=bV (List.all_eq_true.1 hcov i (List.mem_range.2 hi))
  rcases List.mem_append.1 this with h | h
  ·exact .inl ((nP i).2 h)
  ·exact .inr (List.mem_append.1 h)
 have hCE:∀ i∈C,∀ listed:Array Bool,i∈Region.ready .any ops.toArray listed→(∀ j∈C,listed.getD j true=false)→∀ j∈E,listed.getD j false=true:=fun i hi listed hr PR j hj=>by
  obtain ⟨hun,o,ho,hall⟩:=mem_ready.1 hr
  have hwl:∀ t,Region.waitsFor .any ops.toArray i t=true→listed.getD t false=true:=fun t ht=>by
   obtain ⟨oj,h6,e,he,hb,heq⟩:=Region.waitsFor_spec ht
   rw [ho] at h6;cases h6
   rw [← heq];exact hall e he hb
  cases C with
  | nil=>cases hi
  | cons c r=>
   rcases List.mem_cons.1 hi with rfl | hir
   ·exact hwl j (List.all_eq_true.1 hhead j hj)
   ·exfalso
    obtain ⟨p,hp⟩:=rF dU hir
    rcases hp with ⟨h1,_,h3⟩ | ⟨_,h3⟩ | ⟨p,h1,h3⟩
    ·have h5:=hwl p h3;rw [getD_both (PR p h1)] at h5;cases h5
    ·exact h3
    ·have h5:=hwl p h3;rw [getD_both (PR p h1)] at h5;cases h5
 have key:=WZ (g:=ops.toArray.size - k) (Q':=QQ n w0 mu Q) jR hks hd hf hback hle0 hS' (C:=C) hE' yH (fun i hi v hv=>by rw [W9 i (List.mem_append_right _ hi)] at hv;cases hv) (fun i hi hc=>hEC i hi i hc rfl) VN hCE jW ?_ k E [] (Array.replicate ops.toArray.size false) a { w with drawn:=w.drawn + 1 } hleft inv0 av4 (fun p hp=>by cases hp)
  ⟨hkn.size,hkn.defers,hkn.has,hG.drawn _,fun i v _ hl=>av6,fun i v hv=>by cases hv⟩ (fun p hp=>by cases hp) (fun i hi=>zC i (hlt' i (List.mem_append_right _ (List.mem_append_left _ hi)))) (fun i hi=>zC i (hlt' i (List.mem_append_right _ (List.mem_append_right _ hi))))
 ·have e:k + (ops.toArray.size - k)=ops.toArray.size:=by omega
  rw [e] at key
  exact key
 intro f Dn listed a w hlf inv jv hR hm hEl PR
 have Ej:(Dn.map (·.1)).Nodup:=jv.nodup_iff.2 yH
 have hch:=TQ Ej
 have hbl:MF Dn=Iq (PU Dn) (Dn.map (·.1)):=TP Dn _ hch
 have Y3:(Iq (PU Dn) (RE.map (·.1))).Perm (MF Dn):=by rw [hbl];exact PT (Xa.trans jv.symm)
 have hval:∀ i R,(i,R)∈RE→∃ hn,(i,(PU Dn i).1,hn)∈Dn∧R (PU Dn i).1 (PU Dn i).2:=fun i R hi=>by
  have h1:i∈Dn.map (·.1):=jv.mem_iff.2 (Xa.mem_iff.1 (List.mem_map.2 ⟨_,hi,rfl⟩))
  obtain ⟨p,hp1,hp2⟩:=List.mem_map.1 h1
  subst hp2
  have h2:=hR p hp1
  rw [(hsE p.1 R hi).1] at h2
  rw [hch p hp1]
  exact ⟨p.2.2,hp1,h2⟩
 have ad8:zx (PU Dn) RE:=xx RE fun p hp=>(hval p.1 p.2 hp).choose_spec.2
 have hD:=O7 RE _ (PU Dn) hXE ad8
 refine Dh jR (P:=P) (n:=n) (w0:=w0) (mu:=mu) (l:=l) (hp:=hp) (h0:=h0) (all:=ops.toArray) (aG:=aG) (k:=k) (t0:=t0) (g:=ops.toArray.size - k) (Q':=QQ n w0 mu Q) (X:=fun aN hc=>Ops P n w0 mu ops.toArray (ops.drop k) (aY ds (aN++aG)++l) hc Q) hks hd hf hback hle0
  (fun i hi hdn=>by
   have:=List.all_eq_true.1 qf i (List.mem_range.2 hi)
   rw [hdn] at this
   simp only [Option.isSome_none,Bool.false_or,Bool.or_eq_true] at this
   rcases this with h | h
   ·exact .inl (Nat.eq_of_beq_eq_true h)
   ·exact .inr h)
  hS' (fun aN h listed inv hall hX a w hmid hEk=>?_) jW f C (sJ (PU Dn) RE) (Iq (PU Dn) (RE.map (·.1))++hp) listed a w hlf inv ⟨hm.size,hm.defers,hm.has,hm.good.perm (List.Perm.append_right _ Y3),hm.nU,fun i v hv=>?_⟩ (fun i v hv=>?_) (fun i hi=>⟨hlt' i (List.mem_append_right _ (List.mem_append_right _ hi)),PR i hi,W9 i (List.mem_append_right _ hi)⟩) yR dU (fun i hi hl=>?_) (bU fun b=>by have:=hle0.cnt b;rw [dZ];omega) (fun _=>aF.right _ _) hD
 ·have mG:Knows n (aY ds (aN++aG)++l) a:=by
   refine ⟨hmid.size,hmid.defers,fun t v ht=>?_⟩
   rcases dW ht with ht | ⟨_,ht⟩
   ·obtain ⟨j,h1,h2⟩:=ig (gm ht)
    rcases List.mem_append.1 h1 with h1 | h1
    ·exact (hmid.jZ j v h1).2 t (jR _ _ h2)
    ·have hj:=Gj j v h1
     have hjk:=hlt' j (List.mem_append_left _ ((nP j).1 ⟨v,hj⟩))
     refine hmid.nU j v hj ?_ t (jR _ _ h2)
     have h5:=hall j hjk
     cases hcc:listed.getD j false with
     | true=>rfl
     | false=>rw [getD_in av7 hcc] at h5;cases h5
   ·exact hmid.has t v ht
  have hfin:=hX a w mG hmid.good
  simp only [oQ,Bool.or_eq_true,Bool.and_eq_true,decide_eq_true_eq] at fQ
  rcases fQ with AO | ⟨⟨⟨qY,hs⟩,hc⟩,hseq⟩
  ·have e0:ops.drop k=[]:=List.drop_eq_nil_of_le (by simp at AO;omega)
   rw [e0] at hfin
   rw [show ops.toArray.size - k=0 by omega]
   refine ⟨?_,hfin⟩
   rw [List.eq_nil_iff_forall_not_mem]
   intro i hi
   obtain ⟨hun,o,ho,_⟩:=mem_ready.1 hi
   have hi':i<k:=by rw [AO];exact (Array.getElem?_eq_some_iff.1 ho).1
   rw [hall i hi'] at hun;cases hun
  ·have hl:listed=(Array.replicate k true)++(Array.replicate (ops.toArray.size - k) false):=by
    apply Array.ext
    ·simp [inv.size];simp at qY;omega
    ·intro i h1 h2
     by_cases hi:i<k
     ·have:=hall i hi
      simp [h1] at this
      rw [Array.getElem_append_left ay0]
      simpa using this
     ·have h3:=inv.tail i au' ax'
      simp [h1] at h3
      rw [Array.getElem_append_right aw0]
      simpa using h3
   have hdl:(ops.drop k).length=ops.toArray.size - k:=by simp
   rw [← hdl]
   exact wpAny_of_seq (ops.drop k) k listed a w (fun j=>by simp) ay6 hfin
 ·obtain ⟨h1,R,hR1⟩:=uQ RE hv
  obtain ⟨hn,h2,_⟩:=hval i R hR1
  rw [h1]
  exact hm.jZ i _ (KA.2 ⟨hn,h2⟩)
 ·obtain ⟨h1,R,hR1⟩:=uQ RE hv
  exact (hE' i (Xa.mem_iff.1 (List.mem_map.2 ⟨_,hR1,rfl⟩))).1
 ·rcases VN i hi with h | h | h
  ·exact .inl h
  ·rw [hEl i h] at hl;cases hl
  ·exact .inr h
end
attribute [local irreducible] Hy St Ops DH gB iH iq fK
section
variable {n : Nat} {w0 : World} {mu : List Nat} {l : Fm} {h0 hp : Hp} {Q : Exit → Fm → Hp → Prop} {ds : List (Nat × Nat)}
theorem oV {id:Nat} {ops tl:List Oper} (k t0:Nat) (S E C:List Nat) (h0:Hp) (h:DS Tryz.prog n w0 mu ops.toArray ds l h0 hp t0 (fun aG=>iq Tryz.prog n w0 mu ops.toArray ds l hp aG (fun Rs=>DN (fun iv bl=>fA Tryz.prog n w0 mu ops.toArray ds l h0 aG (fun aN hc=>Ops Tryz.prog n w0 mu ops.toArray tl (aY ds (aN++aG)++l) hc Q) C iv (bl++hp)) Rs) E []) S [])
  (hle0:aF h0 hp:=by (exact ak)) (hds:bP ops 0=ds:=by (simp only [bP,Nat.reduceAdd,Nat.zero_add];rfl)) (htl:ops.drop k=tl:=by (simp only [List.drop_succ_cons,List.drop_zero,List.drop_nil];rfl)) (hm:Tryz.prog.follows .mixedOrders=true:=by kernel_rfl) (hB:Eu ops.toArray n k t0 S E C=true:=by decide +kernel) (hf:bu l (dstsOf ops.toArray k)=true:=by rfl):St Tryz.prog n w0 mu (.region id ops.toArray true) l hp Q:=
 qX hm (MG k t0 S E C h0 hB hf hle0 hds az7)
end
section
variable {n : Nat} {w0 : World} {mu : List Nat} {l : Fm} {h0 hp : Hp} {all : Array Oper} {iv : Fm} {t0 i d : Nat} {ds : List (Nat × Nat)} {S : List Nat} {X : Fm → Prop} {ty : TypeId} {pos : String} {af : Array Edge} {v : Value}
theorem kU {f:FuncId} {xs:List Operand} {vs:List Value} {tys:Array TypeId} (hc:∀ w hx,Good w0 mu (hx++hp) w→Fn Tryz.prog f vs.toArray w [] (fun u _=>u=v)) (h:DS Tryz.prog n w0 mu all ds l h0 hp t0 X S ((i,v)::iv)) (ho:all[i]?=some ⟨some d,.call { callee:=.value (.func f),args:=xs.toArray,argTypes:=tys },ty,pos,af,none⟩:=by rfl) (hwt:Region.waitsFor .any all t0 i=true:=by decide +kernel) (dY:mem mY f=true:=by rfl) (hv:evs (aA ds iv af.toList++l) xs=some vs:=by rfl):DS Tryz.prog n w0 mu all ds l h0 hp t0 X (i::S) iv:=
 Et ho hwt (fun hx=>fJ (fV f dY) hv (fun w hG=>hc w hx hG)) h
end
section
variable {n : Nat} {w0 : World} {mu : List Nat} {l : Fm} {h0 hc : Hp} {all : Array Oper} {aG aN : Fm} {i d : Nat} {ds : List (Nat × Nat)} {r : List Nat} {Y : Fm → Hp → Prop} {ty : TypeId} {pos : String} {af : Array Edge}
theorem Ew {t:TypeId} {ps:List (Nat × Operand)} {vs:List (Nat × Value)} {z:Value} {pl:List (Nat × Nat)} {zc out out':Array Value} (h:fA Tryz.prog n w0 mu all ds l h0 aG Y r ((i,.agg out')::aN) hc) (ho:all[i]?=some ⟨some d,.build t ps.toArray,ty,pos,af,none⟩:=by rfl) (hz:lk Tb.zs t=some z:=by rfl) (hzc:z.cells=zc:=by (first | ((simp only [Value.cells])<;>rfl) | rfl)) (hpl:lk Tb.pl t=some pl:=by rfl) (hv:FQ (aA ds (aN++aG) af.toList++l) ps=some vs:=by rfl) (hf:fl pl zc vs=some out:=by rfl) (hn:out=out':=by (first | ((simp only [putAt,Value.cells,List.toList_toArray,List.setIfInBounds_toArray,List.set_cons_zero,List.set_cons_succ,List.drop_succ_cons,List.drop_zero,List.take_succ_cons,List.take_zero,List.cons_append,List.nil_append,List.append_nil])<;>rfl) | rfl)):fA Tryz.prog n w0 mu all ds l h0 aG Y (i::r) aN hc:=
 YX ho (fun hx=>zL ay hz hzc hpl hv hf hn) h
theorem cSame {t : TypeId} {x y : Operand} {b sz : Nat} {v : Value} {vs : List Value} {cs : Array Value} {tb : TypeId} (h : fA Tryz.prog n w0 mu all ds l h0 aG Y r aN hc) (ho : all[i]? = some ⟨none, .store t x y, ty, pos, af, none⟩ := by rfl)
    (hx : ev (aA ds (aN ++ aG) af.toList ++ l) x = some (.pointer (some ⟨b, 0, none⟩)) := by rfl) (hm : (⟨b, cs, tb⟩ : aI) ∈ hc := by (first | (with_reducible apply mh) | (focus ((repeat (first | (with_reducible apply mh) | (with_reducible apply mt) | (with_reducible apply List.mem_append_right))); done)))) (hy : ev (aA ds (aN ++ aG) af.toList ++ l) y = some v := by rfl) (pq : v.cells = vs.toArray := by (first | ((simp only [Value.cells]) <;> rfl) | rfl)) (hs : lk Tb.sz t = some sz := by rfl) (hl : vs.length = sz := by rfl) (hv1 : vs.all (·.oneCell') = true := by first | rfl | (focus (simp; done))) (hlt : 0 + vs.length ≤ cs.size := by first | omega | (focus (simp; done)) | (focus (simp; omega))) (hput : putAt cs 0 vs = cs := by (first | ((simp only [putAt, Value.cells, List.toList_toArray, List.setIfInBounds_toArray, List.set_cons_zero, List.set_cons_succ, List.drop_succ_cons, List.drop_zero, List.take_succ_cons, List.take_zero, List.cons_append, List.nil_append, List.append_nil]) <;> rfl) | rfl))
    (hle : aF h0 hc := by (exact ak)) : fA Tryz.prog n w0 mu all ds l h0 aG Y (i :: r) aN hc := by
  refine ⟨_, ho, .inr ⟨rfl, hc, ⟨rfl, rfl, fun a w hk hG K Q' hK => ?_⟩, hle, h⟩⟩
  obtain ⟨s, t', rfl⟩ := List.append_of_mem hm
  have hG' := hG.perm (hp' := ⟨b, cs, tb⟩ :: (s ++ t')) List.perm_middle.symm
  have hb := hG'.here _ (List.mem_cons_self ..)
  have hst := run_storeCells_cells (P := Tryz.prog) b 0 vs 0 w
    (fun j hj => by rw [cell_of_block hb]; have h3 : j < cs.size := by omega
                    simp [h3])
    (fun j _ => kF hb) (fun u hu => (List.all_eq_true.1 hv1) u hu)
  unfold Oper.wp
  have hrun : (execOp a.eval ⟨none, .store t x y, ty, pos, af, none⟩).run Tryz.prog w = .ok .skip (w.setCells b 0 vs) := by
    simp only [execOp, hk.ev hx, hk.ev hy]
    simp only [Nat.add_zero] at hst
    simp [Instr.storeAt, Instr.sureAddr, storeVar, pq, run_sizeOf (show fZ Tryz.prog t = some vs.length by rw [hl]; exact ay.tH hs) w, hst]
  rw [hrun]
  have h2 := Good.sets (w := w) vs cs 0 w hG'
  rw [hput] at h2
  exact hK _ (h2.perm List.perm_middle)
end
section
variable {n : Nat} {w0 : World} {mu : List Nat} {l : Fm} {h0 hc : Hp} {all : Array Oper} {aG aN : Fm} {i d : Nat} {ds : List (Nat × Nat)} {r : List Nat} {Y : Fm → Hp → Prop} {ty : TypeId} {pos : String} {af : Array Edge}
theorem qg {t:TypeId} {x y:Operand} {b off sz:Nat} {v:Value} {vs:List Value} {cs cs':Array Value} {tb:TypeId} {hp':Hp} (h:fA Tryz.prog n w0 mu all ds l h0 aG Y r aN (⟨b,cs',tb⟩::hp')) (ho:all[i]?=some ⟨none,.store t x y,ty,pos,af,none⟩:=by rfl)
  (hx:ev (aA ds (aN++aG) af.toList++l) x=some (.pointer (some ⟨b,off,none⟩)):=by rfl) (hy:ev (aA ds (aN++aG) af.toList++l) y=some v:=by rfl) (pq:v.cells=vs.toArray:=by (first | ((simp only [Value.cells])<;>rfl) | rfl)) (hs:lk Tb.sz t=some sz:=by rfl) (hl:vs.length=sz:=by rfl) (hperm:(⟨b,cs,tb⟩::hp').Perm hc:=by (first | (with_reducible apply p0) | (with_reducible apply p1) | (with_reducible apply p2) | (with_reducible apply p3) | (with_reducible apply p4) | (with_reducible apply p5))) (hv1:vs.all (·.oneCell')=true:=by first | rfl | (focus (simp;done))) (hlt:off + vs.length≤cs.size:=by first | omega | (focus (simp;done)) | (focus (simp;omega))) (hput:putAt cs off vs=cs':=by (first | ((simp only [putAt,Value.cells,List.toList_toArray,List.setIfInBounds_toArray,List.set_cons_zero,List.set_cons_succ,List.drop_succ_cons,List.drop_zero,List.take_succ_cons,List.take_zero,List.cons_append,List.nil_append,List.append_nil])<;>rfl) | rfl))
  (hle:aF h0 (⟨b,cs',tb⟩::hp'):=by (exact ak)):fA Tryz.prog n w0 mu all ds l h0 aG Y (i::r) aN hc:=WY ay ho hx hy pq hs hl hperm hv1 hlt hput hle h
end
section
variable {n : Nat} {w0 : World} {mu : List Nat} {l : Fm} {hp : Hp} {all : Array Oper} {iv : Fm} {i d : Nat} {ds : List (Nat × Nat)} {S : List Nat} {X : Fm → Prop} {ty : TypeId} {pos : String} {af : Array Edge} {v : Value}
end
end
section
section
variable {P : Program} {n : Nat} {w0 : World} {mu : List Nat} {l : Fm} {hp : Hp} {Q : Exit → Fm → Hp → Prop} {all : Array Oper} {kd : Nat → Kd} {val : Ch → Nat → Value} {k : Nat}
theorem Jf {ds:List (Nat × Nat)} (hds:∀ k d,lk ds k=some d→aQ all k=some d) {g:Nat} {Q':Exit→Act→World→Prop} (hk:k≤all.size) (hd:vz all k n=true) (hf:bu l (dstsOf all k)=true) (hback:lH all=true)
  (hS:∀ i o v,i<k→all[i]?=some o→kd i=.s v→(∀ c,val c i=v)∧∃ bC,(∀ j u,look bC j=some u→j<k∧∀ c,val c j=u)∧∀ hx,pz P n w0 mu all (aA ds bC o.after.toList++l) (hx++hp) o v)
  (hE:∀ i o R,i<k→all[i]?=some o→kd i=.e R→(∀ c,val c i=(c i).1)∧∃ bC,(∀ j u,look bC j=some u→j<k∧∀ c,val c j=u)∧wL P n w0 mu all (aA ds bC o.after.toList++l) hp o R)
  (hD:∀ c,Valid kd k c→∀ i o,i<k→all[i]?=some o→kd i=.d→∃ bC,(∀ j u,look bC j=some u→j<k∧val c j=u)∧zh P n w0 mu (aA ds bC o.after.toList++l) hp o (val c i))
  (htail:∀ f c listed,leftOf k listed=f→HeadInv .any all k listed→(∀ i,i<k→qO (kd i)=true→listed.getD i true=true)→∀ a w,sS n w0 mu all l hp kd val k c listed a w→wpAny P .any all Q' (f + g) listed a w)
  (jW:∀ listed,HeadInv .any all k listed→∀ i,i<k→qO (kd i)=true→listed.getD i true=false→∀ t,k≤t→t ∉ Region.ready .any all listed):
  ∀ f c listed a w,leftOf k listed=f→HeadInv .any all k listed→sS n w0 mu all l hp kd val k c listed a w→wpAny P .any all Q' (f + g) listed a w:=by
 intro f
 induction f with
 | zero=>
  intro c listed a w hlf inv hm
  refine htail 0 c listed hlf inv (fun i hi _=>?_) a w hm
  cases hc:listed.getD i true with
  | true=>rfl
  | false=>
   exfalso
   have:i∈(List.range k).filter fun i=>!listed.getD i true:=List.mem_filter.2 ⟨List.mem_range.2 hi,by simp only [hc,Bool.not_false]⟩
   have h2:=List.length_pos_of_mem this
   unfold leftOf at hlf
   omega
 | succ f ih=>
  intro c listed a w hlf inv hm
  by_cases lN:∀ i,i<k→qO (kd i)=true→listed.getD i true=true
  ·exact htail (f + 1) c listed hlf inv lN a w hm
  obtain ⟨i0,jF,Xb,hi0⟩:∃ i,i<k∧qO (kd i)=true∧listed.getD i true=false:=by
   refine Classical.byContradiction fun hno=>lN fun i hi he=>?_
   cases hc:listed.getD i true with
   | true=>rfl
   | false=>exact absurd ⟨i,hi,he,hc⟩ hno
  rw [show f + 1 + g=(f + g) + 1 by omega]
  refine ⟨fun hnil=>?_,fun i hi=>?_⟩
  ·exfalso
   obtain ⟨i,⟨hik,hil⟩,hmin⟩:=exists_least (p:=fun i=>i<k∧listed.getD i true=false) ⟨i0,jF,hi0⟩
   have hr:i∈Region.ready .any all listed:=by
    rw [mem_ready]
    have hs:i<all.size:=by omega
    refine ⟨hil,all[i],by simp [hs],fun e he hb=>?_⟩
    have hb2:=List.all_eq_true.1 hback i (List.mem_range.2 hs)
    simp only [Array.getElem?_eq_getElem hs] at hb2
    have hb3:=(Array.all_eq_true_iff_forall_mem.1 hb2) e he
    simp only [hb,Bool.not_true,Bool.false_or,Nat.blt_eq] at hb3
    cases hc:listed.getD e.on false with
    | true=>rfl
    | false=>
     have h5:=hmin e.on ⟨by omega,getD_in av7 hc⟩
     omega
   rw [hnil] at hr;cases hr
  ·have hik:i<k:=by
    rcases Nat.lt_or_ge i k with h | h
    ·exact h
    ·exact absurd hi (jW listed inv i0 jF Xb hi0 i h)
   obtain ⟨hun,o,ho,hall⟩:=mem_ready.1 hi
   have hsz:i<listed.size:=by rw [inv.size];omega
   have hself:∀ j,j<k→listed.getD j false=true→qO (kd j)=true→c j=c j:=fun _ _ _ _=>rfl
   have hgo:∀ c2 a' w',sS n w0 mu all l hp kd val k c2 (listed.setIfInBounds i true) a' w'→wpAny P .any all Q' (f + g) (listed.setIfInBounds i true) a' w':=fun c2 a' w' h=>
    ih c2 _ _ _ ax0 (inv.set hi hik) h
   have uf:Good w0 mu hp w:=hm.good.sub (List.sublist_append_right _ _)
   unfold wpOp
   simp only [ho]
   cases hkd:kd i with
   | s v=>
    obtain ⟨pq,bC,hiv,hy⟩:=hS i o v hik ho hkd
    have hkn:=dF (i:=i) hds hm hm.valid hself (fun j u hu=>⟨(hiv j u hu).1,(hiv j u hu).2 c⟩) hall
    have hE0:qO (kd i)=false:=by rw [hkd];rfl
    have hnext:∀ w',Good w0 mu (iY kd c listed k++hp) w'→wpAny P .any all Q' (f + g) (listed.setIfInBounds i true) (a.put o.dst v) w':=fun w' hG'=>
     hgo c _ _ (iJ hm ho hik hun hsz hd hf hm.valid (fun _ _=>rfl) aA5 (fun c' _ _=>pq c'))
    have h3:=hy (iY kd c listed k)
    unfold pz at h3
    cases hg:o.guard with
    | none=>
     rw [hg] at h3
     rw [if_pos aw2]
     exact .inl (h3 a w hkn hm.good _ _ hnext)
    | some jw=>
     obtain ⟨j,want⟩:=jw
     rw [hg] at h3
     obtain ⟨dj,c0,b,u,hj,hb,hdj,hy,hvv⟩:=h3
     have hw:=gY hkn hg hj hb hdj
     cases hc:(c0 && jg b want) with
     | true=>
      rw [hc] at hw hvv
      rw [if_pos hw]
      rw [Bool.and_eq_true] at hc
      rw [show v=u from hvv] at hnext
      exact .inl (hy hc.1 hc.2 a w hkn hm.good _ _ hnext)
     | false=>
      rw [hc] at hw hvv
      rw [if_neg ax7]
      rw [show v=undef from hvv] at hnext
      exact hnext w hm.good
   | e R=>
    obtain ⟨pq,bC,hiv,hg,hy⟩:=hE i o R hik ho hkd
    have hkn:=dF (i:=i) hds hm hm.valid hself (fun j u hu=>⟨(hiv j u hu).1,(hiv j u hu).2 c⟩) hall
    rw [if_pos (hg _ hkn)]
    refine .inl (hy a w _ hkn hm.good _ _ fun v hn w' hR hG'=>?_)
    refine hgo (fun t=>if t=i then (v,hn) else c t) _ _ (iJ hm ho hik hun hsz hd hf ?_ (fun j hj=>by simp [hj]) ?_ ?_)
    ·intro j hj R' hR'
     by_cases hji:j=i
     ·subst hji
      rw [hkd] at hR'
      cases hR'
      simpa using hR
     ·simp only [hji,if_false]
      exact hm.valid j hj R' hR'
    ·refine hG'.perm ?_
     rw [← List.append_assoc]
     exact (xw az5 hun hsz k hik).symm.append_right _
    ·intro c' hc' hag
     rw [pq c',hag i hik (by simp [hsz]) az5]
     simp
   | d=>
    obtain ⟨bC,hiv,hg,hy⟩:=hD c hm.valid i o hik ho hkd
    have hE0:qO (kd i)=false:=by rw [hkd];rfl
    have hkn:=dF (i:=i) hds hm hm.valid hself hiv hall
    have hrun:=hy a w hkn uf
    rw [if_pos aw2]
    refine .inl ?_
    unfold Oper.wp
    rw [hrun]
    refine hgo c _ _ (iJ hm ho hik hun hsz hd hf hm.valid (fun _ _=>rfl) az9 (fun c' hc' hag=>?_))
    obtain ⟨jl,qV,hg2,hy2⟩:=hD c' hc' i o hik ho hkd
    have hag':∀ j,j<k→listed.getD j false=true→qO (kd j)=true→c' j=c j:=fun j hj hl he=>hag j hj (getD_set_true hl) he
    have hrun2:=hy2 a w (dF (i:=i) hds hm hc' hag' qV hall) uf
    rw [hrun] at hrun2
    simp only [Result.ok.injEq,Next.value.injEq,and_true] at hrun2
    exact hrun2.symm
end
section
variable {P : Program} {n : Nat} {w0 : World} {mu : List Nat} {l : Fm} {h0 hp : Hp} {Q : Exit → Fm → Hp → Prop} {all : Array Oper} {aG : Fm} {k t0 : Nat} {ds : List (Nat × Nat)}
theorem wE (hds:∀ k d,lk ds k=some d→aQ all k=some d) {g:Nat} {Q':Exit→Act→World→Prop} {X:Fm→Hp→Prop} (hk:k≤all.size) (hd:pG all k n=true) (hf:bu l (dstsOf all k)=true) (hback:lH all=true) (hle0:aF h0 hp)
  (qf:∀ i,i<k→aQ all i=none→i=t0∨Region.waitsFor .any all i t0=true)
  {dn:Nat→Bool} (hS:∀ i v,lk aG i=some v→i<k∧(dn i=false→∃ o bC,all[i]?=some o∧lG bC aG∧∀ hx,pz P n w0 mu all (aA ds bC o.after.toList++l) (bif Region.waitsFor .any all t0 i then hx++hp else hx++h0) o v))
  (htail:∀ aN h listed,HeadInv .any all k listed→(∀ i,i<k→listed.getD i true=true)→X aN h→∀ a w,nK n w0 mu all l aG aN h listed a w→(∀ i v,(i,v)∈aN→i<k)→wpAny P .any all Q' g listed a w)
  (jW:∀ listed,HeadInv .any all k listed→∀ i,i<k→listed.getD i true=false→∀ t,k≤t→t ∉ Region.ready .any all listed):
  ∀ f r aN h listed a w,leftOf k listed=f→HeadInv .any all k listed→(∀ i,dn i=true→listed.getD i true=true)→nK n w0 mu all l aG aN h listed a w→(∀ i v,(i,v)∈aN→i<k)→(∀ i∈r,i<k∧listed.getD i true=false∧lk aG i=none)→r.Nodup→nT all r=true→(∀ i,i<k→listed.getD i true=false→(∃ v,lk aG i=some v)∨i∈r) →
   aF h0 h→(listed.getD t0 false=false→aF hp h)→fA P n w0 mu all ds l h0 aG X r aN h→wpAny P .any all Q' (f + g) listed a w:=by
 intro f
 induction f with
 | zero=>
  intro r aN h listed a w hlf inv hdone hm hEk hr hnd dU hcov hle ny hD
  have hall:∀ i,i<k→listed.getD i true=true:=by
   intro i hi
   cases hc:listed.getD i true with
   | true=>rfl
   | false=>
    exfalso
    have:i∈(List.range k).filter fun i=>!listed.getD i true:=List.mem_filter.2 ⟨List.mem_range.2 hi,by simp only [hc,Bool.not_false]⟩
    have h2:=List.length_pos_of_mem this
    unfold leftOf at hlf
    omega
  cases r with
  | nil=>
   rw [Nat.zero_add]
   exact htail aN h listed inv hall hD a w hm hEk
  | cons c r=>
   have h1:=hr c (List.mem_cons_self ..)
   rw [hall c h1.1] at h1
   exact absurd h1.2.1 av1
 | succ f ih=>
  intro r aN h listed a w hlf inv hdone hm hEk hr hnd dU hcov hle ny hD
  rw [show f + 1 + g=(f + g) + 1 by omega]
  have hex:∃ i,i<k∧listed.getD i true=false:=by
   have h2:0<leftOf k listed:=by omega
   obtain ⟨i,hi⟩:=List.exists_mem_of_length_pos h2
   rw [List.mem_filter] at hi
   exact ⟨i,List.mem_range.1 hi.1,by simpa using hi.2⟩
  obtain ⟨i0,jF,hi0⟩:=hex
  refine ⟨fun hnil=>?_,fun i hi=>?_⟩
  ·exfalso
   obtain ⟨i,⟨hik,hil⟩,hmin⟩:=exists_least (p:=fun i=>i<k∧listed.getD i true=false) ⟨i0,jF,hi0⟩
   have hr:i∈Region.ready .any all listed:=by
    rw [mem_ready]
    have hs:i<all.size:=by omega
    refine ⟨hil,all[i],by simp [hs],fun e he hb=>?_⟩
    have hb2:=List.all_eq_true.1 hback i (List.mem_range.2 hs)
    simp only [Array.getElem?_eq_getElem hs] at hb2
    have hb3:=(Array.all_eq_true_iff_forall_mem.1 hb2) e he
    simp only [hb,Bool.not_true,Bool.false_or,Nat.blt_eq] at hb3
    cases hc:listed.getD e.on false with
    | true=>rfl
    | false=>
     have h5:=hmin e.on ⟨by omega,getD_in av7 hc⟩
     omega
   rw [hnil] at hr;cases hr
  ·have hik:i<k:=by
    rcases Nat.lt_or_ge i k with h | h
    ·exact h
    ·exact absurd hi (jW listed inv i0 jF hi0 i h)
   obtain ⟨hun,o,ho,hall⟩:=mem_ready.1 hi
   have hsz:i<listed.size:=by rw [inv.size];omega
   have nI:listed.getD i false=false:=getD_both hun
   have hleft:leftOf k (listed.setIfInBounds i true)=f:=by have:=jI hik av7 hun;omega
   have hwl:∀ t,Region.waitsFor .any all i t=true→listed.getD t false=true:=fun t ht=>by
    obtain ⟨oj,h6,e,he,hb,heq⟩:=Region.waitsFor_spec ht
    rw [ho] at h6;cases h6
    rw [← heq];exact hall e he hb
   unfold wpOp
   simp only [ho]
   cases qP:lk aG i with
   | some v=>
    obtain ⟨_,hyy⟩:=hS i v qP
    have hdn:dn i=false:=by
     cases hc:dn i with
     | false=>rfl
     | true=>rw [hdone i hc] at hun;cases hun
    obtain ⟨o',bC,ho',hmo,hy⟩:=hyy hdn
    rw [ho] at ho';cases ho'
    have hkn:=iQ (o:=o) hds hm (bC:=bC) (fun j u hu=>.inr (hmo j u aw4)) hall
    have hir:i ∉ r:=fun hm'=>by rw [(hr i hm').2.2] at qP;cases qP
    have hnext:∀ w',Good w0 mu h w'→wpAny P .any all Q' (f + g) (listed.setIfInBounds i true) (a.put o.dst v) w':=fun w' hG'=>by
     refine ih r aN h _ _ _ hleft (inv.set hi hik) (fun j hj=>jP (hdone j hj)) (lM hm ho hik hun hsz hd hf hG' (fun j u hu=>(hS j u hu).1) hEk (.inl ⟨qP,rfl⟩)) hEk (fun j hj=>?_) hnd dU (fun j hj hl=>?_) hle (fun ht=>?_) hD
     ·have hji:i ≠ j:=fun e=>hir (e▸hj)
      exact ⟨(hr j hj).1,by rw [getD_set_ne true hji];exact (hr j hj).2.1,(hr j hj).2.2⟩
     ·refine hcov j hj ?_
      by_cases hji:i=j
      ·subst hji;simp [hsz] at hl
      ·rwa [getD_set_ne true hji] at hl
     ·refine ny ?_
      by_cases hji:i=t0
      ·subst hji;exact nI
      ·rwa [getD_set_ne false hji] at ht
    obtain ⟨hx,h3,jv⟩:∃ hx,pz P n w0 mu all (aA ds bC o.after.toList++l) hx o v∧hx.Perm h:=by
     cases hwt:Region.waitsFor .any all t0 i with
     | true=>
      have ht0:listed.getD t0 false=false:=by
       cases hc:listed.getD t0 false with
       | false=>rfl
       | true=>
        obtain ⟨oj,h6,e,he,hb,heq⟩:=Region.waitsFor_spec hwt
        have:=inv.closed t0 oj h6 hc e he hb
        rw [heq,nI] at this;cases this
      obtain ⟨x,hxp⟩:=(ny ht0).perm
      have h4:=hy x
      rw [hwt] at h4
      exact ⟨x++hp,h4,List.perm_append_comm.trans hxp⟩
     | false=>
      obtain ⟨x,hxp⟩:=hle.perm
      have h4:=hy x
      rw [hwt] at h4
      exact ⟨x++h0,h4,List.perm_append_comm.trans hxp⟩
    have hgd:Good w0 mu hx w:=hm.good.perm jv
    replace hnext:∀ w',Good w0 mu hx w'→wpAny P .any all Q' (f + g) (listed.setIfInBounds i true) (a.put o.dst v) w':=fun w' hG'=>hnext w' (hG'.perm jv.symm)
    unfold pz at h3
    cases hg:o.guard with
    | none=>
     rw [hg] at h3
     rw [if_pos aw2]
     exact .inl (h3 a w hkn hgd _ _ hnext)
    | some jw=>
     obtain ⟨j,want⟩:=jw
     rw [hg] at h3
     obtain ⟨dj,c0,b,u,hj,hb,hdj,hy,hvv⟩:=h3
     have hw:=gY hkn hg hj hb hdj
     cases hc:(c0 && jg b want) with
     | true=>
      rw [hc] at hw hvv
      rw [if_pos hw]
      rw [Bool.and_eq_true] at hc
      rw [show v=u from hvv] at hnext
      exact .inl (hy hc.1 hc.2 a w hkn hgd _ _ hnext)
     | false=>
      rw [hc] at hw hvv
      rw [if_neg ax7]
      rw [show v=undef from hvv] at hnext
      exact hnext w hgd
   | none=>
    have hir:i∈r:=by
     rcases hcov i hik hun with ⟨v,hv⟩ | h
     ·rw [qP] at hv;cases hv
     ·exact h
    cases r with
    | nil=>cases hir
    | cons c r=>
     have hic:i=c:=by
      rcases List.mem_cons.1 hir with h | h
      ·exact h
      ·exfalso
       obtain ⟨p,hp⟩:=rF dU h
       rcases hp with ⟨h1,_,h3⟩ | ⟨_,h3⟩ | ⟨p,h1,h3⟩
       ·have:=(hr p h1).2.1;have h5:=hwl p h3
        rw [getD_both this] at h5;cases h5
       ·exact h3
       ·have:=(hr p h1).2.1;have h5:=hwl p h3
        rw [getD_both this] at h5;cases h5
     subst hic
     rw [List.nodup_cons] at hnd
     have nM:nT all r=true:=by
      cases r with
      | nil=>rfl
      | cons j r=>simp only [nT,Bool.and_eq_true] at dU;exact dU.2
     have hr':∀ j∈r,j<k∧(listed.setIfInBounds i true).getD j true=false∧lk aG j=none:=fun j hj=>by
      have h1:=hr j (List.mem_cons_of_mem _ hj)
      have hji:i ≠ j:=fun e=>hnd.1 (e▸hj)
      exact ⟨h1.1,by rw [getD_set_ne true hji];exact h1.2.1,h1.2.2⟩
     have lu:∀ j,j<k→(listed.setIfInBounds i true).getD j true=false→(∃ v,lk aG j=some v)∨j∈r:=fun j hj hl=>by
      by_cases hji:i=j
      ·subst hji;simp [hsz] at hl
      ·rw [getD_set_ne true hji] at hl
       rcases hcov j hj hl with h | h
       ·exact .inl h
       ·exact .inr ((List.mem_cons.1 h).resolve_left (Ne.symm hji))
     have hkn:=iQ (o:=o) hds hm (bC:=aN++aG) (fun j u hu=>by
      rw [eu,AL] at hu
      cases hE:lk aN j with
      | some v=>rw [hE] at hu;exact .inl hu
      | none=>rw [hE] at hu;exact .inr hu) hall
     unfold fA at hD
     obtain ⟨o',ho',hD⟩:=hD
     rw [ho] at ho';cases ho'
     rcases hD with ⟨hds',R,⟨hg,hE⟩,hD⟩ | ⟨hdn,h',⟨hg,_,hSt⟩,hle',hD⟩
     ·rw [if_pos (hg _ hkn)]
      refine .inl (hE a w [] hkn aA7 _ _ fun v hn w' hR hG'=>?_)
      rw [List.nil_append] at hG'
      have hlen:∀ x:Hp,aF x h→aF x (hn++h):=fun x hx=>bU fun b=>by have:=hx.cnt b;rw [dZ];omega
      refine ih r ((i,v)::aN) (hn++h) _ _ _ hleft (inv.set hi hik) (fun j hj=>jP (hdone j hj)) (lM hm ho hik hun hsz hd hf hG' (fun j u hu=>(hS j u hu).1) hEk (.inr ⟨qP,rfl⟩)) (fun j u hu=>?_) hr' hnd.2 nM lu (hlen _ hle) (fun ht=>hlen _ (ny ?_)) (hD v hn hR)
      ·rcases List.mem_cons.1 hu with hu | hu
       ·cases hu;exact hik
       ·exact hEk j u hu
      ·by_cases hji:i=t0
       ·subst hji;exact nI
       ·rwa [getD_set_ne false hji] at ht
     ·rw [if_pos aw2]
      refine .inl (hSt a w hkn hm.good _ _ fun w' hG'=>?_)
      have hmc:nK n w0 mu all l aG aN h' (listed.setIfInBounds i true) a w':=by
       refine ⟨hm.size,hm.defers,hm.has,hG',fun j u hj hl d hdj=>?_,fun j u hj=>⟨getD_set_true (hm.jZ j u hj).1,(hm.jZ j u hj).2⟩⟩
       have hji:i ≠ j:=fun e=>by subst e;rw [qP] at hj;cases hj
       exact hm.nU j u hj ay8 d hdj
      refine ih r aN h' _ _ _ hleft (inv.set hi hik) (fun j hj=>jP (hdone j hj)) hmc hEk hr' hnd.2 nM lu hle' (fun ht=>?_) hD
      exfalso
      rcases qf i hik (by simp [aQ,ho,hdn]) with e | e
      ·subst e
       rw [show (listed.setIfInBounds i true).getD i false=true by simp [hsz]] at ht;cases ht
      ·have:=getD_set_true (i:=i) (hwl t0 e)
       rw [this] at ht;cases ht
end
def mW (ops:Array Oper) (n k:Nat) (S E D D2 C:List Nat):Bool:=
 match C with
 | []=>false
 | t0::_=>decide (k≤ops.size) && vz ops k n && pG ops ops.size n && lH ops && nJ ops.size (S++E++D++D2) C && nT ops C && (S.all fun j=>Region.waitsFor .any ops t0 j) && (E.all fun j=>Region.waitsFor .any ops t0 j) && (D2++C).all (fun j=>Nat.ble k j) &&
  ((List.range ops.size).all fun i=>(aQ ops i).isSome || Nat.beq i t0 || Region.waitsFor .any ops i t0) &&
  ((List.range ops.size).all fun i=>Nat.blt i k || (E.all fun j=>Region.waitsFor .any ops i j) || (List.range ops.size).any fun j=>Nat.ble k j && Region.waitsFor .any ops i j)
theorem uz {k K : Nat} {listed : Array Bool} (hk : k ≤ K) (h : ∀ t, k ≤ t → t < K → listed.getD t true = false) : leftOf K listed = leftOf k listed + (K - k) := by
  induction K with
  | zero => have : k = 0 := by omega
            subst this; rfl
  | succ K ih =>
    by_cases e : k = K + 1
    · subst e; omega
    · have h1 := ih au' (fun t h2 h3 => h t h2 au')
      have h2 := h K au' au'
      unfold leftOf at h1 ⊢
      rw [List.range_succ, List.filter_append, List.length_append, h1]
      have : ([K].filter fun i => !listed.getD i true) = [K] := by simp only [List.filter_cons, h2, Bool.not_false, List.filter_nil, if_true]
      rw [this, List.length_singleton]
      omega
section
variable {P : Program} {n : Nat} {w0 : World} {mu : List Nat} {l : Fm} {hp : Hp} {Q : Exit → Fm → Hp → Prop} {ds : List (Nat × Nat)}
theorem Gw {lf:Fm} {o:Oper} {v:Value} {h:Hp} (hy:zh P n w0 mu lf [] o v):zh P n w0 mu lf h o v:=⟨hy.1,fun a w hk hG=>hy.2 a w hk (hG.sub (List.nil_sublist _))⟩
theorem AP {lf:Fm} {o:Oper} {v:Value} {h:Hp} {all:Array Oper} (hy:zh P n w0 mu lf [] o v):pz P n w0 mu all lf h o v:=by
 unfold pz
 rw [hy.1]
 intro a w hk hG K Q' hK
 unfold Oper.wp
 rw [hy.2 a w hk (hG.sub (List.nil_sublist _))]
 exact hK _ hG
theorem Jg {ops:List Oper} (k:Nat) (S E D D2 C:List Nat) (hB:mW ops.toArray n k S E D D2 C=true) (hf:bu l (dstsOf ops.toArray ops.toArray.size)=true) (hf1:bu l (dstsOf ops.toArray k)=true) (hsp:splitB k S E D=true) (hds:bP ops 0=ds)
  (h:iH P n w0 mu ops.toArray ds l hp (fun aG=>iq P n w0 mu ops.toArray ds l hp aG (fun Rs=>∀ c,zx c Rs→fK P n w0 mu ops.toArray ds l [] (fun Gx=>fK P n w0 mu ops.toArray ds l [] (fun jl=>fA P n w0 mu ops.toArray ds l [] jl (fun aN hc=>Ops P n w0 mu ops.toArray [] (aY ds (aN++jl)++l) hc Q) C [] (sZ E c k++hp)) D2 Gx) D (sJ c Rs++aG)) E []) S []):lq P n w0 mu ops.toArray l hp Q:=by
 intro a w hk hG
 simp only [splitB,Bool.and_eq_true,decide_eq_true_eq] at hsp
 obtain ⟨⟨⟨_,hnd⟩,hlt⟩,hcov⟩:=hsp
 have hlt':∀ i∈S++E++D,i<k:=fun i hi=>by have:=List.all_eq_true.1 hlt i hi;simpa using this
 have lu:∀ i,i<k→i∈S∨i∈E∨i∈D:=fun i hi=>by
  have:=bV (List.all_eq_true.1 hcov i (List.mem_range.2 hi))
  simpa [or_assoc] using this
 rw [List.append_assoc,List.nodup_append] at hnd
 obtain ⟨wz,ug,O5⟩:=hnd
 rw [List.nodup_append] at ug
 obtain ⟨yH,Ej,WE⟩:=ug
 obtain ⟨aG,h2,Gj,nP,hsS⟩:=zN S [] wz (fun _ _=>rfl) (fun _ _ h=>by cases h) h (fun i v hv=>by cases hv)
 obtain ⟨Rs,h3,nR,hsE⟩:=Ei E [] yH (fun _ _=>rfl) h2 (fun i R hR=>by cases hR)
 simp only [lk,reduceCtorEq,exists_false,or_false] at nP nR
 have yx:∀ i R,lk Rs i=some R→lk aG i=none:=fun i R hR=>by
  cases hv:lk aG i with
  | none=>rfl
  | some v=>exact absurd rfl (O5 i ((nP i).1 ⟨v,hv⟩) i (List.mem_append_left _ ((nR i).1 ⟨R,hR⟩)))
 let kd:Nat→Kd:=fun i=>match lk Rs i with | some R=>.e R | none=>match lk aG i with | some v=>.s v | none=>.d
 have jB:∀ i R,kd i=.e R↔lk Rs i=some R:=fun i R=>by
  show (match lk Rs i with | some R=>Kd.e R | none=>match lk aG i with | some v=>.s v | none=>.d)=_↔_
  cases lk Rs i with
  | some R'=>simp
  | none=>cases lk aG i<;>simp
 have zy:∀ i v,kd i=.s v→lk Rs i=none∧lk aG i=some v:=fun i v=>by
  show (match lk Rs i with | some R=>Kd.e R | none=>match lk aG i with | some v=>.s v | none=>.d)=_→_
  cases lk Rs i with
  | some R'=>simp
  | none=>cases lk aG i<;>simp
 have I4:∀ i,kd i=.d→lk Rs i=none∧lk aG i=none:=fun i=>by
  show (match lk Rs i with | some R=>Kd.e R | none=>match lk aG i with | some v=>.s v | none=>.d)=_→_
  cases lk Rs i with
  | some R'=>simp
  | none=>cases lk aG i<;>simp
 have Ap:∀ i R,lk Rs i=some R→(i,R)∈Rs:=fun i R h=>iP h
 have hvalid:∀ c,Valid kd k c→zx c Rs:=fun c hc=>xx Rs fun p hp=>by
  obtain ⟨i,R⟩:=p
  have h1:=(hsE i R hp).1
  exact hc i (hlt' i (List.mem_append_left _ (List.mem_append_right _ ((nR i).1 ⟨R,h1⟩)))) R ((jB i R).2 h1)
 have hex:∀ c,Valid kd k c→∃ tq,fK P n w0 mu ops.toArray ds l [] (fun jl=>fA P n w0 mu ops.toArray ds l [] jl (fun aN hc=>Ops P n w0 mu ops.toArray [] (aY ds (aN++jl)++l) hc Q) C [] (sZ E c k++hp)) D2 tq∧Uq tq∧lG (sJ c Rs++aG) tq∧(∀ i,(∃ v,lk tq i=some v)↔i∈D∨∃ v,lk (sJ c Rs++aG) i=some v)∧∀ i v,lk tq i=some v→lk (sJ c Rs++aG) i=some v∨∃ o bC,ops.toArray[i]?=some o∧lG bC tq∧zh P n w0 mu (aA ds bC o.after.toList++l) [] o v:=fun c hc=>
  qW D (sJ c Rs++aG) Ej (fun i hi=>by
   rw [dw]
   have e1:lk Rs i=none:=by
    cases hR:lk Rs i with
    | none=>rfl
    | some R=>exact absurd rfl (WE i ((nR i).1 ⟨R,hR⟩) i hi)
   rw [e1]
   cases hv:lk aG i with
   | none=>rfl
   | some v=>exact absurd rfl (O5 i ((nP i).1 ⟨v,hv⟩) i (List.mem_append_right _ hi))) (fun i v hv=>by
   rw [dw]
   rcases List.mem_append.1 hv with hv | hv
   ·obtain ⟨rfl,R,hR⟩:=uQ Rs hv
    rw [(hsE i R hR).1]
   ·have h1:=Gj i v hv
    cases hR:lk Rs i with
    | none=>exact h1
    | some R=>rw [yx i R hR] at h1;cases h1) (fun _ _ h=>h) (h3 c (hvalid c hc)) (fun i v hv=>.inl hv)
 have hch:∃ F:Ch→Fm,∀ c,Valid kd k c→fK P n w0 mu ops.toArray ds l [] (fun jl=>fA P n w0 mu ops.toArray ds l [] jl (fun aN hc=>Ops P n w0 mu ops.toArray [] (aY ds (aN++jl)++l) hc Q) C [] (sZ E c k++hp)) D2 (F c)∧Uq (F c)∧lG (sJ c Rs++aG) (F c)∧(∀ i,(∃ v,lk (F c) i=some v)↔i∈D∨∃ v,lk (sJ c Rs++aG) i=some v)∧∀ i v,lk (F c) i=some v→lk (sJ c Rs++aG) i=some v∨∃ o bC,ops.toArray[i]?=some o∧lG bC (F c)∧zh P n w0 mu (aA ds bC o.after.toList++l) [] o v:=by
  classical
  refine ⟨fun c=>if hc:Valid kd k c then Classical.choose (hex c hc) else [],fun c hc=>?_⟩
  simp only [hc,dif_pos]
  exact Classical.choose_spec (hex c hc)
 obtain ⟨F,hF⟩:=hch
 let val:Ch→Nat→Value:=fun c i=>match kd i with | .s v=>v | .e _=>(c i).1 | .d=>(lk (F c) i).getD undef
 have oN:∀ c,Valid kd k c→∀ i v,lk (F c) i=some v→val c i=v:=fun c hc i v hv=>by
  obtain ⟨_,_,hmo,_,_⟩:=hF c hc
  show (match kd i with | .s v=>v | .e _=>(c i).1 | .d=>(lk (F c) i).getD undef)=v
  cases hkd:kd i with
  | s u=>
   obtain ⟨e1,e2⟩:=zy i u hkd
   have:=hmo i u aA6
   rw [hv] at this;cases this;rfl
  | e R=>
   have e1:=(jB i R).1 hkd
   have:=hmo i (c i).1 (by rw [dw,e1])
   rw [hv] at this;cases this;rfl
  | d=>rw [hv];rfl
 have qE:∀ c,Valid kd k c→∀ i,i<k→∃ v,lk (F c) i=some v:=fun c hc i hi=>by
  obtain ⟨_,_,_,hkk,_⟩:=hF c hc
  rw [hkk i]
  rcases lu i hi with h | h | h
  ·obtain ⟨v,hv⟩:=(nP i).2 h
   right
   rw [dw]
   cases lk Rs i with
   | some R=>exact ⟨_,rfl⟩
   | none=>exact ⟨v,hv⟩
  ·obtain ⟨R,hR⟩:=(nR i).2 h
   right
   rw [dw,hR]
   exact ⟨_,rfl⟩
  ·exact .inl h
 have jK:∀ i v,lk aG i=some v→i<k∧∀ c,val c i=v:=fun i v hv=>by
  refine ⟨hlt' i (List.mem_append_left _ (List.mem_append_left _ ((nP i).1 ⟨v,hv⟩))),fun c=>?_⟩
  show (match kd i with | .s v=>v | .e _=>(c i).1 | .d=>(lk (F c) i).getD undef)=v
  have:kd i=.s v:=by
   show (match lk Rs i with | some R=>Kd.e R | none=>match lk aG i with | some v=>.s v | none=>.d)=_
   cases hR:lk Rs i with
   | some R=>rw [yx i R hR] at hv;cases hv
   | none=>rw [hv]
  rw [this]
 cases C with
 | nil=>simp [mW] at hB
 | cons t0 C'=>
 simp only [mW,Bool.and_eq_true,decide_eq_true_eq] at hB
 obtain ⟨⟨⟨⟨⟨⟨⟨⟨⟨⟨hks,hd⟩,Y4⟩,hback⟩,pI⟩,dU⟩,hSt⟩,hEt⟩,hge⟩,qf⟩,hwt⟩:=hB
 simp only [nJ,Bool.and_eq_true,decide_eq_true_eq] at pI
 obtain ⟨⟨PV,PW⟩,Gy⟩:=pI
 have AQ:∀ j,j∈D2++t0::C'→k≤j:=fun j hj=>by have:=List.all_eq_true.1 hge j hj;simpa using this
 have jR:∀ i d,lk ds i=some d→aQ ops.toArray i=some d:=fun i d h=>by rw [← hds] at h;have:=(jb ops 0 i d h).2;simpa [aQ] using this
 have yG:∃ c0:Ch,Valid kd k c0:=by
  have h1:∀ i,∃ x:Value × Hp,∀ R,kd i=.e R→R x.1 x.2:=fun i=>by
   cases hR:lk Rs i with
   | none=>exact ⟨(undef,[]),fun R h=>by rw [(jB i R).1 h] at hR;cases hR⟩
   | some R=>
    obtain ⟨_,o,_,_,v,hn,hv⟩:=hsE i R (Ap i R hR)
    exact ⟨(v,hn),fun R' h=>by rw [(jB i R').1 h] at hR;cases hR;exact hv⟩
  exact ⟨fun i=>Classical.choose (h1 i),fun i hi R hR=>Classical.choose_spec (h1 i) R hR⟩
 obtain ⟨c0,hc0⟩:=yG
 have inv0:HeadInv .any ops.toArray k (Array.replicate ops.toArray.size false):=
  ⟨by simp,fun j oj _ hl=>av6,fun t _ ht=>getD_in ay4 (getD_replicate_false _ _)⟩
 have hleft:leftOf k (Array.replicate ops.toArray.size false)=k:=by
  unfold leftOf
  rw [List.filter_eq_self.2]
  ·simp
  ·intro i hi
   have hi':i<k:=by simpa using hi
   have:(Array.replicate ops.toArray.size false).getD i true=false:=getD_in ay5 (getD_replicate_false _ _)
   simp only [this,Bool.not_false]
 have I5:∀ m,iY kd c0 (Array.replicate ops.toArray.size false) m=[]:=by
  intro m
  induction m with
  | zero=>rfl
  | succ m ih=>simp only [iY,ih,kH,getD_replicate_false,Bool.and_false,cond_false,List.append_nil]
 have sU:∀ i,i<k→qO (kd i)=mem E i:=fun i hi=>by
  cases hkd:kd i with
  | e R=>rw [mem_of ((nR i).1 ⟨R,(jB i R).1 hkd⟩)];rfl
  | s v=>
   cases hmm:mem E i with
   | false=>rfl
   | true=>obtain ⟨R,hR⟩:=(nR i).2 (bV hmm);rw [(jB i R).2 hR] at hkd;cases hkd
  | d=>
   cases hmm:mem E i with
   | false=>rfl
   | true=>obtain ⟨R,hR⟩:=(nR i).2 (bV hmm);rw [(jB i R).2 hR] at hkd;cases hkd
 have key:=Jf jR (P:=P) (n:=n) (w0:=w0) (mu:=mu) (l:=l) (hp:=hp) (all:=ops.toArray) (kd:=kd) (val:=val) (k:=k) (g:=ops.toArray.size - k) (Q':=QQ n w0 mu Q) hks hd hf1 hback
  (fun i o v hi ho hkd=>by
   obtain ⟨e1,e2⟩:=zy i v hkd
   obtain ⟨o',bC,h1,h2,h3⟩:=hsS i v e2
   rw [ho] at h1;cases h1
   exact ⟨(jK i v e2).2,bC,fun j u hu=>jK j u (h2 j u aw4),h3⟩)
  (fun i o R hi ho hkd=>by
   have e1:=(jB i R).1 hkd
   obtain ⟨_,o',h1,h2,_⟩:=hsE i R (Ap i R e1)
   rw [ho] at h1;cases h1
   refine ⟨fun c=>?_,aG,fun j u hu=>jK j u aw4,h2⟩
   show (match kd i with | .s v=>v | .e _=>(c i).1 | .d=>(lk (F c) i).getD undef)=_
   rw [hkd])
  (fun c hcv i o hi ho hkd=>by
   obtain ⟨e1,e2⟩:=I4 i hkd
   obtain ⟨v,hv⟩:=qE c hcv i hi
   obtain ⟨_,_,_,_,hsp⟩:=hF c hcv
   rw [oN c hcv i v hv]
   rcases hsp i v hv with h0 | ⟨o',bC,h1,h2,h3⟩
   ·rw [dw,e1] at h0;rw [e2] at h0;cases h0
   ·rw [ho] at h1;cases h1
    refine ⟨bC,fun j u hu=>?_,Gw h3⟩
    have hj:=h2 j u aw4
    refine ⟨?_,oN c hcv j u hj⟩
    obtain ⟨_,_,_,hkk,_⟩:=hF c hcv
    rcases (hkk j).1 ⟨u,hj⟩ with h | ⟨v',h⟩
    ·exact hlt' j (List.mem_append_right _ h)
    ·rw [dw] at h
     cases hR:lk Rs j with
     | some R=>exact hlt' j (List.mem_append_left _ (List.mem_append_right _ ((nR j).1 ⟨R,hR⟩)))
     | none=>rw [hR] at h;exact (jK j v' h).1)
  (fun f c listed hlf inv lN a w hmid=>?_)
  (fun listed inv i hi hie hun t ht=>?_)
  k c0 _ a { w with drawn:=w.drawn + 1 } hleft inv0 ⟨hk.size,hk.defers,hk.has,hc0,by rw [I5];exact hG.drawn _,fun i _ hl=>av6⟩
 ·have e:k + (ops.toArray.size - k)=ops.toArray.size:=by omega
  rw [e] at key
  exact key
 ·obtain ⟨hX,WG,hmo,hkk,hsp1⟩:=hF c hmid.valid
  have PX:∀ i v,lk (F c) i=some v→i<k:=fun i v hv=>by
   rcases (hkk i).1 ⟨v,hv⟩ with h | ⟨v',h⟩
   ·exact hlt' i (List.mem_append_right _ h)
   ·rw [dw] at h
    cases hR:lk Rs i with
    | some R=>exact hlt' i (List.mem_append_left _ (List.mem_append_right _ ((nR i).1 ⟨R,hR⟩)))
    | none=>rw [hR] at h;exact (jK i v' h).1
  have zi:=PV
  rw [List.nodup_append,List.nodup_append] at zi
  obtain ⟨⟨_,Gz,Y5⟩,yR,Y6⟩:=zi
  obtain ⟨jl,hY,hu2,xJ,AU,hsp2⟩:=qW (base:=F c) D2 (F c) Gz (fun i hi=>by
   cases hv:lk (F c) i with
   | none=>rfl
   | some v=>
    have h1:=PX i v hv
    have h2:=AQ i (List.mem_append_left _ hi)
    omega) WG (fun _ _ h=>h) hX (fun i v hv=>.inl hv)
  have uA:∀ j,k≤j→j<ops.toArray.size→listed.getD j true=false:=fun j h1 h2=>inv.tail j h1 h2
  have uB:∀ i∈(S++E++D++D2)++t0::C',i<ops.toArray.size:=fun i hi=>by have:=List.all_eq_true.1 PW i hi;simpa using this
  have qV:∀ i v,lk jl i=some v→i<ops.toArray.size:=fun i v hv=>by
   rcases (AU i).1 ⟨v,hv⟩ with h | ⟨v',h⟩
   ·exact uB i (List.mem_append_left _ (List.mem_append_right _ h))
   ·have:=PX i v' h;omega
  have invK:HeadInv .any ops.toArray ops.toArray.size listed:=⟨inv.size,inv.closed,fun t h1 h2=>by omega⟩
  have PY:leftOf ops.toArray.size listed=f + (ops.toArray.size - k):=by rw [uz hks uA,hlf]
  have hbe:∀ m,m≤k→iY kd c listed m=sZ E c m:=by
   intro m
   induction m with
   | zero=>intro _;rfl
   | succ m ih=>
    intro hm
    simp only [iY,sZ,kH]
    rw [ih au',sU m au']
    cases hme:mem E m with
    | false=>rfl
    | true=>
     have h1:=lN m au' aA4
     have h2:listed.getD m false=true:=by
      cases hcc:listed.getD m false with
      | true=>rfl
      | false=>rw [getD_in av7 hcc] at h1;cases h1
     rw [h2];rfl
  have hgood:Good w0 mu (sZ E c k++hp) w:=by rw [← hbe k (Nat.le_refl _)];exact hmid.good
  have GG:nK n w0 mu ops.toArray l jl [] (sZ E c k++hp) listed a w:=by
   refine ⟨hmid.size,hmid.defers,hmid.has,hgood,fun i v hv hl d hdd=>?_,fun i v hv=>by cases hv⟩
   have hik:i<k:=by
    rcases Nat.lt_or_ge i k with h | h
    ·exact h
    ·have h1:=uA i h (qV i v hv)
     rw [getD_both h1] at hl;cases hl
   obtain ⟨v',hv'⟩:=qE c hmid.valid i hik
   have h1:=xJ i v' hv'
   rw [hv] at h1;cases h1
   rw [hmid.done i hik hl c hmid.valid (fun _ _ _ _=>rfl) d hdd]
   exact oN c hmid.valid i v hv'
  have PZ:=wE jR (P:=P) (n:=n) (w0:=w0) (mu:=mu) (l:=l) (hp:=hp) (h0:=[]) (all:=ops.toArray) (aG:=jl) (k:=ops.toArray.size) (t0:=t0) (g:=0) (Q':=QQ n w0 mu Q) (X:=fun aN hc=>Ops P n w0 mu ops.toArray [] (aY ds (aN++jl)++l) hc Q) (dn:=mem E) (Nat.le_refl _) Y4 hf hback (bU fun b=>by simp [mg])
   (fun i hi hdn=>by
    have:=List.all_eq_true.1 qf i (List.mem_range.2 hi)
    rw [hdn] at this
    simp only [Option.isSome_none,Bool.false_or,Bool.or_eq_true] at this
    rcases this with h | h
    ·exact .inl (Nat.eq_of_beq_eq_true h)
    ·exact .inr h)
   (fun i v hv=>⟨qV i v hv,fun hne=>?_⟩)
   (fun aN h listed inv hall hX a w hmid hEk=>?_)
   (fun listed inv i hi hun t ht hr=>by
    obtain ⟨_,o,ho,_⟩:=mem_ready.1 hr
    have:=(Array.getElem?_eq_some_iff.1 ho).1
    omega)
   (f + (ops.toArray.size - k)) (t0::C') [] (sZ E c k++hp) listed a w PY invK (fun i hi=>lN i (hlt' i (List.mem_append_left _ (List.mem_append_right _ (bV hi)))) aw') GG (fun i v hv=>by cases hv)
   (fun i hi=>⟨uB i (List.mem_append_right _ hi),uA i (AQ i (List.mem_append_right _ hi)) (uB i (List.mem_append_right _ hi)),?_⟩) yR dU (fun i hi hl=>?_) (bU fun b=>by simp [mg]) (fun _=>aF.right _ _) hY
  ·exact PZ
  ·rcases hsp2 i v hv with h0 | ⟨o,bC,h1,h2,h3⟩
   ·rcases hsp1 i v h0 with h0 | ⟨o,bC,h1,h2,h3⟩
    ·rw [dw] at h0
     cases hR:lk Rs i with
     | some R=>
      rw [mem_of ((nR i).1 ⟨R,hR⟩)] at hne;cases hne
     | none=>
      rw [hR] at h0
      obtain ⟨o,bC,h1,h2,h3⟩:=hsS i v h0
      refine ⟨o,bC,h1,fun j u hu=>?_,fun hx=>?_⟩
      ·refine xJ j u (hmo j u ?_)
       have h4:=h2 j u hu
       rw [dw]
       cases hR2:lk Rs j with
       | some R2=>rw [yx j R2 hR2] at h4;cases h4
       | none=>exact h4
      ·rw [List.all_eq_true.1 hSt i ((nP i).1 ⟨v,h0⟩)]
       exact h3 hx
    ·exact ⟨o,bC,h1,fun j u hu=>xJ j u (h2 j u hu),fun hx=>AP h3⟩
   ·exact ⟨o,bC,h1,h2,fun hx=>AP h3⟩
  ·have mG:Knows n (aY ds (aN++jl)++l) a:=by
    refine ⟨hmid.size,hmid.defers,fun t v ht=>?_⟩
    rcases dW ht with ht | ⟨_,ht⟩
    ·obtain ⟨j,h1,h2⟩:=ig (gm ht)
     rcases List.mem_append.1 h1 with h1 | h1
     ·exact (hmid.jZ j v h1).2 t (jR _ _ h2)
     ·have hj:=hu2 j v h1
      have hjk:=qV j v hj
      refine hmid.nU j v hj ?_ t (jR _ _ h2)
      have h5:=hall j hjk
      cases hcc:listed.getD j false with
      | true=>rfl
      | false=>rw [getD_in av7 hcc] at h5;cases h5
    ·exact hmid.has t v ht
   refine ⟨?_,hX a w mG hmid.good⟩
   rw [List.eq_nil_iff_forall_not_mem]
   intro i hi
   obtain ⟨hun,o,ho,_⟩:=mem_ready.1 hi
   rw [hall i (Array.getElem?_eq_some_iff.1 ho).1] at hun;cases hun
  ·cases hv:lk jl i with
   | none=>rfl
   | some v=>
    exfalso
    have h2:=AQ i (List.mem_append_right _ hi)
    rcases (AU i).1 ⟨v,hv⟩ with h | ⟨v',h⟩
    ·exact Y6 i (List.mem_append_right _ h) i hi rfl
    ·have:=PX i v' h;omega
  ·have h1:=bV (List.all_eq_true.1 Gy i (List.mem_range.2 hi))
   rcases List.mem_append.1 h1 with h1 | h1
   ·left
    rcases List.mem_append.1 h1 with h1 | h1
    ·obtain ⟨v,hv⟩:=qE c hmid.valid i (hlt' i h1)
     exact ⟨v,xJ i v hv⟩
    ·exact (AU i).2 (.inl h1)
   ·exact .inr h1
 ·intro hr
  obtain ⟨_,o,ho,hall⟩:=mem_ready.1 hr
  have hts:t<ops.toArray.size:=(Array.getElem?_eq_some_iff.1 ho).1
  have hwl:∀ j,Region.waitsFor .any ops.toArray t j=true→listed.getD j false=true:=fun j hj=>by
   obtain ⟨oj,h6,e,he,hb,heq⟩:=Region.waitsFor_spec hj
   rw [ho] at h6;cases h6
   rw [← heq];exact hall e he hb
  have h1:=List.all_eq_true.1 hwt t (List.mem_range.2 hts)
  simp only [Bool.or_eq_true] at h1
  rcases h1 with (h1 | h1) | h1
  ·have:t<k:=by simpa using h1
   omega
  ·have h2:=hwl i (List.all_eq_true.1 h1 i (bV (by rw [← sU i hi];exact hie)))
   rw [getD_both hun] at h2;cases h2
  ·obtain ⟨j,hj,h2⟩:=List.any_eq_true.1 h1
   rw [Bool.and_eq_true] at h2
   have h3:=hwl j h2.2
   rw [getD_both (inv.tail j (by simpa using h2.1) (List.mem_range.1 hj))] at h3;cases h3
theorem MH {ops:List Oper} (k:Nat) (S E D D2 C:List Nat) (hB:mW ops.toArray n k S E D D2 C=true) (hf:bu l (dstsOf ops.toArray ops.toArray.size)=true) (hf1:bu l (dstsOf ops.toArray k)=true) (hsp:splitB k S E D=true) (hds:bP ops 0=ds)
  (h:iH P n w0 mu ops.toArray ds l hp (fun aG=>iq P n w0 mu ops.toArray ds l hp aG (fun Rs=>DN (fun iv bl=>fK P n w0 mu ops.toArray ds l [] (fun Gx=>fK P n w0 mu ops.toArray ds l [] (fun jl=>fA P n w0 mu ops.toArray ds l [] jl (fun aN hc=>Ops P n w0 mu ops.toArray [] (aY ds (aN++jl)++l) hc Q) C [] (bl++hp)) D2 Gx) D (iv++aG)) Rs) E []) S []):lq P n w0 mu ops.toArray l hp Q:=by
 refine Jg k S E D D2 C hB hf hf1 hsp hds (xy (fun aG h2=>Aq E [] (fun Rs e h3 c hc=>?_) h2) S [] h)
 have:=O7 Rs _ c h3 hc
 have he:sZ E c k=Iq c (Rs.map (·.1)):=by
  simp only [splitB,Bool.and_eq_true,decide_eq_true_eq] at hsp
  rw [zO,← hsp.1.1.1,e];simp
 rw [he]
 exact this
end
section
variable {n : Nat} {w0 : World} {mu : List Nat} {l : Fm} {hp : Hp} {Q : Exit → Fm → Hp → Prop} {ds : List (Nat × Nat)}
theorem iR {id:Nat} {ops:List Oper} (k:Nat) (S E D D2 C:List Nat) (h:iH Tryz.prog n w0 mu ops.toArray ds l hp (fun aG=>iq Tryz.prog n w0 mu ops.toArray ds l hp aG (fun Rs=>DN (fun iv bl=>fK Tryz.prog n w0 mu ops.toArray ds l [] (fun Gx=>fK Tryz.prog n w0 mu ops.toArray ds l [] (fun jl=>fA Tryz.prog n w0 mu ops.toArray ds l [] jl (fun aN hc=>Ops Tryz.prog n w0 mu ops.toArray [] (aY ds (aN++jl)++l) hc Q) C [] (bl++hp)) D2 Gx) D (iv++aG)) Rs) E []) S [])
  (hds:bP ops 0=ds:=by (simp only [bP,Nat.reduceAdd,Nat.zero_add];rfl)) (hm:Tryz.prog.follows .mixedOrders=true:=by kernel_rfl) (hB:mW ops.toArray n k S E D D2 C=true:=by decide +kernel) (hf:bu l (dstsOf ops.toArray ops.toArray.size)=true:=by rfl) (hf1:bu l (dstsOf ops.toArray k)=true:=by rfl) (hsp:splitB k S E D=true:=by decide +kernel):St Tryz.prog n w0 mu (.region id ops.toArray true) l hp Q:=
 qX hm (MH k S E D D2 C hB hf hf1 hsp hds h)
end
end
def iy (n:Nat):Nat:=18446744073709551615 >>> (64 - n)
theorem KC {n:Nat} (h:n≤64):iy n=2 ^ n - 1:=by
 have:∀ n,n≤64→iy n=2 ^ n - 1:=by decide
 exact this n h
theorem rG (n:Nat):iy n<18446744073709551616:=by
 unfold iy
 rw [Nat.shiftRight_eq_div_pow]
 exact Nat.lt_of_le_of_lt (Nat.div_le_self _ _) av1
theorem AV {v n:Nat} (hn:n≤64) (hv:v<2 ^ n):v &&& (18446744073709551615 - iy n)=0:=by
 have e:18446744073709551615 - iy n=(2 ^ (64 - n) - 1) * 2 ^ n:=by
  have:∀ n,n≤64→18446744073709551615 - iy n=(2 ^ (64 - n) - 1) * 2 ^ n:=by decide
  exact this n hn
 rw [e]
 apply Nat.eq_of_testBit_eq
 intro i
 rw [Nat.testBit_and,Nat.zero_testBit,Nat.testBit_mul_two_pow]
 by_cases hi:n≤i
 ·rw [Nat.testBit_lt_two_pow (Nat.lt_of_lt_of_le hv (Nat.pow_le_pow_right av1 hi))];rfl
 ·simp [hi]
def aT (w a n:Nat):Nat:=(w >>> a) &&& iy n
structure qp where
 a:Nat
 n:Nat
 v:Nat
deriving Inhabited
abbrev Ey (f:qp):List Value:=[.int .i64 (f.a:Int),.int .i64 (f.n:Int),.int .u64 (f.v:Int)]
structure qp.Ok (f:qp):Prop where
 n1:1≤f.n
 an:f.a + f.n≤64
 v:f.v<2 ^ f.n
theorem qp.Ok.v64 {f:qp} (h:f.Ok):f.v<18446744073709551616:=
 Nat.lt_of_lt_of_le h.v (Nat.le_trans (Nat.pow_le_pow_right av1 (show f.n≤64 by have:=h.an;omega)) av1)
def qp.mask (f:qp):Nat:=(iy f.n <<< f.a) % 18446744073709551616
def qp.bits (f:qp):Nat:=(f.v <<< f.a) % 18446744073709551616
theorem qp.uT (f:qp):f.mask<18446744073709551616:=Nat.mod_lt _ av1
theorem qp.xK (f:qp):f.bits<18446744073709551616:=Nat.mod_lt _ av1
def joinL:List qp→Nat→Nat→Option (Nat × Nat)
 | [],w,t=>some (w,t)
 | f::r,w,t=>bif decide (t &&& f.mask=0) then joinL r (w ||| f.bits) (t ||| f.mask) else none
def uC (r:Option (Nat × Nat)):Nat:=match r with | some x=>x.1 | none=>0
def GH (r:Option (Nat × Nat)):Int:=match r with | some _=>0 | none=>4
def VO (r:Option (Nat × Nat)):Nat:=match r with | some x=>x.2 | none=>0
section
attribute [local irreducible] Hy St Ops DH gB
theorem Jh (f:qp) (h:f.Ok) (w:World):Fn Tryz.prog 141 [.agg #[.int .i64 (f.a:Int),.int .i64 (f.n:Int),.int .u64 (f.v:Int)]].toArray w [] (fun u _=>u=.int .u64 (iy f.n:Int)):=by
 have h1:=h.n1
 have h2:=h.an
 refine enter Tryz.func141 ?_
 refine run ?_
 intro B
 refine run ?_
 refine eH av2 (uw rfl rfl 18446744073709551615 (64 - f.n) av2 au' au') ?_
 refine run ?_
 exact fin1 rfl
theorem KD (f:qp) (h:f.Ok) (w:World):Fn Tryz.prog 202 [.agg #[.int .i64 (f.a:Int),.int .i64 (f.n:Int),.int .u64 (f.v:Int)]].toArray w [] (fun u _=>u=.int .u64 (f.mask:Int)):=by
 have h1:=h.n1
 have h2:=h.an
 refine enter Tryz.func202 ?_
 refine run ?_
 intro B
 refine run ?_
 refine iV 6 ?_
 refine cu ?_
 refine jY (fun wc hG=>Jh f h wc) ?_
 refine cu ?_
 refine qo (mF rfl rfl (iy f.n) f.a av2 av2 au') ?_
 refine cu ?_
 refine run ?_
 refine run ?_
 exact fin1 rfl
theorem P5 (f:qp) (h:f.Ok) (w:World):Fn Tryz.prog 140 [.agg #[.int .i64 (f.a:Int),.int .i64 (f.n:Int),.int .u64 (f.v:Int)]].toArray w [] (fun u _=>u=.bool true):=by
 have h1:=h.n1
 have h2:=h.an
 have h3:=h.v64
 have h4:=AV (show f.n≤64 by omega) h.v
 have c1:decide ((1:Int)≤(f.n:Int))=true:=decide_eq_true au'
 have c2:decide ((f.n:Int)≤64)=true:=decide_eq_true au'
 have c3:decide ((0:Int)≤(f.a:Int))=true:=decide_eq_true au'
 have c4:decide ((f.a:Int)≤64 - (f.n:Int))=true:=decide_eq_true au'
 refine enter Tryz.func140 ?_
 refine run ?_
 intro B
 refine az ?_
 refine iV 35 ?_
 refine iU ?_
 refine kS (fun hg wc hG=>Jh f h wc) ?_
 refine MC (hy:=fun hg=>oI aw3 aw3 f.v (iy f.n) av2 av2 h3 (rG _)) (h:=?_)
 rw [h4]
 refine iU ?_
 refine run ?_
 refine fin1 ?_
 simp [c1,c2,c3,c4]
theorem Ez (v a n:Nat) (hn:1≤n) (Yk:a + n≤64) (hv:v<18446744073709551616) (w:World):Fn Tryz.prog 111 [.int .u64 (v:Int),.int .i64 (a:Int),.int .i64 (n:Int)].toArray w [] (fun u _=>u=.tuple #[.int .u64 (aT v a n:Int),.int .i64 0]):=by
 have hok:qp.Ok ⟨a,n,0⟩:=⟨hn,Yk,Nat.pos_of_ne_zero av4⟩
 refine enter Tryz.func111 ?_
 refine run ?_
 intro B
 refine run ?_
 refine ax (fun wc hG=>P5 ⟨a,n,0⟩ hok wc) ?_
 refine aX ?_
 refine iV 8 ?_
 refine cu ?_
 refine qo (uw rfl rfl v a av2 av2 au') ?_
 refine cu ?_
 refine jY (fun wc hG=>Jh ⟨a,n,0⟩ hok wc) ?_
 refine qo (kT rfl rfl (v >>> a) (iy n) av2 av2 (Nat.lt_of_le_of_lt ax2 hv) (rG _)) ?_
 refine cu ?_
 refine run ?_
 exact fin2 rfl
theorem AX {xs:List qp} {k:Nat} (hk:k<xs.length) (w t:Nat):joinL (xs.drop k) w t=bif decide (t &&& (xs.getD k default).mask=0) then joinL (xs.drop (k + 1)) (w ||| (xs.getD k default).bits) (t ||| (xs.getD k default).mask) else none:=by
 rw [List.drop_eq_getElem_cons hk,joinL,List.getD_eq_getElem?_getD,List.getElem?_eq_getElem hk];rfl
theorem xM {a b:Nat} (ha:a<18446744073709551616) (hb:b<18446744073709551616):a ||| b<18446744073709551616:=Nat.or_lt_two_pow (n:=64) ha hb
theorem MI (xs:List qp) (hx:∀ f∈xs,f.Ok) {w:World} {v:Value} (h:aB w v 3 (xs.map Ey)):Fn Tryz.prog 170 [v].toArray w [] (fun u _=>u=.tuple #[.int .u64 (uC (joinL xs 0 0):Int),.int .u64 (VO (joinL xs 0 0):Int),.int .i64 (GH (joinL xs 0 0))]):=by
 obtain ⟨a,ac,rfl,MJ,hal⟩:=h.opened
 have hok:∀ k,k<xs.length→(xs.getD k default).Ok:=fun k hk=>hx _ az4
 refine enter Tryz.func170 ?_
 refine run ?_
 refine cO (σ:=Nat) (fun k=>[(12,.int .i64 (k:Int))]) (fun _=>[]) (fun k=>k≤xs.length) (fun k=>xs.length - k) 0 (Nat.zero_le _) ?_
 rintro k m hm hk
 refine run ?_
 refine aj _ rfl (fun hc=>?_) (fun hc=>?_)
 ·have hlt:k<xs.length:=by simp at hc;omega
  obtain ⟨b,o,rfl⟩:=MJ aA2
  have hr:=h.row hlt
  have hf:=hok k hlt
  generalize xs.getD k default=x at hr hf
  refine run ?_
  intro F
  refine run ?_
  refine ax (fun wc hG=>P5 x hf wc) ?_
  refine aX ?_
  exact bH (k + 1) hlt
 ·refine run ?_
  clear hc
  refine cO (σ:=Nat × Nat × Nat) (fun s=>[(23,.int .i64 (s.1:Int)),(2,.int .u64 (s.2.1:Int)),(3,.int .u64 (s.2.2:Int))]) (fun _=>[]) (fun s=>s.1≤xs.length∧s.2.1<18446744073709551616∧s.2.2<18446744073709551616∧joinL (xs.drop s.1) s.2.1 s.2.2=joinL xs 0 0) (fun s=>xs.length - s.1) (0,0,0) ⟨Nat.zero_le _,by decide,by decide,rfl⟩ ?_
  rintro ⟨k2,wd,tk⟩ m2 hm2 ⟨hk2,hw,ht,hj⟩
  dsimp only at hm2 hk2 hw ht hj ⊢
  refine run ?_
  refine aj _ rfl (fun hc=>?_) (fun hc=>?_)
  ·have hlt:k2<xs.length:=by simp at hc;omega
   obtain ⟨b,o,rfl⟩:=MJ aA2
   have hr:=h.row hlt
   have hf:=hok k2 hlt
   rw [AX hlt] at hj
   generalize xs.getD k2 default=x at hr hf hj
   refine run ?_
   intro F
   refine run ?_
   intro X
   refine ax (fun wc hG=>KD x hf wc) ?_
   refine eH av2 (kT rfl rfl tk x.mask av2 av2 ht x.uT) ?_
   refine run ?_
   refine aj _ rfl (fun hq=>?_) (fun hq=>?_)
   ·have hq':decide (tk &&& x.mask=0)=false:=by simpa using hq
    rw [hq'] at hj
    rw [← hj]
    refine run ?_
    exact Gq rfl
   ·have hq':decide (tk &&& x.mask=0)=true:=by simpa using hq
    rw [hq'] at hj
    refine run ?_
    refine late 13 9 ?_
    refine YR 13 12 ?_
    refine WQ 13 [0,1,2,3,4,5,6,7,8,9,10,11,12] [] [] ?_
    refine fB ?_
    refine jC rfl (fun hx2=>mF rfl rfl x.v x.a av2 av2 (by have:=hf.an;omega)) ?_
    refine jC rfl (fun hx2=>uu rfl rfl wd x.bits av2 av2 hw x.xK) ?_
    refine fB ?_
    refine jC rfl (fun hx2=>fJ (fV 202 rfl) rfl (fun wc hG=>KD x hf wc)) ?_
    refine jC rfl (fun hx2=>uu rfl rfl tk x.mask av2 av2 ht x.uT) ?_
    refine fB ?_
    refine gZ ?_
    simp only [DN]
    refine fC ?_
    refine zB ?_
    simp only [List.cons_append,List.nil_append,List.append_nil]
    refine run ?_
    exact bH (k2 + 1,wd ||| x.bits,tk ||| x.mask) ⟨hlt,xM hw x.xK,xM ht x.uT,hj⟩
  ·have hk0:k2=xs.length:=by simp at hc;omega
   subst hk0
   rw [List.drop_length] at hj
   rw [← hj]
   refine run ?_
   exact Gq rfl
theorem zS (xs:List qp) (hx:∀ f∈xs,f.Ok) {w:World} {v:Value} (h:aB w v 3 (xs.map Ey)):Fn Tryz.prog 142 [v].toArray w [] (fun u _=>u=.tuple #[.int .u64 (uC (joinL xs 0 0):Int),.int .i64 (GH (joinL xs 0 0))]):=by
 obtain ⟨a,ac,rfl,MJ,hal⟩:=h.opened
 refine enter Tryz.func142 ?_
 refine run ?_
 refine ax (fun wc hG=>MI xs hx (h.good hG)) ?_
 refine run ?_
 exact fin2 rfl
theorem xN (n:Nat) (hn:n≤64) (w:World):Fn Tryz.prog 95 [.int .i64 (n:Int)].toArray w [] (fun u _=>u=.int .u64 (iy n:Int)):=by
 refine enter Tryz.func95 ?_
 refine run ?_
 refine aj _ rfl (fun hc=>?_) (fun hc=>?_)
 ·have:n=64:=by simp at hc;omega
  subst this
  refine run ?_
  exact fin1 rfl
 ·have hlt:n<64:=by simp at hc;omega
  refine run ?_
  refine eH av2 (mF rfl rfl 1 n av2 av2 au') ?_
  have e:∀ n,n<64→((1 <<< n) % 18446744073709551616:Nat)=2 ^ n∧1≤2 ^ n∧2 ^ n≤18446744073709551615:=by decide
  obtain ⟨e1,e2,e3⟩:=e n hlt
  rw [e1]
  refine run ?_
  refine fin1 ?_
  rw [KC hn,IntKind.wrap_u64]
  generalize 2 ^ n=z at e2 e3
  congr 1
  omega
theorem oW (v a n:Nat) (hn:n≤64) (Yk:a≤64) (hv:v<18446744073709551616) (w:World):Fn Tryz.prog 56 [.int .u64 (v:Int),.int .i64 (a:Int),.int .i64 (n:Int)].toArray w [] (fun u _=>u=.int .u64 (aT v a n:Int)):=by
 refine enter Tryz.func56 ?_
 refine run ?_
 refine iV 6 ?_
 refine cu ?_
 refine qo (uw rfl rfl v a av2 av2 au') ?_
 refine cu ?_
 refine jY (fun wc hG=>xN n hn wc) ?_
 refine qo (kT rfl rfl (v >>> a) (iy n) av2 av2 (Nat.lt_of_le_of_lt ax2 hv) (rG _)) ?_
 refine cu ?_
 refine run ?_
 exact fin1 rfl
theorem TR (a n:Nat) (hn:1≤n) (Yk:a + n≤64) (w:World):Fn Tryz.prog 220 [.int .i64 (a:Int),.int .i64 (n:Int)].toArray w [] (fun u _=>u=.bool true):=by
 refine enter Tryz.func220 ?_
 refine az ?_
 refine fin1 ?_
 have c1:decide ((0:Int)≤(a:Int))=true:=decide_eq_true au'
 have c2:decide ((a:Int)≤63)=true:=decide_eq_true au'
 have c3:decide ((1:Int)≤(n:Int))=true:=decide_eq_true au'
 have c4:decide ((n:Int)≤64 - (a:Int))=true:=decide_eq_true au'
 simp [c1,c2,c3,c4]
theorem P6 (f:qp) (h:f.Ok) (w:World):Fn Tryz.prog 205 [.agg #[.int .i64 (f.a:Int),.int .i64 (f.n:Int),.int .u64 (f.v:Int)]].toArray w [] (fun u _=>u=.bool true):=by
 have h1:=h.n1
 have h2:=h.an
 have h3:=h.v64
 have h4:=AV (show f.n≤64 by omega) h.v
 refine enter Tryz.func205 ?_
 refine run ?_
 intro B
 refine run ?_
 refine iV 14 ?_
 refine iU ?_
 refine jY (fun wc hG=>TR f.a f.n h1 h2 wc) ?_
 refine iU ?_
 refine kS (fun hg wc hG=>xN f.n au' wc) ?_
 refine MC (hy:=fun hg=>oI aw3 aw3 f.v (iy f.n) av2 av2 h3 (rG _)) (h:=?_)
 rw [h4]
 refine iU ?_
 refine run ?_
 refine fin1 ?_
 rfl
theorem xO (xs:List qp) (hx:∀ f∈xs,f.Ok) {w:World} {v:Value} (h:aB w v 3 (xs.map Ey)):Fn Tryz.prog 178 [v].toArray w [] (fun u _=>u=.tuple #[.int .u64 (uC (joinL xs 0 0):Int),.int .u64 (VO (joinL xs 0 0):Int),.int .i64 (GH (joinL xs 0 0))]):=by
 obtain ⟨a,ac,rfl,MJ,hal⟩:=h.opened
 have hok:∀ k,k<xs.length→(xs.getD k default).Ok:=fun k hk=>hx _ az4
 refine enter Tryz.func178 ?_
 refine run ?_
 refine cO (σ:=Nat) (fun k=>[(5,.int .i64 (k:Int))]) (fun _=>[]) (fun k=>k≤xs.length) (fun k=>xs.length - k) 0 (Nat.zero_le _) ?_
 rintro k m hm hk
 refine run ?_
 refine aj _ rfl (fun hc=>?_) (fun hc=>?_)
 ·have hlt:k<xs.length:=by simp at hc;omega
  obtain ⟨b,o,rfl⟩:=MJ aA2
  have hr:=h.row hlt
  have hf:=hok k hlt
  generalize xs.getD k default=x at hr hf
  refine run ?_
  refine ax (fun wc hG=>P6 x hf wc) ?_
  refine aX ?_
  exact bH (k + 1) hlt
 ·refine run ?_
  clear hc
  refine cO (σ:=Nat × Nat × Nat) (fun s=>[(8,.int .i64 (s.1:Int)),(6,.int .u64 (s.2.1:Int)),(7,.int .u64 (s.2.2:Int))]) (fun _=>[]) (fun s=>s.1≤xs.length∧s.2.1<18446744073709551616∧s.2.2<18446744073709551616∧joinL (xs.drop s.1) s.2.1 s.2.2=joinL xs 0 0) (fun s=>xs.length - s.1) (0,0,0) ⟨Nat.zero_le _,by decide,by decide,rfl⟩ ?_
  rintro ⟨k2,wd,tk⟩ m2 hm2 ⟨hk2,hw,ht,hj⟩
  dsimp only at hm2 hk2 hw ht hj ⊢
  refine run ?_
  refine aj _ rfl (fun hc=>?_) (fun hc=>?_)
  ·have hlt:k2<xs.length:=by simp at hc;omega
   obtain ⟨b,o,rfl⟩:=MJ aA2
   have hr:=h.row hlt
   have hf:=hok k2 hlt
   rw [AX hlt] at hj
   generalize xs.getD k2 default=x at hr hf hj
   have hr0:=cZ hr
   have hr1:=rD (k:=1) hr rfl
   have hr2:=rD (k:=2) hr rfl
   refine run ?_
   refine iV 12 ?_
   refine cu ?_
   refine jY (fun wc hG=>xN x.n (by have:=hf.an;omega) wc) ?_
   refine cu ?_
   refine qo (mF rfl rfl (iy x.n) x.a av2 av2 (by have:=hf.an;omega)) ?_
   refine cu ?_
   refine run ?_
   refine eH av2 (kT rfl rfl tk x.mask av2 av2 ht x.uT) ?_
   refine run ?_
   refine aj _ rfl (fun hq=>?_) (fun hq=>?_)
   ·have hq':decide (tk &&& x.mask=0)=false:=by simpa using hq
    rw [hq'] at hj
    rw [← hj]
    refine run ?_
    exact Gq rfl
   ·have hq':decide (tk &&& x.mask=0)=true:=by simpa using hq
    rw [hq'] at hj
    refine run ?_
    refine eH av2 (uu rfl rfl tk x.mask av2 av2 ht x.uT) ?_
    refine run ?_
    refine iV 13 ?_
    refine cu ?_
    refine qo (mF rfl rfl x.v x.a av2 av2 (by have:=hf.an;omega)) ?_
    refine qo (uu rfl rfl wd x.bits av2 av2 hw x.xK) ?_
    refine cu ?_
    refine run ?_
    exact bH (k2 + 1,wd ||| x.bits,tk ||| x.mask) ⟨hlt,xM hw x.xK,xM ht x.uT,hj⟩
  ·have hk0:k2=xs.length:=by simp at hc;omega
   subst hk0
   rw [List.drop_length] at hj
   rw [← hj]
   refine run ?_
   exact Gq rfl
end
structure DsD where
 kind:Int
 frame:Int
 r:Bool
 w:Bool
 x:Bool
 af:Bool
 ng:Bool
 soft:Int
 note:Int
deriving Inhabited
abbrev dsC (d:DsD):Array Value:=#[.int .i64 d.kind,.int .i64 d.frame,.bool d.r,.bool d.w,.bool d.x,.bool d.af,.bool d.ng,.int .i64 d.soft,.int .i64 d.note]
abbrev P7 (d:DsD):Value:=.agg (dsC d)
def EC:DsD:=⟨0,0,false,false,false,false,false,0,0⟩
def oZ (level:Nat):Nat:=3 * (3 - level)
def aP (level:Nat):Nat:=1 <<< oZ level
def uD (level page:Nat):Nat:=(page >>> oZ level) % 8
theorem Ji {level:Nat} (h:level<4):aP level=[512,64,8,1].getD level 0:=by
 have:∀ l,l<4→aP l=[512,64,8,1].getD l 0:=by decide
 exact this level h
section
attribute [local irreducible] Hy St Ops DH gB
theorem P8 (stage level:Int) (w:World):Fn Tryz.prog 225 [.agg #[.int .i64 stage,.int .i64 level]].toArray w [] (fun u _=>u=.bool ((decide (stage=1) || decide (stage=2)) && decide (0≤level) && decide (level<4))):=by
 refine enter Tryz.func225 ?_
 refine run ?_
 intro B
 refine az ?_
 exact fin1 rfl
theorem uU (stage:Int) (hs:stage=1∨stage=2) (level:Nat) (h:level<4) (w:World):Fn Tryz.prog 225 [.agg #[.int .i64 stage,.int .i64 (level:Int)]].toArray w [] (fun u _=>u=.bool true):=by
 refine Fn.mono (P8 stage level w) fun v hp e=>?_
 rw [e]
 have c1:decide ((0:Int)≤(level:Int))=true:=decide_eq_true au'
 have c2:decide ((level:Int)<4)=true:=decide_eq_true au'
 rw [c1,c2]
 rcases hs with rfl | rfl<;>rfl
theorem zT (stage:Int) (level:Nat) (h:level<4) (w:World):Fn Tryz.prog 226 [.agg #[.int .i64 stage,.int .i64 (level:Int)]].toArray w [] (fun u _=>u=.int .i64 (oZ level:Int)):=by
 refine enter Tryz.func226 ?_
 refine run ?_
 intro B
 refine run ?_
 refine fin1 ?_
 unfold oZ
 congr 1
 omega
theorem jc {level:Nat} (h:level<4):oZ level≤9∧aP level≤512∧1≤aP level:=by
 have:∀ l,l<4→oZ l≤9∧aP l≤512∧1≤aP l:=by decide
 exact this level h
theorem Di (level:Nat) (h:level<4) (w:World):Fn Tryz.prog 219 [.int .i64 (level:Int)].toArray w [] (fun u _=>u=.tuple #[.int .i64 (aP level:Int),.int .i64 0]):=by
 have h9:=jc h
 refine enter Tryz.func219 ?_
 refine run ?_
 intro B
 refine run ?_
 refine ax (fun wc hG=>uU 1 (.inl rfl) level h wc) ?_
 refine aX ?_
 refine ax (fun wc hG=>zT 1 level h wc) ?_
 refine eH av2 (yP rfl rfl 1 (oZ level) av2 av2 au' (Nat.lt_of_le_of_lt h9.2.1 av1)) ?_
 refine run ?_
 exact fin2 rfl
theorem P9 (level:Nat) (h:level<4) (page:Nat) (hp:page≤4095) (w:World):Fn Tryz.prog 216 [.int .i64 (level:Int),.int .i64 (page:Int)].toArray w [] (fun u _=>u=.tuple #[.int .i64 (uD level page:Int),.int .i64 0]):=by
 have h9:=jc h
 have c1:decide ((page:Int)<0)=false:=decide_eq_false au'
 have c2:decide ((4095:Int)<(page:Int))=false:=decide_eq_false au'
 refine enter Tryz.func216 ?_
 refine run ?_
 intro B
 refine run ?_
 refine ax (fun wc hG=>uU 1 (.inl rfl) level h wc) ?_
 refine az ?_
 refine aj _ rfl (fun hq=>absurd hq (by simp [c1,c2])) (fun _=>?_)
 refine run ?_
 refine ax (fun wc hG=>zT 1 level h wc) ?_
 refine eH av2 (PN rfl rfl page (oZ level) av2 av2 au') ?_
 refine eH av2 (fP rfl rfl (page >>> oZ level) 8 av2 av2 av1) ?_
 refine run ?_
 exact fin2 rfl
theorem qG (level:Nat) (h:level<4) (w:World):Fn Tryz.prog 188 [.int .i64 (level:Int)].toArray w [] (fun u _=>u=.int .i64 (aP level:Int)):=by
 have h9:=jc h
 have hn:nth ([.int .i64 512,.int .i64 64,.int .i64 8,.int .i64 1]:List Value) level=some (.int .i64 (aP level:Int)):=by
  rcases level with _ | _ | _ | _ | l
  ·rfl
  ·rfl
  ·rfl
  ·rfl
  ·omega
 refine enter Tryz.func188 ?_
 refine run ?_
 intro T
 refine run ?_
 exact fin1 rfl
theorem Qa (level:Nat) (h:level<4) (page:Nat) (hp:page≤4095) (w:World):Fn Tryz.prog 208 [.int .i64 (level:Int),.int .i64 (page:Int)].toArray w [] (fun u _=>u=.int .i64 (uD level page:Int)):=by
 refine enter Tryz.func208 ?_
 refine run ?_
 have h9:=jc h
 have e:page / aP level=page >>> oZ level:=by rw [Nat.shiftRight_eq_div_pow,aP,Nat.shiftLeft_eq,Nat.one_mul]
 refine ax (fun wc hG=>qG level h wc) ?_
 refine eH av2 (lK rfl rfl page (aP level) av2 av2 au' au') ?_
 refine eH av2 (fP rfl rfl (page / aP level) 8 av2 av2 av1) ?_
 rw [e]
 refine run ?_
 exact fin1 rfl
theorem zU (v a n:Nat) (hn:n≤62):aT v a n<4611686018427387904:=by
 unfold aT
 refine Nat.lt_of_le_of_lt Nat.and_le_right ?_
 have:∀ n,n≤62→iy n<4611686018427387904:=by decide
 exact this n hn
theorem GI {v a:Nat} (hv:v<18446744073709551616):v >>> a<18446744073709551616:=Nat.lt_of_le_of_lt ax2 hv
theorem Y7 {x:Nat}:decide ((x:Int)=1)=decide (x=1):=by
 rw [Bool.eq_iff_iff,decide_eq_true_eq,decide_eq_true_eq];omega
theorem xP (v a n:Nat) (hn:1≤n) (hn2:n≤62) (Yk:a + n≤64) (hv:v<18446744073709551616) (w:World):Fn Tryz.prog 236 [.int .u64 (v:Int),.int .i64 (a:Int),.int .i64 (n:Int)].toArray w [] (fun u _=>u=.int .i64 (aT v a n:Int)):=by
 refine enter Tryz.func236 ?_
 refine run ?_
 refine ax (fun wc hG=>Ez v a n hn Yk hv wc) ?_
 refine run ?_
 have hb:=zU v a n hn2
 refine eH av2 (og ay rfl rfl rfl au' au') ?_
 refine run ?_
 exact fin1 rfl
theorem Y8 (v a:Nat) (ha:a≤63) (hv:v<18446744073709551616) (B:Nat) (w:World) (hB:w.cell? ⟨B,0,none⟩=some (.int .u64 (v:Int))):Fn Tryz.prog 235 [.int .i64 (a:Int),.pointer (some ⟨B,0,none⟩)].toArray w [] (fun u _=>u=.bool (decide (aT v a 1=1))):=by
 refine enter Tryz.func235 ?_
 refine run ?_
 refine ax (fun wc hG=>xP v a 1 av1 av1 au' hv wc) ?_
 refine run ?_
 refine fin1 ?_
 rw [Y7]
theorem rH (v a:Nat) (ha:a≤63) (hv:v<18446744073709551616) (w:World):Fn Tryz.prog 190 [.int .u64 (v:Int),.int .i64 (a:Int)].toArray w [] (fun u _=>u=.bool (decide (aT v a 1=1))):=by
 refine enter Tryz.func190 ?_
 refine run ?_
 refine eH av2 (uw rfl rfl v a av2 av2 au') ?_
 refine eH av2 (kT rfl rfl (v >>> a) 1 av2 av2 (GI hv) av1) ?_
 refine run ?_
 refine fin1 ?_
 rw [← Y7]
 rfl
theorem qh (a:Nat) (b:Bool) (w:World):Fn Tryz.prog 179 [.int .i64 (a:Int),.bool b].toArray w [] (fun u _=>u=.agg #[.int .i64 (a:Int),.int .i64 1,.int .u64 (bif b then 1 else 0)]):=by
 refine enter Tryz.func179 ?_
 refine run ?_
 intro F
 refine run ?_
 cases b<;>simp only [cond_true,cond_false]
 ·intro G
  refine aX ?_
  exact gK rfl
 ·intro G
  refine aX ?_
  exact gK rfl
theorem uF (a:Nat) (b:Bool) (w:World):Fn Tryz.prog 241 [.int .i64 (a:Int),.bool b].toArray w [] (fun u _=>u=.agg #[.int .i64 (a:Int),.int .i64 1,.int .u64 (bif b then 1 else 0)]):=by
 refine enter Tryz.func241 ?_
 refine run ?_
 intro F
 refine run ?_
 cases b<;>simp only [cond_true,cond_false]
 ·intro G
  refine aX ?_
  exact gK rfl
 ·intro G
  refine aX ?_
  exact gK rfl
end
namespace DsD
def bare (d:DsD):Bool:=!d.r && !d.w && !d.x && !d.af && !d.ng && decide (d.soft=0)
def may (stage:Int) (level:Nat) (d:DsD):Bool:=
 bif decide (d.kind=0) then decide (d.frame=0) && d.bare && (decide (d.note=0) || (decide (stage=2) && PtD.bY d.note 0 15))
 else bif decide (d.kind=1) then d.bare && decide (d.note=0) && decide (level<3) && PtD.bY d.frame 0 4095
 else bif decide (d.kind=2) then decide (d.note=0) && (bif decide (stage=1) then d.r && decide (d.soft=0) else !d.ng && PtD.bY d.soft 0 15) && decide (0<level) && PtD.bY d.frame 0 4095 && decide (d.frame.toNat % aP level=0)
 else false
end DsD
section
attribute [local irreducible] Hy St Ops DH gB
theorem yS (stage:Int) (level:Nat) (d:DsD) (o:Nat) (ho:0<o) (ho2:o<1000) (w:World):Fn Tryz.prog 242 [.agg #[.int .i64 stage,.int .i64 (level:Int),.int .i64 d.kind,.int .i64 d.frame,.bool d.r,.bool d.w,.bool d.x,.bool d.af,.bool d.ng,.int .i64 d.soft,.int .i64 d.note],.int .i64 (o:Int)].toArray w [] (fun u _=>u=.bool (PtD.bY d.frame 0 4095 && decide (d.frame.toNat % o=0))):=by
 refine enter Tryz.func242 ?_
 refine run ?_
 intro B
 refine az ?_
 refine VL (hy:=fun hg=>fP aw3 aw3 d.frame.toNat o (by simp [jg] at hg;omega) av2 ho) (h:=?_)
 refine az ?_
 refine fin1 ?_
 rw [PtD.bY]
 congr 2
 rw [Bool.eq_iff_iff,decide_eq_true_eq,decide_eq_true_eq]
 omega
theorem Xc (a b:DsD):bF [.int .i64 a.kind,.int .i64 a.frame,.bool a.r,.bool a.w,.bool a.x,.bool a.af,.bool a.ng,.int .i64 a.soft,.int .i64 a.note] [.int .i64 b.kind,.int .i64 b.frame,.bool b.r,.bool b.w,.bool b.x,.bool b.af,.bool b.ng,.int .i64 b.soft,.int .i64 b.note]=(decide (a.kind=b.kind) && decide (a.frame=b.frame) && (a.r == b.r) && (a.w == b.w) && (a.x == b.x) && (a.af == b.af) && (a.ng == b.ng) && decide (a.soft=b.soft) && decide (a.note=b.note)):=by
 simp only [bF,nH,Bool.and_true,Bool.and_assoc]
theorem AY (d:DsD) (k f n:Int) (hk:d.kind=k):bF [.int .i64 d.kind,.int .i64 d.frame,.bool d.r,.bool d.w,.bool d.x,.bool d.af,.bool d.ng,.int .i64 d.soft,.int .i64 d.note] [.int .i64 k,.int .i64 f,.bool false,.bool false,.bool false,.bool false,.bool false,.int .i64 0,.int .i64 n]=(decide (d.frame=f) && d.bare && decide (d.note=n)):=by
 rw [Xc d ⟨k,f,false,false,false,false,false,0,n⟩,decide_eq_true hk]
 unfold DsD.bare
 cases d.r<;>cases d.w<;>cases d.x<;>cases d.af<;>cases d.ng<;>simp
theorem Xd (stage:Int) (hs:stage=1∨stage=2) (level:Nat) (hl:level<4) (d:DsD) (w:World):Fn Tryz.prog 240 [.agg #[.int .i64 stage,.int .i64 (level:Int),.int .i64 d.kind,.int .i64 d.frame,.bool d.r,.bool d.w,.bool d.x,.bool d.af,.bool d.ng,.int .i64 d.soft,.int .i64 d.note]].toArray w [] (fun u _=>u=.bool (d.may stage level)):=by
 have hlv:decide ((level:Int)<3)=decide (level<3):=by rw [Bool.eq_iff_iff,decide_eq_true_eq,decide_eq_true_eq];omega
 have hlp:decide ((0:Int)<(level:Int))=decide (0<level):=by rw [Bool.eq_iff_iff,decide_eq_true_eq,decide_eq_true_eq];omega
 have h9:=jc hl
 refine enter Tryz.func240 ?_
 refine run ?_
 intro B
 refine run ?_
 intro C
 refine run ?_
 refine aj _ rfl (fun hk=>?_) (fun hk=>?_)
 ·have hk0:d.kind=0:=by simpa using hk
  refine az ?_
  refine aj _ rfl (fun hn=>?_) (fun hn=>?_)
  ·refine az ?_
   refine fin1 ?_
   rw [AY d d.kind 0 d.note rfl]
   simp only [Bool.and_eq_true,decide_eq_true_eq] at hn
   simp [DsD.may,hk0,hn.1.1,PtD.bY,hn.1.2,hn.2]
  ·refine az ?_
   refine fin1 ?_
   rw [AY d d.kind 0 0 rfl]
   simp only [DsD.may,hk0,decide_true,cond_true,PtD.bY]
   cases hz:decide (d.note=0)
   ·have:(decide (stage=2) && (decide (0≤d.note) && decide (d.note≤15)))=false:=by
     rw [← Bool.and_assoc];simpa using hn
    rw [this];simp
   ·simp
 ·have hk0:decide (d.kind=0)=false:=by simpa using hk
  refine run ?_
  refine aj _ rfl (fun hk1=>?_) (fun hk1=>?_)
  ·have oz:d.kind=1:=by simpa using hk1
   refine az ?_
   refine aZ (fun hg1 wc hG=>yS stage level d 1 av1 av1 wc) ?_
   refine az ?_
   refine fin1 ?_
   rw [AY d d.kind d.frame 0 rfl,hlv]
   simp only [DsD.may,oz,decide_true,cond_true,show decide ((1:Int)=0)=false from rfl,cond_false,Nat.mod_one,Bool.and_true,Bool.true_and]
  ·have oz:decide (d.kind=1)=false:=by simpa using hk1
   refine run ?_
   refine aj _ rfl (fun hk2=>?_) (fun hk2=>?_)
   ·have GK:d.kind=2:=by simpa using hk2
    refine run ?_
    refine Az 7 [⟨B,#[.int .i64 stage,.int .i64 (level:Int),.int .i64 d.kind,.int .i64 d.frame,.bool d.r,.bool d.w,.bool d.x,.bool d.af,.bool d.ng,.int .i64 d.soft,.int .i64 d.note],309⟩] ?_
    refine Jc ?_
    refine run ?_
    refine aj _ rfl (fun h1=>?_) (fun h1=>?_)
    ·refine az ?_
     refine iV 32 ?_
     refine iU ?_
     refine kS (fun hg wc hG=>zT stage level hl wc) ?_
     refine MC (hy:=fun hg=>yP rfl aw3 1 (oZ level) av2 av2 au' (Nat.lt_of_le_of_lt h9.2.1 av1)) (h:=?_)
     refine kS (fun hg wc hG=>yS stage level d (aP level) au' au' wc) ?_
     refine iU ?_
     refine run ?_
     refine run ?_
     refine fin1 ?_
     rw [hlp,Xc d ⟨d.kind,d.frame,true,d.w,d.x,d.af,d.ng,0,0⟩]
     have h1':stage=1:=by simpa using h1
     simp only [DsD.may,GK,h1',decide_true,cond_true,PtD.bY,show decide ((2:Int)=0)=false from rfl,show decide ((2:Int)=1)=false from rfl,cond_false,beq_self_eq_true,Bool.and_true,Bool.true_and]
     cases d.r<;>by_cases hz:d.soft=0<;>simp [hz,Bool.and_assoc]
    ·refine az ?_
     refine iV 32 ?_
     refine iU ?_
     refine kS (fun hg wc hG=>zT stage level hl wc) ?_
     refine MC (hy:=fun hg=>yP rfl aw3 1 (oZ level) av2 av2 au' (Nat.lt_of_le_of_lt h9.2.1 av1)) (h:=?_)
     refine kS (fun hg wc hG=>yS stage level d (aP level) au' au' wc) ?_
     refine iU ?_
     refine run ?_
     refine run ?_
     refine fin1 ?_
     rw [hlp,Xc d ⟨d.kind,d.frame,d.r,d.w,d.x,d.af,false,d.soft,0⟩]
     have h1':decide (stage=1)=false:=by simpa using h1
     simp only [DsD.may,GK,h1',decide_true,cond_true,PtD.bY,show decide ((2:Int)=0)=false from rfl,show decide ((2:Int)=1)=false from rfl,cond_false,beq_self_eq_true,Bool.and_true,Bool.true_and]
     cases d.ng<;>cases decide (d.note=0)<;>cases decide (0<level)<;>simp [Bool.and_assoc]
   ·refine run ?_
    refine fin1 ?_
    have GK:decide (d.kind=2)=false:=by simpa using hk2
    simp [DsD.may,hk0,oz,GK]
end
def b1 (b:Bool):Nat:=bif b then 1 else 0
theorem Y9 (b:Bool):b1 b<2 ^ 1:=by cases b<;>decide
def DsD.fields (stage:Int) (level:Nat) (d:DsD):List qp:=
 bif decide (d.kind=0) then [⟨4,4,d.note.toNat⟩]
 else bif decide (d.kind=1) then [⟨0,1,1⟩,⟨1,1,1⟩,⟨12,12,d.frame.toNat⟩]
 else bif decide (stage=1) then [⟨0,1,1⟩,⟨1,1,b1 (decide (level=3))⟩,⟨12,12,d.frame.toNat⟩,⟨10,1,b1 d.af⟩,⟨54,1,b1 (!d.x)⟩,⟨7,1,b1 (!d.w)⟩,⟨11,1,b1 d.ng⟩]
 else [⟨0,1,1⟩,⟨1,1,b1 (decide (level=3))⟩,⟨12,12,d.frame.toNat⟩,⟨10,1,b1 d.af⟩,⟨54,1,b1 (!d.x)⟩,⟨6,1,b1 d.r⟩,⟨7,1,b1 d.w⟩,⟨55,4,d.soft.toNat⟩]
def DsD.word (stage:Int) (level:Nat) (d:DsD):Nat:=uC (joinL (d.fields stage level) 0 0)
def apart:List Nat→Nat→Bool
 | [],_=>true
 | m::r,t=>decide (t &&& m=0) && apart r (t ||| m)
theorem Jj:∀ (l:List qp) (w t:Nat),apart (l.map qp.mask) t=true→GH (joinL l w t)=0∧uC (joinL l w t)=l.foldl (fun a f=>a ||| f.bits) w:=by
 intro l
 induction l with
 | nil=>intro w t _;exact ⟨rfl,rfl⟩
 | cons f r ih=>
  intro w t h
  simp only [List.map_cons,apart,Bool.and_eq_true] at h
  rw [joinL,h.1,cond_true,List.foldl_cons]
  exact ih _ _ h.2
theorem DsD.ED (stage:Int) (level:Nat) (d:DsD):GH (joinL (d.fields stage level) 0 0)=0:=by
 refine (Jj _ _ _ ?_).1
 unfold DsD.fields
 cases decide (d.kind=0)<;>cases decide (d.kind=1)<;>cases decide (stage=1)<;>simp only [cond_true,cond_false,List.map_cons,List.map_nil,qp.mask]<;>decide +kernel
theorem Qb:∀ (l:List qp) (w t:Nat),w<18446744073709551616→uC (joinL l w t)<18446744073709551616:=by
 intro l
 induction l with
 | nil=>intro w t h;exact h
 | cons f r ih=>
  intro w t h
  rw [joinL]
  cases decide (t &&& f.mask=0)
  ·exact (show (0:Nat)<18446744073709551616 by decide)
  ·exact ih _ _ (xM h f.xK)
theorem DsD.MK (stage:Int) (level:Nat) (d:DsD) (h:d.kind=0):d.word stage level=(d.note.toNat <<< 4) % 18446744073709551616:=by
 simp [DsD.word,DsD.fields,h,joinL,uC,qp.bits]
theorem oJ {z:Int} {b:Nat} (h:PtD.bY z 0 b=true):((z.toNat:Nat):Int)=z∧z.toNat≤b:=by
 simp only [PtD.bY,Bool.and_eq_true,decide_eq_true_eq] at h
 omega
theorem DsD.uX {stage:Int} {level:Nat} {d:DsD} (h:d.may stage level=true):∀ f∈d.fields stage level,f.Ok:=by
 have key:∀ l:List qp,l.all (fun f=>decide (1≤f.n) && decide (f.a + f.n≤64) && decide (f.v<2 ^ f.n))=true→∀ f∈l,f.Ok:=by
  intro l hl f hf
  have:=List.all_eq_true.1 hl f hf
  simp only [Bool.and_eq_true,decide_eq_true_eq] at this
  exact ⟨this.1.1,this.1.2,this.2⟩
 apply key
 unfold DsD.may at h
 unfold DsD.fields
 by_cases h0:d.kind=0
 ·simp only [h0,decide_true,cond_true,Bool.and_eq_true,Bool.or_eq_true,decide_eq_true_eq] at h ⊢
  have:d.note.toNat<2 ^ 4:=by
   rcases h.2 with e | ⟨_,e⟩
   ·rw [e];decide
   ·have:=(oJ (b:=15) e).2;omega
  simp [this]
 ·by_cases h1:d.kind=1
  ·simp only [h1,decide_true,cond_true,Bool.and_eq_true,decide_eq_true_eq,show decide ((1:Int)=0)=false from rfl,cond_false] at h ⊢
   have:d.frame.toNat<2 ^ 12:=by have:=(oJ (b:=4095) h.2).2;omega
   simp [this]
  ·by_cases h2:d.kind=2
   ·simp only [h2,decide_true,cond_true,Bool.and_eq_true,decide_eq_true_eq,show decide ((2:Int)=0)=false from rfl,show decide ((2:Int)=1)=false from rfl,cond_false] at h ⊢
    have:d.frame.toNat<2 ^ 12:=by have:=(oJ (b:=4095) h.1.2).2;omega
    have b:=Y9
    by_cases hs:stage=1
    ·simp only [hs,decide_true,cond_true]
     simp [this,b,b1]
     cases decide (level=3)<;>cases d.af<;>cases d.x<;>cases d.w<;>cases d.ng<;>decide
    ·simp only [hs,decide_false,cond_false,Bool.and_eq_true] at h ⊢
     have h4:d.soft.toNat<2 ^ 4:=by have:=(oJ (b:=15) h.1.1.1.2.2).2;omega
     simp [this,h4,b1]
     cases decide (level=3)<;>cases d.af<;>cases d.x<;>cases d.w<;>cases d.r<;>decide
   ·simp [h0,h1,h2] at h
def gV (stage:Int) (level:Nat) (w:Nat):DsD:=
 bif !decide (aT w 0 1=1) then { EC with note:=(aT w 4 4:Int) }
 else bif decide (aT w 1 1=1) && !decide (level=3) then { EC with kind:=1,frame:=(aT w 12 12:Int) }
 else bif decide (stage=1) then { EC with kind:=2,frame:=(aT w 12 12:Int),af:=decide (aT w 10 1=1),x:=!decide (aT w 54 1=1),r:=true,w:=!decide (aT w 7 1=1),ng:=decide (aT w 11 1=1) }
 else { EC with kind:=2,frame:=(aT w 12 12:Int),af:=decide (aT w 10 1=1),x:=!decide (aT w 54 1=1),r:=decide (aT w 6 1=1),w:=decide (aT w 7 1=1),soft:=(aT w 55 4:Int) }
def Jk (stage:Int) (level:Nat) (w:Nat):DsD:=bif (gV stage level w).may stage level && decide ((gV stage level w).word stage level=w) then gV stage level w else EC
theorem GL (stage:Int) (level:Nat):EC.may stage level=true:=by simp [DsD.may,EC,DsD.bare]
theorem TS (stage:Int) (level:Nat) (w:Nat):(Jk stage level w).may stage level=true:=by
 unfold Jk
 cases h:(gV stage level w).may stage level
 ·rw [Bool.false_and,cond_false];exact GL _ _
 ·rw [Bool.true_and]
  cases decide ((gV stage level w).word stage level=w)
  ·exact GL _ _
  ·exact h
def dS (n:Nat) (f:Int):Bool:=decide (0≤f) && decide (f<((n / 8:Nat):Int))
def sK (f:Int) (level page:Nat):Nat:=f.toNat * 8 + uD level page
structure WkD where
 fs:List Int
 d:DsD
 ok:Bool
deriving Inhabited
def WkD.lv (w:WkD):Nat:=w.fs.length - 1
theorem yT (level page:Nat):uD level page<8:=Nat.mod_lt _ av1
theorem jy {n:Nat} {f:Int} (h:dS n f=true):0≤f∧f.toNat<n / 8∧(f.toNat:Int)=f:=by
 simp only [dS,Bool.and_eq_true,decide_eq_true_eq] at h
 omega
theorem Xe {n:Nat} {f:Int} {level page:Nat} (h:dS n f=true):sK f level page<n:=by
 have h1:=jy h
 have h2:=yT level page
 unfold sK
 omega
theorem jT {stage:Int} {level:Nat} {d:DsD} (h:d.may stage level=true):(d.kind=0∨d.kind=1∨d.kind=2)∧(d.kind=0→d.frame=0∧0≤d.note∧d.note≤15)∧(d.kind=1→level<3∧0≤d.frame∧d.frame≤4095∧d.note=0)∧(d.kind=2→0<level∧0≤d.frame∧d.frame≤4095∧d.note=0∧d.frame.toNat % aP level=0):=by
 unfold DsD.may at h
 by_cases h0:d.kind=0
 ·simp only [h0,decide_true,cond_true,Bool.and_eq_true,Bool.or_eq_true,decide_eq_true_eq] at h
  refine ⟨.inl h0,fun _=>⟨h.1.1,?_⟩,fun e=>absurd e au',fun e=>absurd e au'⟩
  rcases h.2 with e | ⟨_,e⟩
  ·omega
  ·simp only [PtD.bY,Bool.and_eq_true,decide_eq_true_eq] at e;omega
 ·by_cases h1:d.kind=1
  ·simp only [h1,decide_true,cond_true,Bool.and_eq_true,decide_eq_true_eq,show decide ((1:Int)=0)=false from rfl,cond_false,PtD.bY] at h
   refine ⟨.inr (.inl h1),fun e=>absurd e au',fun _=>⟨h.1.2,h.2.1,h.2.2,h.1.1.2⟩,fun e=>absurd e au'⟩
  ·by_cases h2:d.kind=2
   ·simp only [h2,decide_true,cond_true,Bool.and_eq_true,decide_eq_true_eq,show decide ((2:Int)=0)=false from rfl,show decide ((2:Int)=1)=false from rfl,cond_false,PtD.bY] at h
    refine ⟨.inr (.inr h2),fun e=>absurd e au',fun e=>absurd e au',fun _=>⟨h.1.1.2,h.1.2.1,h.1.2.2,h.1.1.1.1,h.2⟩⟩
   ·simp [h0,h1,h2] at h
section
attribute [local irreducible] Hy St Ops DH gB
abbrev dpV (stage:Int) (level:Nat) (d:DsD):Value:=.agg #[.int .i64 stage,.int .i64 (level:Int),.int .i64 d.kind,.int .i64 d.frame,.bool d.r,.bool d.w,.bool d.x,.bool d.af,.bool d.ng,.int .i64 d.soft,.int .i64 d.note]
def zV (xs:List qp):List Value:=(xs.map Ey).flatten
theorem pJ (xs:List qp):∀ c∈xs.map Ey,c.length=3∧c.all (·.oneCell')=true:=by
 intro c hc
 obtain ⟨x,_,rfl⟩:=List.mem_map.1 hc
 exact ⟨rfl,rfl⟩
theorem pK (T n:Nat) (xs:List qp) (hn:xs.length=n:=by rfl) (hm:n≤1000:=by decide):Own 149 3 (.slice (some ⟨T,0,none⟩) n n) [⟨T,(zV xs).toArray,149⟩] (xs.map Ey):=by
 subst hn
 refine ⟨pJ xs,.inr ⟨T,xs.length,_,by rw [List.length_map],rfl,?_⟩⟩
 have hl:=dI (xs.map Ey) (fun c hc=>(pJ xs c hc).1)
 refine ⟨hl,by simp,Nat.le_trans hm av1,by simpa [zV] using hl,?_⟩
 rw [List.take_of_length_le (by simp [zV,hl])];rfl
theorem rJ {e t:Nat} (T cap:Nat) (cs:List Value) {xs:List (List Value)} {sz n:Nat} (h:xs.flatten=cs) (ht:e=t) (hall:∀ c∈xs,c.length=sz∧c.all (·.oneCell')=true) (hn:xs.length=n:=by rfl) (hc:xs.length=cap:=by rfl) (hcap:cap≤maxLen:=by decide):Own e sz (.slice (some ⟨T,0,none⟩) n cap) [⟨T,cs.toArray,t⟩] xs:=by
 subst ht hn hc h
 refine ⟨hall,.inr ⟨T,_,_,rfl,rfl,?_⟩⟩
 have hl:=dI xs (fun c hc=>(hall c hc).1)
 exact ⟨hl,Nat.le_refl _,hcap,by simp [hl],by rw [List.take_of_length_le (by simp [hl])]⟩
theorem DsD.Jl (stage:Int) (level:Nat) (d:DsD):(d.fields stage level).length≤8:=by
 unfold DsD.fields
 cases decide (d.kind=0)<;>cases decide (d.kind=1)<;>cases decide (stage=1)<;>simp
theorem GM {stage:Int} {level:Nat} {d:DsD} (hm:d.may stage level=true) (hk:d.kind=2) (h1:decide (stage=1)=false):0≤d.soft∧d.soft≤15:=by
 simp only [DsD.may,hk,h1,decide_true,cond_true,Bool.and_eq_true,decide_eq_true_eq,show decide ((2:Int)=0)=false from rfl,show decide ((2:Int)=1)=false from rfl,cond_false,PtD.bY] at hm
 exact hm.1.1.1.2.2
theorem MM (stage:Int) (hs:stage=1∨stage=2) (level:Nat) (hl:level<4) (d:DsD) (hm:d.may stage level=true) (w:World):Fn Tryz.prog 238 [dpV stage level d].toArray w [] (fun u hn=>∃ h1,Own 149 3 u h1 ((d.fields stage level).map Ey)∧aF h1 hn):=by
 have hlv:decide ((level:Int)=3)=decide (level=3):=by rw [Bool.eq_iff_iff,decide_eq_true_eq,decide_eq_true_eq];omega
 obtain ⟨k1,k2,k3,k4⟩:=jT hm
 have hf:0≤d.frame∧d.frame≤4095:=by
  rcases k1 with e | e | e
  ·have:=k2 e;omega
  ·have:=k3 e;omega
  ·have:=k4 e;omega
 have hf0:=hf.1
 have hf1:=hf.2
 have hfz:((d.frame.toNat:Nat):Int)=d.frame:=by omega
 refine enter Tryz.func238 ?_
 refine run ?_
 intro B
 refine run ?_
 refine aj _ rfl (fun hk=>?_) (fun hk=>?_)
 ·have hk0:d.kind=0:=by simpa using hk
  have hn0:=(k2 hk0).2.1
  have hn1:=(k2 hk0).2.2
  have hnz:((d.note.toNat:Nat):Int)=d.note:=by omega
  refine run ?_
  intro T
  refine fin1 ?_
  have e:d.fields stage level=[⟨4,4,d.note.toNat⟩]:=by simp [DsD.fields,hk0]
  rw [e]
  refine ⟨_,rJ T 1 [.int .i64 4,.int .i64 4,.int .u64 d.note] (by simp [Ey,hnz]) rfl (by simp [Ey,Value.oneCell']),?_⟩
  (exact ak)
 ·have hk0:decide (d.kind=0)=false:=by simpa using hk
  refine run ?_
  refine drawM 15 [0,1,2,3,4,5,6,7,8,9,10,11,12,13] [14] [] ?_
  refine jC rfl (fun hx2=>fJ (fV 241 rfl) rfl (fun wc hG=>uF 0 true wc)) ?_
  refine fB ?_
  refine WU (hy:=fun hx2 hg=>Ai rfl) (h:=?_)
  refine fB ?_
  refine jC rfl (fun hx2=>fJ (fV 241 rfl) rfl (fun wc hG=>uF 1 _ wc)) ?_
  refine fB ?_
  refine TM (zV [⟨0,1,1⟩,⟨1,1,b1 (decide (d.kind=1) || decide (level=3))⟩,⟨12,12,d.frame.toNat⟩]) (h:=?_) (hn:=?_)
  ·refine gZ ?_
   simp only [DN]
   rintro _ hn ⟨T,rfl,rfl⟩
   refine fC ?_
   refine zB ?_
   simp only [List.cons_append,List.nil_append,List.append_nil]
   refine run ?_
   refine aj _ rfl (fun hk1=>?_) (fun hk1=>?_)
   ·have oz:decide (d.kind=1)=true:=hk1
    refine run ?_
    refine fin1 ?_
    have e:d.fields stage level=[⟨0,1,1⟩,⟨1,1,1⟩,⟨12,12,d.frame.toNat⟩]:=by simp only [DsD.fields,hk0,oz,cond_false,cond_true]
    rw [e]
    simp only [oz,Bool.true_or,show b1 true=1 from rfl]
    refine ⟨_,pK T 3 _,?_⟩
    (exact ak)
   ·have oz:decide (d.kind=1)=false:=by simpa using hk1
    have hk2:d.kind=2:=by
     simp at hk0 oz
     rcases k1 with e | e | e
     ·exact absurd e hk0
     ·exact absurd e oz
     ·exact e
    simp only [oz,Bool.false_or]
    refine run ?_
    refine drawM 13 [0,1,2,3,4,5,6,7,8,9,10,11] [12] [] ?_
    refine fB ?_
    refine jC rfl (fun hx2=>fJ (fV 241 rfl) rfl (fun wc hG=>uF 10 _ wc)) ?_
    refine fB ?_
    refine jC rfl (fun hx2=>fJ (fV 241 rfl) rfl (fun wc hG=>uF 54 _ wc)) ?_
    refine fB ?_
    refine TM (zV [⟨10,1,b1 d.af⟩,⟨54,1,b1 (!d.x)⟩]) (h:=?_) (hn:=by cases d.af<;>cases d.x<;>rfl)
    refine gZ ?_
    simp only [DN]
    rintro _ hn ⟨T2,rfl,rfl⟩
    refine fC ?_
    refine zB ?_
    simp only [List.cons_append,List.nil_append,List.append_nil]
    refine uS (m:=2) ([⟨10,1,b1 d.af⟩,⟨54,1,b1 (!d.x)⟩].map Ey) [⟨T2,(zV [⟨10,1,b1 d.af⟩,⟨54,1,b1 (!d.x)⟩]).toArray,149⟩,⟨B,#[.int .i64 stage,.int .i64 (level:Int),.int .i64 d.kind,.int .i64 d.frame,.bool d.r,.bool d.w,.bool d.x,.bool d.af,.bool d.ng,.int .i64 d.soft,.int .i64 d.note],309⟩] (pK T 3 [⟨0,1,1⟩,⟨1,1,b1 (decide (level=3))⟩,⟨12,12,d.frame.toNat⟩]) av4 (fun v' ha' hA'=>?_) av4 rfl (pJ _) (bT (m:=6) mh rfl) (hperm:=by (exact au))
    refine aJ (⟨B,#[.int .i64 stage,.int .i64 (level:Int),.int .i64 d.kind,.int .i64 d.frame,.bool d.r,.bool d.w,.bool d.x,.bool d.af,.bool d.ng,.int .i64 d.soft,.int .i64 d.note],309⟩::ha') ak ?_
    obtain ⟨q,cap,rfl⟩:=hA'.opened
    refine run ?_
    refine aj _ rfl (fun h1=>?_) (fun h1=>?_)
    ·have h1':decide (stage=1)=true:=h1
     refine run ?_
     refine drawM 13 [0,1,2,3,4,5,6,7,8,9,10,11] [12] [] ?_
     refine fB ?_
     refine jC rfl (fun hx2=>fJ (fV 241 rfl) rfl (fun wc hG=>uF 7 _ wc)) ?_
     refine fB ?_
     refine jC rfl (fun hx2=>fJ (fV 241 rfl) rfl (fun wc hG=>uF 11 _ wc)) ?_
     refine fB ?_
     refine TM (zV [⟨7,1,b1 (!d.w)⟩,⟨11,1,b1 d.ng⟩]) (h:=?_) (hn:=by cases d.w<;>cases d.ng<;>rfl)
     refine gZ ?_
     simp only [DN]
     rintro _ hn ⟨T3,rfl,rfl⟩
     refine fC ?_
     refine zB ?_
     simp only [List.cons_append,List.nil_append,List.append_nil]
     refine uS (m:=2) ([⟨7,1,b1 (!d.w)⟩,⟨11,1,b1 d.ng⟩].map Ey) [⟨T3,(zV [⟨7,1,b1 (!d.w)⟩,⟨11,1,b1 d.ng⟩]).toArray,149⟩,⟨B,#[.int .i64 stage,.int .i64 (level:Int),.int .i64 d.kind,.int .i64 d.frame,.bool d.r,.bool d.w,.bool d.x,.bool d.af,.bool d.ng,.int .i64 d.soft,.int .i64 d.note],309⟩] hA' av4 (fun v2 ha2 hA2=>?_) av4 rfl (pJ _) (bT (m:=6) mh rfl) (hperm:=by (exact au))
     refine run ?_
     refine fin1 ?_
     have e:d.fields stage level=[⟨0,1,1⟩,⟨1,1,b1 (decide (level=3))⟩,⟨12,12,d.frame.toNat⟩,⟨10,1,b1 d.af⟩,⟨54,1,b1 (!d.x)⟩,⟨7,1,b1 (!d.w)⟩,⟨11,1,b1 d.ng⟩]:=by simp only [DsD.fields,hk0,oz,h1',cond_false,cond_true]
     rw [e]
     exact ⟨ha2,hA2,by (exact ak)⟩
    ·have h1':decide (stage=1)=false:=by simpa using h1
     have hso:=GM hm hk2 h1'
     have hs0:=hso.1
     have hs1:=hso.2
     have hsz:((d.soft.toNat:Nat):Int)=d.soft:=by omega
     refine run ?_
     refine drawM 18 [0,1,2,3,4,5,6,7,8,9,10,11,12,13,14,15,16] [17] [] ?_
     refine fB ?_
     refine jC rfl (fun hx2=>fJ (fV 241 rfl) rfl (fun wc hG=>uF 6 _ wc)) ?_
     refine fB ?_
     refine jC rfl (fun hx2=>fJ (fV 241 rfl) rfl (fun wc hG=>uF 7 _ wc)) ?_
     refine fB ?_
     refine TM (zV [⟨6,1,b1 d.r⟩,⟨7,1,b1 d.w⟩,⟨55,4,d.soft.toNat⟩]) (h:=?_) (hn:=by rw [← hsz];cases d.r<;>cases d.w<;>rfl)
     refine gZ ?_
     simp only [DN]
     rintro _ hn ⟨T3,rfl,rfl⟩
     refine fC ?_
     refine zB ?_
     simp only [List.cons_append,List.nil_append,List.append_nil]
     refine uS (m:=3) ([⟨6,1,b1 d.r⟩,⟨7,1,b1 d.w⟩,⟨55,4,d.soft.toNat⟩].map Ey) [⟨T3,(zV [⟨6,1,b1 d.r⟩,⟨7,1,b1 d.w⟩,⟨55,4,d.soft.toNat⟩]).toArray,149⟩,⟨B,#[.int .i64 stage,.int .i64 (level:Int),.int .i64 d.kind,.int .i64 d.frame,.bool d.r,.bool d.w,.bool d.x,.bool d.af,.bool d.ng,.int .i64 d.soft,.int .i64 d.note],309⟩] hA' av4 (fun v2 ha2 hA2=>?_) av4 rfl (pJ _) (bT (m:=9) mh rfl) (hperm:=by (exact au))
     refine run ?_
     refine fin1 ?_
     have e:d.fields stage level=[⟨0,1,1⟩,⟨1,1,b1 (decide (level=3))⟩,⟨12,12,d.frame.toNat⟩,⟨10,1,b1 d.af⟩,⟨54,1,b1 (!d.x)⟩,⟨6,1,b1 d.r⟩,⟨7,1,b1 d.w⟩,⟨55,4,d.soft.toNat⟩]:=by simp only [DsD.fields,hk0,oz,h1',cond_false,cond_true]
     rw [e]
     exact ⟨ha2,hA2,by (exact ak)⟩
  ·rw [hlv,← hfz]
   cases decide (d.kind=1)<;>cases decide (level=3)<;>rfl
theorem Qc (stage:Int) (hs:stage=1∨stage=2) (level:Nat) (hl:level<4) (d:DsD) (w:World):Fn Tryz.prog 237 [.int .i64 stage,.int .i64 (level:Int),P7 d].toArray w [] (fun u _=>u=.int .i64 (bif d.may stage level then 0 else 1)):=by
 refine enter Tryz.func237 ?_
 refine run ?_
 intro B C
 refine az ?_
 refine ax (fun wc hG=>uU stage hs level hl wc) ?_
 refine az ?_
 refine aZ (fun hg wc hG=>Xd stage hs level hl d wc) ?_
 refine az ?_
 refine aj _ rfl (fun hc=>?_) (fun hc=>?_)
 ·refine run ?_
  refine fin1 ?_
  have:d.may stage level=false:=by simpa using hc
  rw [this];rfl
 ·refine run ?_
  refine fin1 ?_
  have:d.may stage level=true:=by simpa using hc
  rw [this];rfl
theorem TT (stage:Int) (hs:stage=1∨stage=2) (level:Nat) (hl:level<4) (d:DsD) (w:World):Fn Tryz.prog 230 [.int .i64 stage,.int .i64 (level:Int),P7 d].toArray w [] (fun u _=>u=.tuple #[.int .u64 (bif d.may stage level then (d.word stage level:Int) else 0),.int .i64 (bif d.may stage level then 0 else 1)]):=by
 refine enter Tryz.func230 ?_
 refine run ?_
 intro B
 refine ax (fun wc hG=>Qc stage hs level hl d wc) ?_
 cases hm:d.may stage level with
 | false=>
  simp only [cond_false]
  refine aX ?_
  exact fin2 rfl
 | true=>
  simp only [cond_true]
  refine aX ?_
  refine gX (fun wc hG=>MM stage hs level hl d hm wc) ?_
  rintro v hn ⟨h1,hO,hle⟩
  refine aJ h1 (cnt1 hle) ?_
  refine ax (fun wc hG=>zS _ (DsD.uX hm) (hO.lie hG.here (by rw [List.length_map];exact Nat.le_trans (DsD.Jl stage level d) av1))) ?_
  rw [DsD.ED]
  refine run ?_
  exact fin2 rfl
theorem GN (ai:Int) (v a:Nat) (hai:ai=(a:Int)) (ha:a≤63) (hv:v<18446744073709551616) (B:Nat) (w:World) (hB:w.cell? ⟨B,0,none⟩=some (.int .u64 (v:Int))):Fn Tryz.prog 235 [.int .i64 ai,.pointer (some ⟨B,0,none⟩)].toArray w [] (fun u _=>u=.bool (decide (aT v a 1=1))):=by
 subst hai
 exact Y8 v a ha hv B w hB
theorem Good.cell1 {w0 w:World} {mu:List Nat} {hp:Hp} (hG:Good w0 mu hp w) {b t:Nat} {v:Value} (h:(⟨b,#[v],t⟩:aI)∈hp):w.cell? ⟨b,0,none⟩=some v:=by
 rw [cell_of_block (hG.here _ h)];rfl
theorem Qd (stage:Int) (hs:stage=1∨stage=2) (level:Nat) (hl:level<4) (v:Nat) (hv:v<18446744073709551616) (w:World):Fn Tryz.prog 229 [.agg #[.int .i64 stage,.int .i64 (level:Int)],.int .u64 (v:Int)].toArray w [] (fun u _=>u=P7 (gV stage level v)):=by
 have hlv:decide ((level:Int)=3)=decide (level=3):=by rw [Bool.eq_iff_iff,decide_eq_true_eq,decide_eq_true_eq];omega
 refine enter Tryz.func229 ?_
 refine run ?_
 intro B C D
 refine oP (fs:=[]) (vs:=[.int .i64 0]) (us:=[.pointer (some ⟨C,0,none⟩)]) (fun wc hG=>GN 0 v 0 rfl av1 hv C wc (hG.cell1 (t:=25) av4)) ?_
 refine run ?_
 refine aj _ rfl (fun h0=>?_) (fun h0=>?_)
 ·have h0':(!decide (aT v 0 1=1))=true:=h0
  refine run ?_
  refine ax (fun wc hG=>xP v 4 4 av1 av1 av1 hv wc) ?_
  refine run ?_
  refine gK ?_
  rw [gV,h0',cond_true]
  rfl
 ·have h0':(!decide (aT v 0 1=1))=false:=by simpa using h0
  refine run ?_
  refine oP (fs:=[]) (vs:=[.int .i64 1]) (us:=[.pointer (some ⟨C,0,none⟩)]) (fun wc hG=>GN 1 v 1 rfl av1 hv C wc (hG.cell1 (t:=25) av4)) ?_
  refine az ?_
  refine aj _ rfl (fun h1=>?_) (fun h1=>?_)
  ·rw [hlv] at h1
   refine run ?_
   refine ax (fun wc hG=>xP v 12 12 av1 av1 av1 hv wc) ?_
   refine run ?_
   refine gK ?_
   rw [gV,h0',cond_false,h1]
   rfl
  ·have h1':(decide (aT v 1 1=1) && !decide ((level:Int)=3))=false:=by simpa using h1
   rw [hlv] at h1'
   refine run ?_
   refine ax (fun wc hG=>xP v 12 12 av1 av1 av1 hv wc) ?_
   refine run ?_
   refine oP (fs:=[]) (vs:=[.int .i64 10]) (us:=[.pointer (some ⟨C,0,none⟩)]) (fun wc hG=>GN 10 v 10 rfl av1 hv C wc (hG.cell1 (t:=25) av4)) ?_
   refine run ?_
   refine oP (fs:=[]) (vs:=[.int .i64 54]) (us:=[.pointer (some ⟨C,0,none⟩)]) (fun wc hG=>GN 54 v 54 rfl av1 hv C wc (hG.cell1 (t:=25) av4)) ?_
   refine run ?_
   intro E
   refine run ?_
   refine aj _ rfl (fun hst=>?_) (fun hst=>?_)
   ·have hst':decide (stage=1)=true:=hst
    refine run ?_
    refine oP (fs:=[]) (vs:=[.int .i64 7]) (us:=[.pointer (some ⟨C,0,none⟩)]) (fun wc hG=>GN 7 v 7 rfl av1 hv C wc (hG.cell1 (t:=25) av4)) ?_
    refine run ?_
    refine oP (fs:=[]) (vs:=[.int .i64 11]) (us:=[.pointer (some ⟨C,0,none⟩)]) (fun wc hG=>GN 11 v 11 rfl av1 hv C wc (hG.cell1 (t:=25) av4)) ?_
    refine run ?_
    refine gK ?_
    rw [gV,h0',cond_false,h1',cond_false,hst',cond_true]
    rfl
   ·have hst':decide (stage=1)=false:=by simpa using hst
    refine run ?_
    refine Az 8 [⟨D,#[.int .i64 0,.int .i64 0,.bool false,.bool false,.bool false,.bool false,.bool false,.int .i64 0,.int .i64 0],258⟩,⟨C,#[.int .u64 (v:Int)],25⟩,⟨B,#[.int .i64 stage,.int .i64 (level:Int)],300⟩] ?_
    refine Jc ?_
    refine Kr av2 ax1 (Ef (fs:=[]) (vs:=[.int .i64 6]) (us:=[.pointer (some ⟨C,0,none⟩)]) (fV 235 rfl) rfl rfl (fun wc hG=>GN 6 v 6 rfl av1 hv C wc (hG.cell1 (t:=25) av4))) ?_
    refine Jc ?_
    refine Kt av2 ax1 (fun hx=>Ef (fs:=[]) (vs:=[.int .i64 7]) (us:=[.pointer (some ⟨C,0,none⟩)]) (fV 235 rfl) rfl rfl (fun wc hG=>GN 7 v 7 rfl av1 hv C wc (hG.cell1 (t:=25) av4))) ?_
    refine Jc ?_
    refine WO (fun wc hG=>xP v 55 4 av1 av1 av1 hv wc) ?_
    refine Jc ?_
    refine run ?_
    refine gK ?_
    rw [gV,h0',cond_false,h1',cond_false,hst',cond_false]
    rfl
theorem Za (stage:Int) (hs:stage=1∨stage=2) (level:Nat) (hl:level<4) (v:Nat) (hv:v<18446744073709551616) (w:World):Fn Tryz.prog 218 [.int .i64 stage,.int .i64 (level:Int),.int .u64 (v:Int)].toArray w [] (fun u _=>u=.tuple #[P7 (Jk stage level v),.int .i64 0]):=by
 refine enter Tryz.func218 ?_
 refine run ?_
 intro B C
 refine ax (fun wc hG=>uU stage hs level hl wc) ?_
 refine aX ?_
 refine ax (fun wc hG=>Qd stage hs level hl v hv wc) ?_
 refine run ?_
 intro D
 refine run ?_
 refine ax (fun wc hG=>TT stage hs level hl _ wc) ?_
 refine az ?_
 have hm2:∀ b:Bool,decide ((bif b then (0:Int) else 1)=0)=b:=by decide
 refine aj _ rfl (fun hc=>?_) (fun hc=>?_)
 ·refine run ?_
  refine gG ?_
  have:Jk stage level v=EC:=by
   unfold Jk
   rw [hm2] at hc
   cases hm:(gV stage level v).may stage level
   ·rfl
   ·rw [hm] at hc
    have hne:¬ (gV stage level v).word stage level=v:=by simpa [Int.ofNat_inj] using hc
    simp [hne]
  rw [this]
  rfl
 ·refine run ?_
  refine gG ?_
  have:Jk stage level v=gV stage level v:=by
   unfold Jk
   rw [hm2] at hc
   cases hm:(gV stage level v).may stage level
   ·rw [hm] at hc;simp at hc
   ·rw [hm] at hc
    have he:(gV stage level v).word stage level=v:=by simpa [Int.ofNat_inj] using hc
    simp [he]
  rw [this]
end
abbrev uV (x:Nat):List Value:=[.int .u64 (x:Int)]
section
attribute [local irreducible] Hy St Ops DH gB
theorem MN {w:World} (xs:List Nat) (u v:Value) (hu:aB w u 1 (xs.map uV)) (hv:aB w v 1 (xs.map uV)):Fn Tryz.prog 48 [u,v].toArray w [] (fun r _=>r=.bool true):=by
 obtain ⟨q,cap,rfl,hne,hle⟩:=hu.opened
 obtain ⟨q2,cap2,rfl,hne2,_⟩:=hv.opened
 refine enter Tryz.func48 ?_
 refine run ?_
 refine aj _ rfl (fun hc=>absurd hc av4) (fun hc=>?_)
 refine run ?_
 refine cO (σ:=Nat) (fun k=>[(5,.int .i64 (k:Int))]) (fun _=>[]) (fun k=>k≤xs.length) (fun k=>xs.length - k) 0 (Nat.zero_le _) ?_
 rintro k m hm hk
 refine run ?_
 refine aj _ rfl (fun hc=>?_) (fun hc=>?_)
 ·have hlt:k<xs.length:=by simp at hc;omega
  obtain ⟨b,o,rfl⟩:=hne av5
  obtain ⟨b2,o2,rfl⟩:=hne2 av5
  have h1:=cZ (hu.row hlt)
  have h2:=cZ (hv.row hlt)
  simp only [uV,Nat.mul_one] at h1 h2
  refine run ?_
  refine eU ?_
  refine cu ?_
  refine run ?_
  refine aj _ rfl (fun hp=>?_) (fun hp=>?_)
  ·simp [bF,nH] at hp
  ·refine run ?_
   exact bH (k + 1) hlt
 ·refine run ?_
  exact fin1 rfl
theorem GR {w:World} (xs:List Nat) (v:Value) (h:aB w v 1 (xs.map uV)) (hl:xs.length<1000000):Fn Tryz.prog 35 [v].toArray w [] (fun u hp=>Acc 25 1 u hp (xs.map uV)):=by
 obtain ⟨q,cap,rfl,hne,hle⟩:=h.opened
 refine enter Tryz.func35 ?_
 refine run ?_
 refine cO (σ:=Nat × Value × Hp) (fun s=>[(3,s.2.1),(4,.int .i64 (s.1:Int))]) (fun s=>s.2.2) (fun s=>s.1≤xs.length∧Acc 25 1 s.2.1 s.2.2 ((xs.take s.1).map uV)) (fun s=>xs.length - s.1) (0,_,[]) ⟨by omega,Acc.nil _ _⟩ ?_
 rintro ⟨k,v,ha⟩ m hm ⟨hk,hA⟩
 dsimp only at hm hk hA ⊢
 refine run ?_
 refine aj _ rfl (fun hc=>?_) (fun hc=>?_)
 ·have hlt:k<xs.length:=by simp at hc;omega
  obtain ⟨b,o,rfl⟩:=hne av5
  have h1:=cZ (h.row hlt)
  simp only [uV,Nat.mul_one] at h1
  refine run ?_
  intro T
  refine jD (c:=uV (xs.getD k default)) hA (fun v' ha' hA'=>?_) aw0 (bT (m:=1) mh rfl)
  refine run ?_
  refine bH (k + 1,v',ha') ⟨hlt,?_⟩
  dsimp only
  rw [gI hlt,List.map_append]
  exact hA'
 ·have:k=xs.length:=by simp at hc;omega
  subst this
  refine run ?_
  refine fin1 ?_
  simpa using hA
theorem GU {w:World} (xs:List Int) (u v:Value) (hu:aB w u 1 (xs.map dH)) (hv:aB w v 1 (xs.map dH)):Fn Tryz.prog 50 [u,v].toArray w [] (fun r _=>r=.bool true):=by
 obtain ⟨q,cap,rfl,hne,hle⟩:=hu.opened
 obtain ⟨q2,cap2,rfl,hne2,_⟩:=hv.opened
 refine enter Tryz.func50 ?_
 refine run ?_
 refine aj _ rfl (fun hc=>absurd hc av4) (fun hc=>?_)
 refine run ?_
 refine cO (σ:=Nat) (fun k=>[(5,.int .i64 (k:Int))]) (fun _=>[]) (fun k=>k≤xs.length) (fun k=>xs.length - k) 0 (Nat.zero_le _) ?_
 rintro k m hm hk
 refine run ?_
 refine aj _ rfl (fun hc=>?_) (fun hc=>?_)
 ·have hlt:k<xs.length:=by simp at hc;omega
  obtain ⟨b,o,rfl⟩:=hne av5
  obtain ⟨b2,o2,rfl⟩:=hne2 av5
  have h1:=cZ (hu.row hlt)
  have h2:=cZ (hv.row hlt)
  simp only [dH,Nat.mul_one] at h1 h2
  refine run ?_
  refine eU ?_
  refine cu ?_
  refine run ?_
  refine aj _ rfl (fun hp=>?_) (fun hp=>?_)
  ·simp [bF,nH] at hp
  ·refine run ?_
   exact bH (k + 1) hlt
 ·refine run ?_
  exact fin1 rfl
theorem rM {w:World} (v:Value) (xs:List (List Value)) (h:aB w v 1 xs) (hall:∀ c∈xs,c.length=1∧c.all (·.oneCell')=true) (hl:xs.length<1000000):Fn Tryz.prog 38 [v].toArray w [] (fun u hn=>Own 25 1 u hn xs):=by
 obtain ⟨⟨q,cap,rfl,hne⟩,_⟩:=h
 refine enter Tryz.func38 ?_
 refine run ?_
 refine eH av2 (Jd ay rfl rfl) ?_
 refine run ?_
 refine aj _ rfl (fun hp=>?_) (fun hp=>?_)
 ·obtain rfl:xs=[]:=by
   rcases Classical.em (xs=[]) with h | h
   ·exact h
   ·obtain ⟨b,o,rfl,_⟩:=hne h;cases hp
  refine run ?_
  refine fin1 ?_
  exact ⟨by simp,.inl ⟨rfl,rfl,rfl⟩⟩
 refine run ?_
 refine yN ay av2 av2 (fun g=>?_)
 refine run ?_
 rcases Classical.em (xs=[]) with rfl | hx
 ·cases q with
  | none=>cases hp
  | some q=>
  refine eH av2 (yM ay (jG:=0) rfl rfl rfl (Nat.le_refl _)) ?_
  refine run ?_
  refine fin1 ?_
  exact ⟨by simp,.inr ⟨g,0,#[],rfl,rfl,⟨rfl,Nat.le_refl _,by decide,rfl,rfl⟩⟩⟩
 ·obtain ⟨b,o,rfl,hr⟩:=hne hx
  refine uo ay av2 rfl ⟨rfl,Nat.le_refl _,by decide,rfl,rfl⟩ rfl rfl rfl rfl rfl rfl (.refl _) rfl hall hr av4 hl (fun v' ha' hA=>?_)
  refine run ?_
  refine fin1 ?_
  rw [List.append_nil]
  exact hA
theorem uG (n m:Int) (w:World):Fn Tryz.prog 44 [.int .i64 n,.int .i64 m].toArray w [] (fun u _=>u=.bool (decide (0≤n) && decide (n≤m))):=by
 refine enter Tryz.func44 ?_
 refine az ?_
 exact fin1 rfl
theorem EE {w:World} (xs:List Nat) (u v:Value) (hu:aB w u 1 (xs.map uV)) (hv:aB w v 1 (xs.map uV)):Fn Tryz.prog 20 [.agg #[u],.agg #[v]].toArray w [] (fun r _=>r=.bool true):=by
 refine enter Tryz.func20 ?_
 refine run ?_
 intro B C
 refine run ?_
 refine ax (fun wc hG=>MN _ _ _ (hu.good hG) (hv.good hG)) ?_
 refine run ?_
 exact fin1 rfl
def ad9 (ws:List Nat) (u:Value) (hn:Hp):Prop:=∃ v h1,u=.agg #[v]∧Own 25 1 v h1 (ws.map uV)∧aF h1 hn
theorem qH {w:World} (xs:List Nat) (v:Value) (h:aB w v 1 (xs.map uV)) (hl:xs.length<1000000):Fn Tryz.prog 14 [.agg #[v]].toArray w [] (fun u hn=>ad9 xs u hn):=by
 obtain ⟨q,cap,rfl,_⟩:=h.opened
 refine enter Tryz.func14 ?_
 refine run ?_
 intro B
 refine run ?_
 intro X Y
 refine run ?_
 refine gX (fun wc hG=>GR xs _ (h.good hG) hl) (fun v' hn hA=>?_)
 obtain ⟨q2,cap2,rfl⟩:=hA.own.opened
 refine jr (_++hn) List.perm_append_comm ?_
 simp only [List.cons_append,List.nil_append]
 refine run ?_
 refine gK ⟨_,_,rfl,hA.own,?_⟩
 (exact ak)
def dQ (n:Nat):Bool:=decide (8≤n) && decide (n≤512) && decide (n % 8=0)
theorem bD {n:Nat} (h:dQ n=true):8≤n∧n≤512∧n / 8 * 8=n∧n / 8≤64:=by
 simp only [dQ,Bool.and_eq_true,decide_eq_true_eq] at h
 omega
theorem Qe (n cap:Nat) (q:Option Addr) (w:World):Fn Tryz.prog 31 [.agg #[.slice q n cap]].toArray w [] (fun u _=>u=.bool (dQ n)):=by
 refine enter Tryz.func31 ?_
 refine run ?_
 intro B
 refine az ?_
 refine VL (hy:=fun hg=>fP aw3 rfl n 8 av2 av2 av1) (h:=?_)
 refine az ?_
 refine fin1 ?_
 congr 1
 unfold dQ
 have c1:decide ((8:Int)≤(n:Int))=decide (8≤n):=by rw [Bool.eq_iff_iff,decide_eq_true_eq,decide_eq_true_eq];omega
 have c2:decide ((n:Int)≤512)=decide (n≤512):=by rw [Bool.eq_iff_iff,decide_eq_true_eq,decide_eq_true_eq];omega
 have c3:decide (((n % 8:Nat):Int)=0)=decide (n % 8=0):=by rw [Bool.eq_iff_iff,decide_eq_true_eq,decide_eq_true_eq];omega
 rw [c1,c2,c3]
theorem uY (n cap:Nat) (hn:n<4611686018427387904) (q:Option Addr) (w:World):Fn Tryz.prog 82 [.agg #[.slice q n cap]].toArray w [] (fun u _=>u=.int .i64 ((n / 8:Nat):Int)):=by
 refine enter Tryz.func82 ?_
 refine run ?_
 intro B
 refine run ?_
 refine eH av2 (lK rfl rfl n 8 av2 av2 av1 au') ?_
 refine run ?_
 exact fin1 rfl
theorem Jm (n cap:Nat) (hn:n<4611686018427387904) (q:Option Addr) (w:World):Fn Tryz.prog 130 [.agg #[.slice q n cap]].toArray w [] (fun u _=>u=.bool (dQ n)):=by
 refine enter Tryz.func130 ?_
 refine run ?_
 intro B
 refine az ?_
 refine VL (hy:=fun hg=>fP aw3 rfl n 8 av2 av2 av1) (h:=?_)
 refine az ?_
 refine VL (hy:=fun hg=>lK aw3 rfl n 8 av2 av2 av1 au') (h:=?_)
 refine az ?_
 refine fin1 ?_
 congr 1
 unfold dQ
 have c1:decide ((0:Int)<(n:Int))=decide (0<n):=by rw [Bool.eq_iff_iff,decide_eq_true_eq,decide_eq_true_eq];omega
 have c2:decide (((n / 8:Nat):Int)≤64)=decide (n / 8≤64):=by rw [Bool.eq_iff_iff,decide_eq_true_eq,decide_eq_true_eq];omega
 have c3:decide (((n % 8:Nat):Int)=0)=decide (n % 8=0):=by rw [Bool.eq_iff_iff,decide_eq_true_eq,decide_eq_true_eq];omega
 rw [c1,c2,c3,Bool.eq_iff_iff]
 simp only [Bool.and_eq_true,decide_eq_true_eq]
 omega
theorem xQ (n cap:Nat) (hn:n<4611686018427387904) (q:Option Addr) (w:World):Fn Tryz.prog 96 [.agg #[.slice q n cap]].toArray w [] (fun u _=>u=.int .i64 (bif dQ n then 0 else 1)):=by
 refine enter Tryz.func96 ?_
 refine run ?_
 intro B
 refine run ?_
 refine ax (fun wc hG=>Jm n cap hn q wc) ?_
 refine run ?_
 refine aj _ rfl (fun hc=>?_) (fun hc=>?_)
 ·refine run ?_
  refine fin1 ?_
  have:dQ n=false:=by simpa using hc
  rw [this];rfl
 ·refine run ?_
  refine fin1 ?_
  have:dQ n=true:=by simpa using hc
  rw [this];rfl
theorem rO (p:Int) (w:World):Fn Tryz.prog 124 [.int .i64 p].toArray w [] (fun u _=>u=.bool (PtD.bY p 0 4095)):=by
 refine enter Tryz.func124 ?_
 refine run ?_
 refine ax (fun wc hG=>uG p 4095 wc) ?_
 refine run ?_
 exact fin1 rfl
theorem zW (stage:Int) (hs:stage=1∨stage=2) (level:Nat) (hl:level<4) (d:DsD) (w:World):Fn Tryz.prog 221 [.int .i64 stage,.int .i64 (level:Int),P7 d].toArray w [] (fun u _=>u=.bool (d.may stage level)):=by
 have hlv:decide ((level:Int)<3)=decide (level<3):=by rw [Bool.eq_iff_iff,decide_eq_true_eq,decide_eq_true_eq];omega
 have hlp:decide ((0:Int)<(level:Int))=decide (0<level):=by rw [Bool.eq_iff_iff,decide_eq_true_eq,decide_eq_true_eq];omega
 have h9:=jc hl
 refine enter Tryz.func221 ?_
 refine run ?_
 intro B
 refine run ?_
 refine aj _ rfl (fun hk=>?_) (fun hk=>?_)
 ·have hk0:d.kind=0:=by simpa using hk
  refine az ?_
  refine aZ (fun hg wc hG=>uG d.note 15 wc) ?_
  refine az ?_
  refine fin1 ?_
  rw [AY d 0 0 d.note hk0]
  rcases hs with rfl | rfl<;>simp only [DsD.may,hk0,decide_true,cond_true,PtD.bY,Bool.and_true]
  ·cases d.bare<;>cases hz:decide (d.note=0)<;>simp_all
  ·cases d.bare<;>cases hz:decide (d.note=0)<;>simp_all
 ·have hk0:decide (d.kind=0)=false:=by simpa using hk
  refine run ?_
  refine aj _ rfl (fun hk1=>?_) (fun hk1=>?_)
  ·have oz:d.kind=1:=by simpa using hk1
   refine az ?_
   refine aZ (fun hg wc hG=>rO d.frame wc) ?_
   refine az ?_
   refine fin1 ?_
   rw [AY d 1 d.frame 0 oz,hlv]
   simp only [DsD.may,oz,decide_true,cond_true,show decide ((1:Int)=0)=false from rfl,cond_false,Bool.true_and]
   cases decide (level<3)<;>cases d.bare<;>cases decide (d.note=0)<;>rfl
  ·have oz:decide (d.kind=1)=false:=by simpa using hk1
   refine run ?_
   refine aj _ rfl (fun hk2=>?_) (fun hk2=>?_)
   ·have GK:d.kind=2:=by simpa using hk2
    refine run ?_
    intro A
    refine iV 47 ?_
    refine iU ?_
    refine kS (fun hg wc hG=>rO d.frame wc) ?_
    refine iU ?_
    refine kS (fun hg wc hG=>qG level hl wc) ?_
    refine MC (hy:=fun hg=>fP aw3 aw3 d.frame.toNat (aP level) (by simp [jg,PtD.bY] at hg;omega) av2 au') (h:=?_)
    refine iU ?_
    refine TI (fun hg0 hg1 wc hG=>uG d.soft 15 wc) ?_
    refine iU ?_
    refine run ?_
    refine run ?_
    refine fin1 ?_
    rw [hlp]
    have hz:decide (((d.frame.toNat % aP level:Nat):Int)=0)=decide (d.frame.toNat % aP level=0):=by rw [Bool.eq_iff_iff,decide_eq_true_eq,decide_eq_true_eq];omega
    rw [hz]
    simp only [DsD.may,GK,decide_true,cond_true,show decide ((2:Int)=0)=false from rfl,show decide ((2:Int)=1)=false from rfl,cond_false]
    rcases hs with rfl | rfl
    ·cases decide (0<level)<;>cases PtD.bY d.frame 0 4095<;>cases decide (d.frame.toNat % aP level=0)<;>cases decide (d.note=0)<;>cases d.r<;>cases decide (d.soft=0)<;>rfl
    ·simp only [PtD.bY]
     cases decide (0<level)<;>cases decide (d.frame.toNat % aP level=0)<;>cases decide (d.note=0)<;>cases d.ng<;>cases decide (0≤d.soft)<;>cases decide (d.soft≤15)<;>cases decide (0≤d.frame)<;>cases decide (d.frame≤4095)<;>rfl
   ·refine run ?_
    refine fin1 ?_
    have GK:decide (d.kind=2)=false:=by simpa using hk2
    simp [DsD.may,hk0,oz,GK]
theorem zX (stage:Int) (hs:stage=1∨stage=2) (level:Nat) (hl:level<4) (d:DsD) (hm:d.may stage level=true) (w:World):Fn Tryz.prog 222 [.int .i64 stage,.int .i64 (level:Int),P7 d].toArray w [] (fun u _=>u=.int .u64 (d.word stage level:Int)):=by
 have hlv:decide ((level:Int)=3)=decide (level=3):=by rw [Bool.eq_iff_iff,decide_eq_true_eq,decide_eq_true_eq];omega
 obtain ⟨k1,k2,k3,k4⟩:=jT hm
 have hf:0≤d.frame∧d.frame≤4095:=by
  rcases k1 with e | e | e
  ·have:=k2 e;omega
  ·have:=k3 e;omega
  ·have:=k4 e;omega
 have hf0:=hf.1
 have hf1:=hf.2
 have hfz:((d.frame.toNat:Nat):Int)=d.frame:=by omega
 refine enter Tryz.func222 ?_
 refine run ?_
 intro B
 refine run ?_
 refine aj _ rfl (fun hk=>?_) (fun hk=>?_)
 ·have hk0:d.kind=0:=by simpa using hk
  have hn0:=(k2 hk0).2.1
  have hn1:=(k2 hk0).2.2
  have hnz:((d.note.toNat:Nat):Int)=d.note:=by omega
  refine run ?_
  refine eH av2 (mF rfl rfl d.note.toNat 4 hnz.symm av2 av1) ?_
  refine run ?_
  refine fin1 ?_
  rw [DsD.MK stage level d hk0]
 ·have hk0:decide (d.kind=0)=false:=by simpa using hk
  refine run ?_
  refine drawM 14 [0,1,2,3,4,5,6,7,8,9,10,11,12] [13] [] ?_
  refine jC rfl (fun hx2=>fJ (fV 179 rfl) rfl (fun wc hG=>qh 0 true wc)) ?_
  refine fB ?_
  refine WU (hy:=fun hx2 hg=>Ai rfl) (h:=?_)
  refine WU (v:=.bool (decide ((level:Int)=3))) (hy:=fun hx2 hg=>?_) (h:=?_)
  ·exact J4 aw3 rfl
  refine fB ?_
  refine jC rfl (fun hx2=>fJ (fV 179 rfl) rfl (fun wc hG=>qh 1 _ wc)) ?_
  refine fB ?_
  refine TM (zV [⟨0,1,1⟩,⟨1,1,b1 (decide (d.kind=1) || decide (level=3))⟩,⟨12,12,d.frame.toNat⟩]) (h:=?_) (hn:=?_)
  ·refine gZ ?_
   simp only [DN]
   rintro _ hn ⟨T,rfl,rfl⟩
   refine fC ?_
   refine zB ?_
   simp only [List.cons_append,List.nil_append,List.append_nil]
   refine run ?_
   refine aj _ rfl (fun hk1=>?_) (fun hk1=>?_)
   ·have hk2:d.kind=2:=by simpa using hk1
    have oz:decide (d.kind=1)=false:=by rw [hk2];rfl
    simp only [oz,Bool.false_or]
    refine run ?_
    refine drawM 11 [0,1,2,3,4,5,6,7,8,9] [10] [] ?_
    refine fB ?_
    refine jC rfl (fun hx2=>fJ (fV 179 rfl) rfl (fun wc hG=>qh 10 _ wc)) ?_
    refine fB ?_
    refine jC rfl (fun hx2=>fJ (fV 179 rfl) rfl (fun wc hG=>qh 54 _ wc)) ?_
    refine fB ?_
    refine TM (zV [⟨10,1,b1 d.af⟩,⟨54,1,b1 (!d.x)⟩]) (h:=?_) (hn:=by cases d.af<;>cases d.x<;>rfl)
    refine gZ ?_
    simp only [DN]
    rintro _ hn ⟨T2,rfl,rfl⟩
    refine fC ?_
    refine zB ?_
    simp only [List.cons_append,List.nil_append,List.append_nil]
    refine uS (m:=2) ([⟨10,1,b1 d.af⟩,⟨54,1,b1 (!d.x)⟩].map Ey) [⟨T2,(zV [⟨10,1,b1 d.af⟩,⟨54,1,b1 (!d.x)⟩]).toArray,149⟩,⟨B,#[.int .i64 d.kind,.int .i64 d.frame,.bool d.r,.bool d.w,.bool d.x,.bool d.af,.bool d.ng,.int .i64 d.soft,.int .i64 d.note],258⟩] (pK T 3 [⟨0,1,1⟩,⟨1,1,b1 (decide (level=3))⟩,⟨12,12,d.frame.toNat⟩]) av4 (fun v' ha' hA'=>?_) av4 rfl (pJ _) (bT (m:=6) mh rfl) (hperm:=by (exact au))
    refine aJ (⟨B,#[.int .i64 d.kind,.int .i64 d.frame,.bool d.r,.bool d.w,.bool d.x,.bool d.af,.bool d.ng,.int .i64 d.soft,.int .i64 d.note],258⟩::ha') ak ?_
    obtain ⟨q,cap,rfl⟩:=hA'.opened
    refine run ?_
    refine aj _ rfl (fun h1=>?_) (fun h1=>?_)
    ·have h1':decide (stage=1)=true:=h1
     refine run ?_
     refine drawM 11 [0,1,2,3,4,5,6,7,8,9] [10] [] ?_
     refine fB ?_
     refine jC rfl (fun hx2=>fJ (fV 179 rfl) rfl (fun wc hG=>qh 7 _ wc)) ?_
     refine fB ?_
     refine jC rfl (fun hx2=>fJ (fV 179 rfl) rfl (fun wc hG=>qh 11 _ wc)) ?_
     refine fB ?_
     refine TM (zV [⟨7,1,b1 (!d.w)⟩,⟨11,1,b1 d.ng⟩]) (h:=?_) (hn:=by cases d.w<;>cases d.ng<;>rfl)
     refine gZ ?_
     simp only [DN]
     rintro _ hn ⟨T3,rfl,rfl⟩
     refine fC ?_
     refine zB ?_
     simp only [List.cons_append,List.nil_append,List.append_nil]
     refine uS (m:=2) ([⟨7,1,b1 (!d.w)⟩,⟨11,1,b1 d.ng⟩].map Ey) [⟨T3,(zV [⟨7,1,b1 (!d.w)⟩,⟨11,1,b1 d.ng⟩]).toArray,149⟩,⟨B,#[.int .i64 d.kind,.int .i64 d.frame,.bool d.r,.bool d.w,.bool d.x,.bool d.af,.bool d.ng,.int .i64 d.soft,.int .i64 d.note],258⟩] hA' av4 (fun v2 ha2 hA2=>?_) av4 rfl (pJ _) (bT (m:=6) mh rfl) (hperm:=by (exact au))
     refine run ?_
     have e:d.fields stage level=[⟨0,1,1⟩,⟨1,1,b1 (decide (level=3))⟩,⟨12,12,d.frame.toNat⟩,⟨10,1,b1 d.af⟩,⟨54,1,b1 (!d.x)⟩,⟨7,1,b1 (!d.w)⟩,⟨11,1,b1 d.ng⟩]:=by simp only [DsD.fields,hk0,oz,h1',cond_false,cond_true]
     obtain ⟨q2,cap2,rfl⟩:=hA2.opened
     have hfo:=DsD.uX hm
     rw [e] at hfo
     refine ax (fun wc hG=>xO _ hfo (hA2.lie (fun b hb=>hG.here _ (List.mem_append_left _ hb)) av4)) ?_
     refine run ?_
     refine fin1 ?_
     rw [DsD.word,e]
    ·have h1':decide (stage=1)=false:=by simpa using h1
     have hso:=GM hm hk2 h1'
     have hs0:=hso.1
     have hs1:=hso.2
     have hsz:((d.soft.toNat:Nat):Int)=d.soft:=by omega
     refine run ?_
     refine drawM 15 [0,1,2,3,4,5,6,7,8,9,10,11,12,13] [14] [] ?_
     refine fB ?_
     refine jC rfl (fun hx2=>fJ (fV 179 rfl) rfl (fun wc hG=>qh 6 _ wc)) ?_
     refine fB ?_
     refine jC rfl (fun hx2=>fJ (fV 179 rfl) rfl (fun wc hG=>qh 7 _ wc)) ?_
     refine fB ?_
     refine TM (zV [⟨6,1,b1 d.r⟩,⟨7,1,b1 d.w⟩,⟨55,4,d.soft.toNat⟩]) (h:=?_) (hn:=by rw [← hsz];cases d.r<;>cases d.w<;>rfl)
     refine gZ ?_
     simp only [DN]
     rintro _ hn ⟨T3,rfl,rfl⟩
     refine fC ?_
     refine zB ?_
     simp only [List.cons_append,List.nil_append,List.append_nil]
     refine uS (m:=3) ([⟨6,1,b1 d.r⟩,⟨7,1,b1 d.w⟩,⟨55,4,d.soft.toNat⟩].map Ey) [⟨T3,(zV [⟨6,1,b1 d.r⟩,⟨7,1,b1 d.w⟩,⟨55,4,d.soft.toNat⟩]).toArray,149⟩,⟨B,#[.int .i64 d.kind,.int .i64 d.frame,.bool d.r,.bool d.w,.bool d.x,.bool d.af,.bool d.ng,.int .i64 d.soft,.int .i64 d.note],258⟩] hA' av4 (fun v2 ha2 hA2=>?_) av4 rfl (pJ _) (bT (m:=9) mh rfl) (hperm:=by (exact au))
     refine run ?_
     have e:d.fields stage level=[⟨0,1,1⟩,⟨1,1,b1 (decide (level=3))⟩,⟨12,12,d.frame.toNat⟩,⟨10,1,b1 d.af⟩,⟨54,1,b1 (!d.x)⟩,⟨6,1,b1 d.r⟩,⟨7,1,b1 d.w⟩,⟨55,4,d.soft.toNat⟩]:=by simp only [DsD.fields,hk0,oz,h1',cond_false,cond_true]
     obtain ⟨q2,cap2,rfl⟩:=hA2.opened
     have hfo:=DsD.uX hm
     rw [e] at hfo
     refine ax (fun wc hG=>xO _ hfo (hA2.lie (fun b hb=>hG.here _ (List.mem_append_left _ hb)) av4)) ?_
     refine run ?_
     refine fin1 ?_
     rw [DsD.word,e]
   ·have hk2:d.kind=1:=by
     simp at hk0 hk1
     rcases k1 with e | e | e
     ·exact absurd e hk0
     ·exact e
     ·exact absurd e hk1
    have oz:decide (d.kind=1)=true:=by rw [hk2];rfl
    simp only [oz,Bool.true_or,show b1 true=1 from rfl]
    refine run ?_
    have e:d.fields stage level=[⟨0,1,1⟩,⟨1,1,1⟩,⟨12,12,d.frame.toNat⟩]:=by simp only [DsD.fields,hk0,oz,cond_false,cond_true]
    have hfo:=DsD.uX hm
    rw [e] at hfo
    refine ax (fun wc hG=>xO _ hfo ((pK T 3 _).lie (fun b hb=>hG.here _ (List.mem_append_left _ hb)) av4)) ?_
    refine run ?_
    refine fin1 ?_
    rw [DsD.word,e]
  ·rw [hlv,← hfz]
   cases decide (d.kind=1)<;>cases decide (level=3)<;>rfl
theorem nC {stage:Int} {level v:Nat} {D:DsD} (hD:gV stage level v=D):Jk stage level v=bif (!D.may stage level || !decide ((D.word stage level:Int)=(v:Int))) then EC else D:=by
 unfold Jk
 rw [hD]
 have:decide ((D.word stage level:Int)=(v:Int))=decide (D.word stage level=v):=by rw [Bool.eq_iff_iff,decide_eq_true_eq,decide_eq_true_eq];omega
 rw [this]
 cases D.may stage level<;>cases decide (D.word stage level=v)<;>rfl
theorem Zb (stage:Int) (hs:stage=1∨stage=2) (level:Nat) (hl:level<4) (v:Nat) (hv:v<18446744073709551616) (w:World):Fn Tryz.prog 207 [.int .i64 stage,.int .i64 (level:Int),.int .u64 (v:Int)].toArray w [] (fun u _=>u=P7 (Jk stage level v)):=by
 have hlv:decide ((level:Int)<3)=!decide (level=3):=by rw [Bool.eq_iff_iff,decide_eq_true_eq];simp;omega
 refine enter Tryz.func207 ?_
 refine run ?_
 intro B C
 refine run ?_
 refine ax (fun wc hG=>rH v 0 av1 hv wc) ?_
 refine run ?_
 refine aj _ rfl (fun h0=>?_) (fun h0=>?_)
 ·have h0':(!decide (aT v 0 1=1))=true:=h0
  have hD:gV stage level v=⟨0,0,false,false,false,false,false,0,(aT v 4 4:Int)⟩:=by rw [gV,h0',cond_true];rfl
  have hb:=zU v 4 4 av1
  refine run ?_
  refine ax (fun wc hG=>oW v 4 4 av1 av1 hv wc) ?_
  refine run ?_
  refine ax (fun wc hG=>zW stage hs level hl (⟨0,0,false,false,false,false,false,0,(aT v 4 4:Int)⟩) wc) ?_
  refine az ?_
  refine aZ (b:=!DsD.may stage level (⟨0,0,false,false,false,false,false,0,(aT v 4 4:Int)⟩)) (fun hg wc hG=>zX stage hs level hl (⟨0,0,false,false,false,false,false,0,(aT v 4 4:Int)⟩) az' wc) ?_
  refine az ?_
  refine aj _ rfl (fun hc=>?_) (fun hc=>?_)
  ·refine run ?_
   refine gK ?_
   rw [nC hD,hc]
   rfl
  ·refine run ?_
   refine gK ?_
   rw [nC hD,hc]
   rfl
 ·have h0':(!decide (aT v 0 1=1))=false:=by simpa using h0
  have hb:=zU v 12 12 av1
  refine run ?_
  refine ax (fun wc hG=>rH v 1 av1 hv wc) ?_
  refine az ?_
  refine aj _ rfl (fun h1=>?_) (fun h1=>?_)
  ·rw [hlv] at h1
   have hD:gV stage level v=⟨1,(aT v 12 12:Int),false,false,false,false,false,0,0⟩:=by rw [gV,h0',cond_false,h1,cond_true];rfl
   refine run ?_
   refine ax (fun wc hG=>oW v 12 12 av1 av1 hv wc) ?_
   refine run ?_
   refine ax (fun wc hG=>zW stage hs level hl (⟨1,(aT v 12 12:Int),false,false,false,false,false,0,0⟩) wc) ?_
   refine az ?_
   refine aZ (b:=!DsD.may stage level (⟨1,(aT v 12 12:Int),false,false,false,false,false,0,0⟩)) (fun hg wc hG=>zX stage hs level hl (⟨1,(aT v 12 12:Int),false,false,false,false,false,0,0⟩) az' wc) ?_
   refine az ?_
   refine aj _ rfl (fun hc=>?_) (fun hc=>?_)
   ·refine run ?_
    refine gK ?_
    rw [nC hD,hc]
    rfl
   ·refine run ?_
    refine gK ?_
    rw [nC hD,hc]
    rfl
  ·have h1':(decide (aT v 1 1=1) && decide ((level:Int)<3))=false:=by simpa using h1
   rw [hlv] at h1'
   refine run ?_
   refine ax (fun wc hG=>oW v 12 12 av1 av1 hv wc) ?_
   refine run ?_
   refine ax (fun wc hG=>rH v 10 av1 hv wc) ?_
   refine run ?_
   refine ax (fun wc hG=>rH v 54 av1 hv wc) ?_
   refine run ?_
   refine aj _ rfl (fun hst=>?_) (fun hst=>?_)
   ·have hst':decide (stage=1)=true:=hst
    have hD:gV stage level v=⟨2,(aT v 12 12:Int),true,!decide (aT v 7 1=1),!decide (aT v 54 1=1),decide (aT v 10 1=1),decide (aT v 11 1=1),0,0⟩:=by rw [gV,h0',cond_false,h1',cond_false,hst',cond_true];rfl
    refine run ?_
    refine ax (fun wc hG=>rH v 7 av1 hv wc) ?_
    refine run ?_
    refine ax (fun wc hG=>rH v 11 av1 hv wc) ?_
    refine run ?_
    refine ax (fun wc hG=>zW stage hs level hl (⟨2,(aT v 12 12:Int),true,!decide (aT v 7 1=1),!decide (aT v 54 1=1),decide (aT v 10 1=1),decide (aT v 11 1=1),0,0⟩) wc) ?_
    refine az ?_
    refine aZ (b:=!DsD.may stage level (⟨2,(aT v 12 12:Int),true,!decide (aT v 7 1=1),!decide (aT v 54 1=1),decide (aT v 10 1=1),decide (aT v 11 1=1),0,0⟩)) (fun hg wc hG=>zX stage hs level hl (⟨2,(aT v 12 12:Int),true,!decide (aT v 7 1=1),!decide (aT v 54 1=1),decide (aT v 10 1=1),decide (aT v 11 1=1),0,0⟩) az' wc) ?_
    refine az ?_
    refine aj _ rfl (fun hc=>?_) (fun hc=>?_)
    ·refine run ?_
     refine gK ?_
     rw [nC hD,hc]
     rfl
    ·refine run ?_
     refine gK ?_
     rw [nC hD,hc]
     rfl
   ·have hst':decide (stage=1)=false:=by simpa using hst
    have hD:gV stage level v=⟨2,(aT v 12 12:Int),decide (aT v 6 1=1),decide (aT v 7 1=1),!decide (aT v 54 1=1),decide (aT v 10 1=1),false,(aT v 55 4:Int),0⟩:=by rw [gV,h0',cond_false,h1',cond_false,hst',cond_false];rfl
    have hb4:=zU v 55 4 av1
    refine run ?_
    refine ax (fun wc hG=>rH v 6 av1 hv wc) ?_
    refine run ?_
    refine ax (fun wc hG=>rH v 7 av1 hv wc) ?_
    refine run ?_
    refine ax (fun wc hG=>oW v 55 4 av1 av1 hv wc) ?_
    refine run ?_
    refine ax (fun wc hG=>zW stage hs level hl (⟨2,(aT v 12 12:Int),decide (aT v 6 1=1),decide (aT v 7 1=1),!decide (aT v 54 1=1),decide (aT v 10 1=1),false,(aT v 55 4:Int),0⟩) wc) ?_
    refine az ?_
    refine aZ (b:=!DsD.may stage level (⟨2,(aT v 12 12:Int),decide (aT v 6 1=1),decide (aT v 7 1=1),!decide (aT v 54 1=1),decide (aT v 10 1=1),false,(aT v 55 4:Int),0⟩)) (fun hg wc hG=>zX stage hs level hl (⟨2,(aT v 12 12:Int),decide (aT v 6 1=1),decide (aT v 7 1=1),!decide (aT v 54 1=1),decide (aT v 10 1=1),false,(aT v 55 4:Int),0⟩) az' wc) ?_
    refine az ?_
    refine aj _ rfl (fun hc=>?_) (fun hc=>?_)
    ·refine run ?_
     refine gK ?_
     rw [nC hD,hc]
     rfl
    ·refine run ?_
     refine gK ?_
     rw [nC hD,hc]
     rfl
end
section
def tu (ws:List Nat):Prop:=∀ x∈ws,x<18446744073709551616
theorem tu.at {ws:List Nat} (h:tu ws) (p:Nat):ws.getD p 0<18446744073709551616:=by
 rw [List.getD_eq_getElem?_getD]
 cases hp:ws[p]? with
 | none=>simp
 | some x=>exact h x (List.mem_of_getElem? hp)
theorem tu.set {ws:List Nat} (h:tu ws) {x:Nat} (hx:x<18446744073709551616) (p:Nat):tu (ws.set p x):=by
 intro y hy
 rcases List.mem_or_eq_of_mem_set hy with hy | rfl
 ·exact h y hy
 ·exact hx
attribute [local irreducible] Hy St Ops DH gB
section
variable {P : Program} {T : Tab} {n : Nat} {w0 : World} {mu : List Nat} {l : Fm} {hp : Hp} {dd : Option Nat} {ty : TypeId} {pos : String} {af : Array Edge} {gg : Option (Nat × Bool)} {t u : TypeId} {x y : Operand}
theorem Xf {pi qi:Int} (hx:ev l x=some (.int .i64 pi)) (hy:ev l y=some (.int .i64 qi)) (p q r:Nat) (hpi:pi=(p:Int)) (hqi:qi=(q:Int)) (hr:p + q=r) (hb:r<9223372036854775808):Hy P n w0 mu l hp ⟨dd,.binOp .add t x y u,ty,pos,af,gg⟩ (.int .i64 (r:Int)):=by
 subst hpi hqi hr
 have:=D8 (o:=⟨dd,.binOp .add t x y u,ty,pos,af,gg⟩) (P:=P) (n:=n) (w0:=w0) (mu:=mu) (hp:=hp) rfl hx hy au' au'
 rwa [← Int.natCast_add] at this
end
theorem GV (ws:List Nat) (hw:tu ws) {w:World} {v:Value} (h:aB w v 1 (ws.map uV)) (stage:Int) (hs:stage=1∨stage=2) (level:Nat) (hl:level<4) (f:Int) (hf:dS ws.length f=true) (page:Nat) (hp:page≤4095) (hn:ws.length<1000000):Fn Tryz.prog 186 [.agg #[v],.int .i64 stage,.int .i64 (level:Int),.int .i64 f,.int .i64 (page:Int)].toArray w [] (fun u _=>u=P7 (Jk stage level (ws.getD (sK f level page) 0))):=by
 obtain ⟨q,cap,rfl,hne,hle⟩:=h.opened
 have hfi:=jy hf
 have hpl:=Xe (level:=level) (page:=page) hf
 have hi8:=yT level page
 have hne0:ws ≠ []:=by intro e;subst e;simp at hpl
 obtain ⟨b,o,rfl⟩:=hne hne0
 have hr:=cZ (h.row hpl)
 simp only [uV,Nat.mul_one] at hr
 refine enter Tryz.func186 ?_
 refine run ?_
 intro B C
 refine run ?_
 refine iV 13 ?_
 refine cu ?_
 refine jY (fun wc hG=>Qa level hl page hp wc) ?_
 refine qo (Xf rfl rfl (f.toNat * 8) (uD level page) (sK f level page) au' rfl rfl au') ?_
 refine cu ?_
 refine jY (fun wc hG=>Zb stage hs level hl _ (hw.at _) wc) ?_
 refine cu ?_
 refine run ?_
 exact gK rfl
theorem Own.TU {e:Nat} {v:Value} {h:Hp} {xs:List Nat} (hA:Own e 1 v h (xs.map uV)) {k:Nat} (hk:k<xs.length):∃ g cap cur,v=.slice (some ⟨g,0,none⟩) xs.length cap∧h=[⟨g,cur,e⟩]∧k + 1≤cur.size ∧
  ∀ z:Nat,Own e 1 (.slice (some ⟨g,0,none⟩) xs.length cap) [⟨g,cur.setIfInBounds k (.int .u64 (z:Int)),e⟩] ((xs.set k z).map uV):=by
 obtain ⟨g,cap,cur,rfl,rfl,hr⟩:=hA.row (n:=xs.length) av4 au'
 have hall0:∀ (ys:List Nat),∀ c∈ys.map uV,c.length=1∧c.all (·.oneCell')=true:=by
  intro ys c hc
  obtain ⟨x,_,rfl⟩:=List.mem_map.1 hc
  exact ⟨rfl,rfl⟩
 have hall:∀ c∈xs.map uV,c.length=1:=fun c hc=>(hall0 xs c hc).1
 have hi:(xs.map uV)[k]?=some (uV (xs.getD k 0)):=by
  rw [List.getElem?_map,List.getD_eq_getElem?_getD,List.getElem?_eq_getElem hk];rfl
 have hsz:=hr.size
 have hle:=hr.le
 refine ⟨g,cap,cur,rfl,rfl,by omega,fun z=>⟨hall0 _,.inr ⟨g,cap,_,by simp,rfl,?_⟩⟩⟩
 have h2:=hr.put hall hi (k:=0) (vs:=[.int .u64 (z:Int)]) av4
 have e1:(uV (xs.getD k 0)).take 0++[Value.int .u64 (z:Int)]++(uV (xs.getD k 0)).drop (0 + [Value.int .u64 (z:Int)].length)=uV z:=rfl
 rw [e1,Nat.mul_one,Nat.add_zero] at h2
 have e2:((xs.set k z).map uV).length=xs.length:=by simp
 rw [e2,List.map_set]
 exact h2
theorem Own.Qg {e g n cap:Nat} {cur:Array Value} {xs:List Nat} (hA:Own e 1 (.slice (some ⟨g,0,none⟩) n cap) [⟨g,cur,e⟩] (xs.map uV)) {k:Nat} (hk:k<xs.length):k + 1≤cur.size∧k<n∧n=xs.length ∧
  ∀ z:Nat,Own e 1 (.slice (some ⟨g,0,none⟩) n cap) [⟨g,cur.setIfInBounds k (.int .u64 (z:Int)),e⟩] ((xs.set k z).map uV):=by
 obtain ⟨g',cap',cur',e1,e2,h1,h2⟩:=hA.TU hk
 injection e1 with e1 e3 e4
 injection e1 with e1
 injection e1 with e1
 injection e2 with e2
 injection e2 with _ e2
 subst e1 e3 e4 e2
 exact ⟨h1,hk,rfl,h2⟩
theorem EF {n:Nat} {w0:World} {mu:List Nat} {l:Fm} {Q:Exit→Fm→Hp→Prop} {all:Array Oper} {ops:List Oper} {h1 hn rest:Hp} (hle:aF h1 hn) (h:Ops Tryz.prog n w0 mu all ops l (h1++rest) Q):Ops Tryz.prog n w0 mu all ops l (hn++rest) Q:=aJ _ (cnt1 hle) h
theorem oK {α:Type} [Inhabited α] (p:α→Bool) (l:List α):∀ j,p (l.getD j default)=true→∃ j0,j0≤j∧p (l.getD j0 default)=true∧∀ i,i<j0→p (l.getD i default)=false:=by
 intro j
 induction j using Nat.strongRecOn with
 | ind j ih=>
  intro h
  by_cases hx:∃ i,i<j∧p (l.getD i default)=true
  ·obtain ⟨i,hi,hp⟩:=hx
   obtain ⟨j0,h0,h1,h2⟩:=ih i hi hp
   exact ⟨j0,by omega,h1,h2⟩
  ·refine ⟨j,Nat.le_refl _,h,fun i hi=>?_⟩
   cases hp:p (l.getD i default) with
   | false=>rfl
   | true=>exact absurd ⟨i,hi,hp⟩ hx
end
theorem Own.nil (e sz:Nat):Own e sz (.slice none 0 0) [] []:=⟨by simp,.inl ⟨rfl,rfl,rfl⟩⟩
theorem zk {fn:Func} {R:Value→Hp→Prop} {l:Fm} {hp:Hp} {a t b a2 t2 b2 s2:Nat} {cs cs2:Array Value} {tb tb2:TypeId} {v2:Value} (h:R (.tuple #[.agg cs,.agg cs2,v2]) hp) (hr:fn.results=#[.cell a t,.cell a2 t2,.tmp s2]:=by rfl) (hv:look l a=some (.pointer (some ⟨b,0,none⟩)):=by rfl) (hw:look l a2=some (.pointer (some ⟨b2,0,none⟩)):=by rfl) (h2:look l s2=some v2:=by rfl) (hag:mem Tb.ag t=true:=by rfl) (hm:(⟨b,cs,tb⟩:aI)∈hp:=by (first | (with_reducible apply mh) | (focus ((repeat (first | (with_reducible apply mh) | (with_reducible apply mt) | (with_reducible apply List.mem_append_right)));done)))) (hz:lk Tb.sz t=some cs.size:=by rfl) (wF:mem Tb.ag t2=true:=by rfl) (hm2:(⟨b2,cs2,tb2⟩:aI)∈hp:=by (first | (with_reducible apply mh) | (focus ((repeat (first | (with_reducible apply mh) | (with_reducible apply mt) | (with_reducible apply List.mem_append_right)));done)))) (hz2:lk Tb.sz t2=some cs2.size:=by rfl):Fin Tryz.prog fn R .ret l hp:=
 ⟨.inl rfl,[.agg cs,.agg cs2,v2],by rw [hr];exact ⟨⟨⟨b,cs,tb⟩,hm,hv,.inr ⟨ay.zH hag,ay.tH hz,rfl⟩⟩,⟨⟨b2,cs2,tb2⟩,hm2,hw,.inr ⟨ay.zH wF,ay.tH hz2,rfl⟩⟩,h2,trivial⟩,h⟩
theorem aF.mem {r h:Hp} (hl:aF r h) {b:aI} (hb:b∈r):b∈h:=by
 obtain ⟨x,hx⟩:=hl.perm
 exact hx.mem_iff.1 (List.mem_append_left _ hb)
section
attribute [local irreducible] Hy St Ops DH gB
theorem aB.drop {w:World} {p:Option Addr} {n c i:Nat} {xs:List Int} (h:aB w (.slice p n c) 1 (xs.map dH)) (hn:n=xs.length) (hc:n≤c) (hi:i≤n):∃ p',sliced p i n c 1=.slice p' (xs.drop i).length (c - i)∧(xs.drop i).length≤c - i∧aB w (.slice p' (xs.drop i).length (c - i)) 1 ((xs.drop i).map dH):=by
 subst hn
 obtain ⟨⟨q,cap,e,hne⟩,hle⟩:=h
 injection e with e1 e2 e3
 subst e1 e3
 have hdl:(xs.drop i).length=xs.length - i:=List.length_drop
 refine ⟨_,by unfold sliced;rw [hdl],by omega,⟨⟨_,_,by rw [List.length_map],fun hx=>?_⟩,by rw [List.length_map] at hle ⊢;omega⟩⟩
 have hlt:i<xs.length:=by
  rcases Nat.lt_or_ge i xs.length with h | h
  ·exact h
  ·rw [List.drop_eq_nil_of_le h] at hx;exact absurd rfl hx
 obtain ⟨b,o,rfl,hr⟩:=hne (by intro e;simp at e;subst e;simp at hlt)
 refine ⟨b,o + i,?_,fun j cc hj=>?_⟩
 ·rw [if_neg au',Nat.mul_one];simp [mD]
 ·rw [List.map_drop,List.getElem?_drop] at hj
  have:=hr (i + j) cc hj
  rw [Nat.mul_one] at this ⊢
  rwa [← Nat.add_assoc] at this
end
section
section
variable {P : Program} {n : Nat} {w0 : World} {mu : List Nat} {lf : Fm} {hp : Hp} {dd : Option Tmp} {ty : TypeId} {pos : String} {af : Array Edge}
theorem Jn {x:Operand} {p:Addr} (hx:ev lf x=some (.pointer (some p))):zh P n w0 mu lf hp ⟨dd,.nilCheck x,ty,pos,af,none⟩ (.pointer (some p)):=⟨rfl,fun a w hk _=>by simp [execOp,hk.ev hx]⟩
theorem TV {T:Tab} (ok:bf P T) {t:TypeId} {x:Operand} {k b off k' off':Nat} {os:List Nat} (hx:ev lf x=some (.pointer (some ⟨b,off,none⟩))) (ho:lk T.fo t=some os) (hk2:nth os k=some k') (he:off + k'=off'):zh P n w0 mu lf hp ⟨dd,.fieldAddr t x k,ty,pos,af,none⟩ (.pointer (some ⟨b,off',none⟩)):=by
 have hf:=ok.gfo ho (by rw [pX] at hk2;simpa using hk2)
 subst he
 refine ⟨rfl,fun a w hk _=>?_⟩
 simp only [execOp,hk.ev hx]
 unfold Oo at hf
 cases hu:P.underlying t with
 | none=>rw [hu] at hf;cases hf
 | some dd=>
  rw [hu] at hf
  cases dd with
  | struct fs=>
   simp only at hf
   cases hq:fs[k]? with
   | none=>rw [hq] at hf;cases hf
   | some f=>
    rw [hq] at hf
    simp only [Option.bind_some] at hf
    cases hz:fZ P f.type with
    | none=>rw [hz] at hf;cases hf
    | some s=>
     rw [hz] at hf
     cases s with
     | zero=>cases hf
     | succ s=>
      simp only [Option.some.injEq] at hf
      subst hf
      cases hi:P.info? f.type with
      | none=>simp [fZ,hi] at hz
      | some i=>
       have hsz:i.size=s + 1:=by simpa [fZ,hi] using hz
       simp [Instr.fieldAt,Instr.sureAddr,run_underlying hu w,hq,fieldPlace,sizeOf,typeInfo,hi,hsz,add_lit]
  | _=>cases hf
variable {l : Fm} {all : Array Oper} {iv : Fm} {i d : Nat} {ds : List (Nat × Nat)} {D : List Nat} {Y : Fm → Prop}
end
section
variable {n : Nat} {w0 : World} {mu : List Nat} {l : Fm} {hp : Hp} {all : Array Oper} {iv : Fm} {i d : Nat} {ds : List (Nat × Nat)} {D : List Nat} {Y : Fm → Prop} {ty : TypeId} {pos : String} {af : Array Edge}
theorem jU {x:Operand} {p:Addr} (h:fK Tryz.prog n w0 mu all ds l hp Y D ((i,.pointer (some p))::iv)) (ho:all[i]?=some ⟨some d,.nilCheck x,ty,pos,af,none⟩:=by rfl) (hx:ev (aA ds iv af.toList++l) x=some (.pointer (some p)):=by rfl):fK Tryz.prog n w0 mu all ds l hp Y (i::D) iv:=Gl ho (Jn hx) h
theorem rP {t:TypeId} {x:Operand} {k b off k' off':Nat} {os:List Nat} (h:fK Tryz.prog n w0 mu all ds l hp Y D ((i,.pointer (some ⟨b,off',none⟩))::iv)) (ho:all[i]?=some ⟨some d,.fieldAddr t x k,ty,pos,af,none⟩:=by rfl) (hx:ev (aA ds iv af.toList++l) x=some (.pointer (some ⟨b,off,none⟩)):=by rfl) (hfo:lk Tb.fo t=some os:=by rfl) (hk:nth os k=some k':=by rfl) (he:off + k'=off':=by rfl):fK Tryz.prog n w0 mu all ds l hp Y (i::D) iv:=Gl ho (TV ay hx hfo hk he) h
theorem AZ {f:FuncId} {xs:List Operand} {vs:List Value} {tys:Array TypeId} {v:Value} {X:Fm→Prop} {S:List Nat} (hc:∀ w hx,Good w0 mu (hx++hp) w→Fn Tryz.prog f vs.toArray w [] (fun u _=>u=v)) (h:iH Tryz.prog n w0 mu all ds l hp X S ((i,v)::iv)) (ho:all[i]?=some ⟨some d,.call { callee:=.value (.func f),args:=xs.toArray,argTypes:=tys },ty,pos,af,none⟩:=by rfl) (dY:mem mY f=true:=by rfl) (hv:evs (aA ds iv af.toList++l) xs=some vs:=by rfl):iH Tryz.prog n w0 mu all ds l hp X (i::S) iv:=
 jC ho (fun hx=>fJ (fV f dY) hv (fun w hG=>hc w hx hG)) h
end
section
variable {P : Program} {n : Nat} {w0 : World} {mu : List Nat} {l : Fm} {h0 hp hc : Hp} {all : Array Oper} {iv aG aN : Fm} {i d t0 : Nat} {ds : List (Nat × Nat)} {S r : List Nat} {X : Fm → Prop} {Y : Fm → Hp → Prop} {op : Op} {ty : TypeId} {pos : String} {af : Array Edge} {v : Value} {j dj : Nat} {want b : Bool}
end
section
variable {n : Nat} {w0 : World} {mu : List Nat} {l : Fm} {h0 hp hc : Hp} {all : Array Oper} {iv aG aN : Fm} {i d : Nat} {ds : List (Nat × Nat)} {r : List Nat} {Y : Fm → Hp → Prop} {ty : TypeId} {pos : String} {af : Array Edge}
end
section
variable {P : Program} {n : Nat} {w0 : World} {mu : List Nat} {l : Fm} {hp : Hp} {dd : Option Tmp} {ty : TypeId} {pos : String} {af : Array Edge} {gg : Option (Nat × Bool)} {t u : TypeId} {x y : Operand}
theorem Jo {pi qi:Int} (hx:ev l x=some (.int .u64 pi)) (hy:ev l y=some (.int .u64 qi)) (p q:Nat) (hpi:pi=(p:Int)) (hqi:qi=(q:Int))  (h1:p<18446744073709551616) (h2:q<18446744073709551616):Hy P n w0 mu l hp ⟨dd,.binOp .xor t x y u,ty,pos,af,gg⟩ (.int .u64 ((p ^^^ q:Nat):Int)):=
 bz fun ac w hk _=>by
  subst hpi hqi
  have:=u64_xor_nat p q h1 h2
  simp only [execOp,hk.ev hx,hk.ev hy]
  simp [eqGuard_xor,binOp_xor,intBits_xor,this]
end
section
variable {P : Program} {n : Nat} {w0 : World} {mu : List Nat} {l : Fm} {hp : Hp} {Q : Exit → Fm → Hp → Prop} {all : Array Oper} {rest : List Oper} {dst : Option Nat} {op : Op} {ty : TypeId} {pos : String} {af : Array Edge}
theorem xR {j dj:Nat} {want b:Bool} (h:Ops P n w0 mu all (⟨dst,op,ty,pos,af,none⟩::rest) l hp Q) (hw:jg b want=true) (hj:(all[j]?).bind (·.dst)=some dj:=by rfl) (hb:look l dj=some (.bool b):=by rfl) (hdj:Nat.blt dj n=true:=by rfl):Ops P n w0 mu all (⟨dst,op,ty,pos,af,some (j,want)⟩::rest) l hp Q:=by
 intro a w hk hG
 have h1:=h a w hk hG
 have h2:=gY (o:=⟨dst,op,ty,pos,af,some (j,want)⟩) (c0:=true) hk rfl hj hb hdj
 rw [hw] at h2
 replace h2:Region.wanted (⟨dst,op,ty,pos,af,some (j,want)⟩:Oper) (yielded all a.tmps)=true:=h2
 unfold wpList at h1 ⊢
 rw [if_pos h2]
 rw [if_pos (by simp [Region.wanted])] at h1
 exact h1
end
theorem aB.takeN {w:World} {α:Type} {f:α→List Value} {xs:List α} {p:Option Addr} {n cap sz k:Nat} (h:aB w (.slice p n cap) sz (xs.map f)) (hk:k≤xs.length):aB w (.slice p k cap) sz ((xs.take k).map f):=by
 obtain ⟨⟨q,c,e,hne⟩,hle⟩:=h
 injection e with e1 e2 e3
 subst e1 e3
 have hl:((xs.take k).map f).length=k:=by rw [List.length_map,List.length_take];omega
 refine ⟨⟨_,_,by rw [hl],fun hx=>?_⟩,by rw [hl];rw [List.length_map] at hle;omega⟩
 obtain ⟨b,off,rfl,hr⟩:=hne (by intro e;apply hx;rw [List.map_eq_nil_iff] at e ⊢;rw [e];simp)
 refine ⟨b,off,rfl,fun i c hi=>hr i c ?_⟩
 rw [List.map_take,List.getElem?_take] at hi
 split at hi
 ·exact hi
 ·cases hi
attribute [local irreducible] Hy St Ops DH gB iH iq fK DS fA
end
theorem iE {n:Nat} {w0:World} {mu:List Nat} {l:Fm} {hp:Hp} {all:Array Oper} {iv:Fm} {i d:Nat} {ds:List (Nat × Nat)} {D:List Nat} {Y:Fm→Prop} {ty:TypeId} {pos:String} {af:Array Edge} {x:Operand} {v:Value} (h:fK Tryz.prog n w0 mu all ds l hp Y D ((i,v)::iv)) (ho:all[i]?=some ⟨some d,.assign x,ty,pos,af,none⟩:=by rfl) (hx:ev (aA ds iv af.toList++l) x=some v:=by rfl):fK Tryz.prog n w0 mu all ds l hp Y (i::D) iv:=Gl ho (Ph hx) h
section
attribute [local irreducible] Hy St Ops DH gB
structure bg where
 kind:Int
 jm:Int
 ku:Int
 all:Bool
 page:Int
 level:Int
 frame:Int
 mid:Int
 r:Bool
 w:Bool
 x:Bool
 af:Bool
 ng:Bool
 soft:Int
deriving DecidableEq
instance : Inhabited bg := ⟨⟨0, 0, 0, false, 0, 0, 0, 0, false, false, false, false, false, 0⟩⟩
abbrev bI (e:bg):List Value:=[.int .i64 e.kind,.int .i64 e.jm,.int .i64 e.ku,.bool e.all,.int .i64 e.page,.int .i64 e.level,.int .i64 e.frame,.int .i64 e.mid,.bool e.r,.bool e.w,.bool e.x,.bool e.af,.bool e.ng,.int .i64 e.soft]
structure dB where
 kind:Int
 jm:Int
 ku:Int
 page:Int
deriving DecidableEq
instance : Inhabited dB := ⟨⟨0, 0, 0, 0⟩⟩
abbrev dJ (i:dB):List Value:=[.int .i64 i.kind,.int .i64 i.jm,.int .i64 i.ku,.int .i64 i.page]
def bg.nums (e:bg):Bool:=PtD.bY e.jm 0 15 && PtD.bY e.ku 0 15 && PtD.bY e.page 0 4095 && PtD.bY e.frame 0 4095 && PtD.bY e.mid 0 4095 && decide (e.soft=0)
def bg.bare (e:bg):Bool:=!e.r && !e.w && !e.x && !e.af && !e.ng && decide (e.soft=0)
def kL (level page:Nat):Nat:=page - page % aP level
def bg.may (e:bg):Bool:=e.nums &&
 bif decide (e.kind=1) then decide (e.level=0)
 else bif decide (e.kind=2) then decide (e.ku=0) && e.all && decide (e.level=0) && decide (e.mid=0) && !e.ng
 else bif decide (e.kind=3) then PtD.bY e.level 1 3 && decide (kL (e.level.toNat - 1) e.page.toNat=e.page.toNat) && decide (e.mid=0) && e.bare
 else false
def dB.may (i:dB):Bool:=PtD.bY i.kind 1 6 && PtD.bY i.jm 0 15 && PtD.bY i.ku 0 15 && PtD.bY i.page 0 4095
theorem KE (p:Int) (w:World):Fn Tryz.prog 149 [.int .i64 p].toArray w [] (fun u _=>u=.bool (PtD.bY p 0 15)):=by
 refine enter Tryz.func149 ?_
 refine run ?_
 refine ax (fun wc hG=>uG p 15 wc) ?_
 refine run ?_
 exact fin1 rfl
theorem VP (level:Nat) (h:level<4) (page:Nat) (hp:page≤4095) (w:World):Fn Tryz.prog 177 [.int .i64 (level:Int),.int .i64 (page:Int)].toArray w [] (fun u _=>u=.int .i64 (kL level page:Int)):=by
 have h9:=jc h
 refine enter Tryz.func177 ?_
 refine run ?_
 refine ax (fun wc hG=>qG level h wc) ?_
 refine eH av2 (fP rfl rfl page (aP level) av2 av2 au') ?_
 refine run ?_
 refine fin1 ?_
 have hmod:=Nat.mod_le page (aP level)
 rw [show ((page:Int) - ((page % aP level:Nat):Int))=((kL level page:Nat):Int) by unfold kL;omega,wrap_in au' (by unfold kL;omega)]
theorem EG (level:Nat) (h0:1≤level) (h:level<4) (page:Nat) (hp:page≤4095) (w:World):Fn Tryz.prog 150 [.int .i64 (level:Int),.int .i64 (page:Int)].toArray w [] (fun u _=>u=.int .i64 (kL (level - 1) page:Int)):=by
 refine enter Tryz.func150 ?_
 refine run ?_
 rw [show (level:Int) - 1=((level - 1:Nat):Int) by omega]
 refine ax (fun wc hG=>VP (level - 1) au' page hp wc) ?_
 refine run ?_
 exact fin1 rfl
theorem TW (e:bg) (w:World):Fn Tryz.prog 121 [.agg (bI e).toArray].toArray w [] (fun u _=>u=.bool e.may):=by
 refine enter Tryz.func121 ?_
 refine run ?_
 intro B
 refine az ?_
 refine ax (fun wc hG=>KE e.jm wc) ?_
 refine az ?_
 refine aZ (fun _ wc hG=>KE e.ku wc) ?_
 refine az ?_
 refine aZ (fun _ wc hG=>rO e.page wc) ?_
 refine az ?_
 refine aZ (fun _ wc hG=>rO e.frame wc) ?_
 refine az ?_
 refine aZ (fun _ wc hG=>rO e.mid wc) ?_
 refine az ?_
 have hnn:(!PtD.bY e.jm 0 15 || !PtD.bY e.ku 0 15 || !PtD.bY e.page 0 4095 || !PtD.bY e.frame 0 4095 || !PtD.bY e.mid 0 4095 || !decide (e.soft=0))=!e.nums:=by
  unfold bg.nums
  simp only [Bool.not_and]
 refine aj _ rfl (fun hn=>?_) (fun hn=>?_)
 ·refine run ?_
  refine fin1 ?_
  rw [hnn] at hn
  have hn':e.nums=false:=by simpa using hn
  simp [bg.may,hn']
 ·rw [hnn] at hn
  have hn':e.nums=true:=by simpa using hn
  clear hnn
  have hb:=hn'
  simp only [bg.nums,Bool.and_eq_true,decide_eq_true_eq] at hb
  have hpz:=oJ hb.1.1.1.2
  refine run ?_
  refine aj _ rfl (fun hk=>?_) (fun hk=>?_)
  ·refine run ?_
   refine fin1 ?_
   simp [bg.may,hn',hk]
  refine run ?_
  refine aj _ rfl (fun hk2=>?_) (fun hk2=>?_)
  ·refine az ?_
   refine fin1 ?_
   simp [bg.may,hn',hk,hk2]
  refine run ?_
  refine aj _ rfl (fun hk3=>?_) (fun hk3=>?_)
  ·refine az ?_
   refine iV 29 ?_
   refine iU ?_
   refine kS (b:=decide (1≤e.level) && decide (e.level≤3)) (want:=true) (v:=.int .i64 (kL (e.level.toNat - 1) e.page.toNat:Int)) (fun hg wc hG=>by
    simp [jg] at hg
    have h5:=EG e.level.toNat au' au' e.page.toNat hpz.2 wc
    rw [hpz.1,show ((e.level.toNat:Nat):Int)=e.level by omega] at h5
    exact h5) ?_
   refine iU ?_
   refine run ?_
   refine fin1 ?_
   have hz:decide (((kL (e.level.toNat - 1) e.page.toNat:Nat):Int)=e.page)=decide (kL (e.level.toNat - 1) e.page.toNat=e.page.toNat):=by
    rw [Bool.eq_iff_iff,decide_eq_true_eq,decide_eq_true_eq]
    have:=hpz.1
    omega
   rw [hz]
   simp only [bg.may,hn',hk3,show decide (e.kind=1)=false by simpa using hk,show decide (e.kind=2)=false by simpa using hk2,cond_false,cond_true,Bool.true_and,PtD.bY,bg.bare,bF,nH]
   cases e.r<;>cases e.w<;>cases e.x<;>cases e.af<;>cases e.ng<;>simp
  ·refine run ?_
   refine fin1 ?_
   simp [bg.may,hn',hk,hk2,hk3]
theorem TY (i:dB) (w:World):Fn Tryz.prog 123 [.agg (dJ i).toArray].toArray w [] (fun u _=>u=.bool i.may):=by
 refine enter Tryz.func123 ?_
 refine run ?_
 intro B
 refine az ?_
 refine aZ (fun _ wc hG=>KE i.jm wc) ?_
 refine az ?_
 refine aZ (fun _ wc hG=>KE i.ku wc) ?_
 refine az ?_
 refine aZ (fun _ wc hG=>rO i.page wc) ?_
 refine az ?_
 refine fin1 ?_
 simp [dB.may,PtD.bY,Bool.and_assoc]
end
theorem TZ (a b:bg):bF (bI a) (bI b)=decide (a=b):=by
 obtain ⟨a1,a2,a3,a4,a5,a6,a7,a8,a9,a10,a11,a12,Zc,a14⟩:=a
 obtain ⟨b1,b2,b3,b4,b5,b6,b7,b8,b9,b10,b11,b12,b13,b14⟩:=b
 rw [Bool.eq_iff_iff,decide_eq_true_eq]
 simp [bF,nH]
theorem ae1 (a b:dB):bF (dJ a) (dJ b)=decide (a=b):=by
 obtain ⟨a1,a2,a3,a4⟩:=a
 obtain ⟨b1,b2,b3,b4⟩:=b
 rw [Bool.eq_iff_iff,decide_eq_true_eq]
 simp [bF,nH]
def xU (es:List bg) (k:Nat):Bool:=(es.getD k default).may && !(es.take k).any fun t=>decide (t=es.getD k default)
def bK (es:List bg) (ds:List dB):Bool:=((List.range es.length).all fun k=>xU es k) && ds.all dB.may && decide (es.length≤8) && decide (ds.length≤8)
theorem GX {α:Type} [Inhabited α] [DecidableEq α] (l:List α) (k:Nat) (hk:k<l.length):decide (fM (fun t=>decide (t=l.getD k default)) l=(k:Int))=!(l.take k).any (fun t=>decide (t=l.getD k default)):=by
 cases h:(l.take k).any (fun t=>decide (t=l.getD k default)) with
 | false=>
  rw [iM hk av4 fun j hj=>?_]
  ·simp
  ·rw [List.any_eq_false] at h
   have h1:=h (l.getD j default) (by
    rw [List.mem_take_iff_getElem]
    exact ⟨j,by omega,by simp [show j<l.length by omega]⟩)
   simpa using h1
 | true=>
  obtain ⟨x,hx,hxe⟩:=List.any_eq_true.1 h
  obtain ⟨j,hj,rfl⟩:=List.mem_take_iff_getElem.1 hx
  have hj1:j<l.length:=by omega
  have hje:decide (l.getD j default=l.getD k default)=true:=by
   rw [List.getD_eq_getElem?_getD,List.getElem?_eq_getElem hj1];exact hxe
  obtain ⟨j0,h0,h1,h2⟩:=oK (fun t=>decide (t=l.getD k default)) l j hje
  rw [iM (k:=j0) au' h1 h2]
  simp;omega
theorem xW {p:Nat→Bool} {n:Nat} (h:∀ j,j<n→p j=true):(List.range n).all p=true:=List.all_eq_true.2 fun j hj=>h j (List.mem_range.1 hj)
theorem Ua {p:Nat→Bool} {n k:Nat} (hk:k<n) (h:p k=false):(List.range n).all p=false:=by
 cases hc:(List.range n).all p with
 | false=>rfl
 | true=>rw [List.all_eq_true.1 hc k (List.mem_range.2 hk)] at h;cases h
theorem KF {es:List bg} {ds:List dB} {k:Nat} (hk:k<es.length) (h:xU es k=false):bK es ds=false:=by
 unfold bK
 rw [Ua hk h];rfl
theorem Ub {es:List bg} {ds:List dB} {k:Nat} (hk:k<ds.length) (h:(ds.getD k default).may=false):bK es ds=false:=by
 have:ds.all dB.may=false:=by
  cases hc:ds.all dB.may with
  | false=>rfl
  | true=>
   rw [List.getD_eq_getElem?_getD,List.getElem?_eq_getElem hk] at h
   have:=List.all_eq_true.1 hc _ (List.getElem_mem hk)
   rw [Option.getD_some] at h
   rw [this] at h;cases h
 unfold bK
 rw [this];simp
theorem GY {α:Type} [Inhabited α] {l:List α} {p:α→Bool} (h:∀ j,j<l.length→p (l.getD j default)=true):l.all p=true:=by
 refine List.all_eq_true.2 fun x hx=>?_
 obtain ⟨j,hj,rfl⟩:=List.getElem_of_mem hx
 have:=h j hj
 rwa [List.getD_eq_getElem?_getD,List.getElem?_eq_getElem hj] at this
section
attribute [local irreducible] Hy St Ops DH gB
theorem Qh {w:World} (a:bg) (xs:List bg) (v:Value) (h:aB w v 14 (xs.map bI)):
  Fn Tryz.prog 122 [v,.agg (bI a).toArray].toArray w [] (fun u _=>u=.int .i64 (fM (fun t=>decide (t=a)) xs)):=by
 obtain ⟨q,cap,rfl,hne,hle⟩:=h.opened
 refine enter Tryz.func122 ?_
 refine run ?_
 intro B
 refine run ?_
 refine cO (σ:=Nat) (fun k=>[(5,.int .i64 (k:Int))]) (fun _=>[⟨B,(bI a).toArray,114⟩]) (fun k=>k≤xs.length∧∀ j,j<k→decide (xs.getD j default=a)=false) (fun k=>xs.length - k) 0 ⟨Nat.zero_le _,fun j hj=>absurd hj au'⟩ ?_
 rintro k m rfl ⟨hk,hno⟩
 refine run ?_
 refine aj _ rfl (fun hc=>?_) (fun hc=>?_)
 ·have hlt:k<xs.length:=by simpa using hc
  obtain ⟨b,o,rfl⟩:=hne av5
  have hr:=h.row hlt
  refine run ?_
  refine eU ?_
  refine cu ?_
  refine run ?_
  rw [TZ]
  refine aj _ rfl (fun hp=>?_) (fun hp=>?_)
  ·refine run ?_
   refine fin1 ?_
   rw [iM hlt hp hno]
  ·refine run ?_
   refine bH (k + 1) ⟨hlt,fun j hj=>?_⟩
   rcases Nat.lt_succ_iff_lt_or_eq.1 hj with hj | rfl
   ·exact hno j hj
   ·exact hp
 ·have hge:k=xs.length:=by simp at hc;omega
  subst hge
  refine run ?_
  refine fin1 ?_
  rw [fO hno]
theorem Xg {w:World} (es:List bg) (ds:List dB) (v u:Value) (h:aB w v 14 (es.map bI)) (hd:aB w u 4 (ds.map dJ)):
  Fn Tryz.prog 80 [.agg #[v,u]].toArray w [] (fun r _=>r=.bool (bK es ds)):=by
 obtain ⟨q,cap,rfl,hne,hle⟩:=h.opened
 obtain ⟨q2,cap2,rfl,hne2,hle2⟩:=hd.opened
 refine enter Tryz.func80 ?_
 refine run ?_
 intro B
 refine run ?_
 refine cO (σ:=Nat) (fun k=>[(3,.int .i64 (k:Int))]) (fun _=>[⟨B,#[.slice q es.length cap,.slice q2 ds.length cap2],77⟩]) (fun k=>k≤es.length∧∀ j,j<k→xU es j=true) (fun k=>es.length - k) 0 ⟨Nat.zero_le _,fun j hj=>absurd hj au'⟩ ?_
 rintro k m rfl ⟨hk,hno⟩
 refine run ?_
 refine aj _ rfl (fun hc=>?_) (fun hc=>?_)
 ·have hlt:k<es.length:=by simpa using hc
  obtain ⟨b,o,rfl⟩:=hne av5
  have hr:=h.row hlt
  refine run ?_
  refine eU ?_
  refine cu ?_
  refine jY (fun wc hG=>TW (es.getD k default) wc) ?_
  refine iU ?_
  refine kS (fun hg wc hG=>Qh (es.getD k default) es _ (h.good hG)) ?_
  refine iU ?_
  refine run ?_
  have he:(!(es.getD k default).may || !decide (fM (fun t=>decide (t=es.getD k default)) es=(k:Int)))=!xU es k:=by
   rw [GX es k hlt]
   unfold xU
   rw [Bool.not_and]
  rw [he]
  refine aj _ rfl (fun hp=>?_) (fun hp=>?_)
  ·refine run ?_
   refine fin1 ?_
   rw [KF hlt (by simpa using hp)]
  ·refine run ?_
   refine bH (k + 1) ⟨hlt,fun j hj=>?_⟩
   rcases Nat.lt_succ_iff_lt_or_eq.1 hj with hj | rfl
   ·exact hno j hj
   ·simpa using hp
 ·have hge:k=es.length:=by simp at hc;omega
  subst hge
  refine run ?_
  refine cO (σ:=Nat) (fun k=>[(4,.int .i64 (k:Int))]) (fun _=>[⟨B,#[.slice q es.length cap,.slice q2 ds.length cap2],77⟩]) (fun k=>k≤ds.length∧∀ j,j<k→(ds.getD j default).may=true) (fun k=>ds.length - k) 0 ⟨Nat.zero_le _,fun j hj=>absurd hj au'⟩ ?_
  rintro k m rfl ⟨hk,Zd⟩
  refine run ?_
  refine aj _ rfl (fun hc=>?_) (fun hc=>?_)
  ·have hlt:k<ds.length:=by simpa using hc
   obtain ⟨b,o,rfl⟩:=hne2 av5
   have hr:=hd.row hlt
   refine run ?_
   refine ax (fun wc hG=>TY (ds.getD k default) wc) ?_
   refine run ?_
   refine aj _ rfl (fun hp=>?_) (fun hp=>?_)
   ·refine run ?_
    refine fin1 ?_
    rw [Ub hlt (by simpa using hp)]
   ·refine run ?_
    refine bH (k + 1) ⟨hlt,fun j hj=>?_⟩
    rcases Nat.lt_succ_iff_lt_or_eq.1 hj with hj | rfl
    ·exact Zd j hj
    ·simpa using hp
  ·have hge:k=ds.length:=by simp at hc;omega
   subst hge
   refine az ?_
   refine fin1 ?_
   unfold bK
   rw [xW hno,GY Zd,show decide ((es.length:Int)≤8)=decide (es.length≤8) by (rw [Bool.eq_iff_iff,decide_eq_true_eq,decide_eq_true_eq];omega),show decide ((ds.length:Int)≤8)=decide (ds.length≤8) by (rw [Bool.eq_iff_iff,decide_eq_true_eq,decide_eq_true_eq];omega)]
   rfl
structure dM where
 es:List bg
 ds:List dB
 ep:Option Addr
 ec:Nat
 dp:Option Addr
 dc:Nat
instance : Inhabited dM := ⟨⟨[], [], none, 0, none, 0⟩⟩
abbrev dM.ev (t:dM):Value:=.slice t.ep t.es.length t.ec
abbrev dM.dv (t:dM):Value:=.slice t.dp t.ds.length t.dc
abbrev lC (t:dM):List Value:=[t.ev,t.dv]
structure qI (w:World) (v:Value) (ts:List dM):Prop where
 rows:aB w v 2 (ts.map lC)
 en:∀ t∈ts,aB w t.ev 14 (t.es.map bI)
 iv:∀ t∈ts,aB w t.dv 4 (t.ds.map dJ)
theorem qI.good {w w':World} {hp:Hp} {v:Value} {ts:List dM} (h:qI w v ts) (hG:Good w [] hp w'):qI w' v ts:=⟨h.rows.good hG,fun t ht=>(h.en t ht).good hG,fun t ht=>(h.iv t ht).good hG⟩
theorem getD_mem {α:Type} [Inhabited α] {l:List α} {k:Nat} (h:k<l.length):l.getD k default∈l:=by
 rw [List.getD_eq_getElem?_getD,List.getElem?_eq_getElem h];exact List.getElem_mem h
theorem all_false {α:Type} [Inhabited α] {l:List α} {p:α→Bool} {k:Nat} (hk:k<l.length) (h:p (l.getD k default)=false):l.all p=false:=by
 cases hc:l.all p with
 | false=>rfl
 | true=>rw [List.all_eq_true.1 hc _ (getD_mem hk)] at h;cases h
theorem Uc {w:World} (ts:List dM) (v:Value) (h:qI w v ts):Fn Tryz.prog 43 [v].toArray w [] (fun r _=>r=.bool (ts.all fun t=>bK t.es t.ds)):=by
 obtain ⟨q,cap,rfl,hne,hle⟩:=h.rows.opened
 refine enter Tryz.func43 ?_
 refine run ?_
 refine cO (σ:=Nat) (fun k=>[(3,.int .i64 (k:Int))]) (fun _=>[]) (fun k=>k≤ts.length∧∀ j,j<k→bK (ts.getD j default).es (ts.getD j default).ds=true) (fun k=>ts.length - k) 0 ⟨Nat.zero_le _,fun j hj=>absurd hj au'⟩ ?_
 rintro k m rfl ⟨hk,hno⟩
 refine run ?_
 refine aj _ rfl (fun hc=>?_) (fun hc=>?_)
 ·have hlt:k<ts.length:=by simpa using hc
  obtain ⟨b,o,rfl⟩:=hne av5
  have hr:=h.rows.row hlt
  have hen:=h.en _ (getD_mem hlt)
  have hiv:=h.iv _ (getD_mem hlt)
  generalize ht:ts.getD k default=t at hr hen hiv
  refine run ?_
  refine ax (fun wc hG=>Xg t.es t.ds _ _ (hen.good hG) (hiv.good hG)) ?_
  refine run ?_
  refine aj _ rfl (fun hp=>?_) (fun hp=>?_)
  ·refine run ?_
   refine fin1 ?_
   rw [all_false hlt (by rw [ht];simpa using hp)]
  ·refine run ?_
   refine bH (k + 1) ⟨hlt,fun j hj=>?_⟩
   rcases Nat.lt_succ_iff_lt_or_eq.1 hj with hj | rfl
   ·exact hno j hj
   ·rw [ht];simpa using hp
 ·have hge:k=ts.length:=by simp at hc;omega
  subst hge
  refine run ?_
  refine fin1 ?_
  rw [GY hno]
end
end Go.Proofs.YtndklbjnofdgeaaGreat
