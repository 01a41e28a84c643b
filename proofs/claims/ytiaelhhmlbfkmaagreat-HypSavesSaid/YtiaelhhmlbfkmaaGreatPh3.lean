/- Texts of one's own, merged: the engine, what the functions do, plain laws. -/
import Derived.Test.YtiaelhhmlbfkmaaGreatPh2
namespace Go.Proofs.YtiaelhhmlbfkmaaGreat
open Go.RowKit
set_option linter.unusedVariables false
set_option linter.unusedSimpArgs false
set_option maxRecDepth 20000
def dm (n:Nat) (f:Int):Bool:=decide (0≤f) && decide (f<((n / 8:Nat):Int))
def sH (f:Int) (level page:Nat):Nat:=f.toNat * 8 + ru level page
def kS (ws:List Nat) (p level:Nat):DsD:=Ej 2 level (ws.getD p 0)
structure uB where
 fs:List Int
 d:DsD
 ok:Bool
deriving Inhabited
def fZ (ws:List Nat) (page down:Nat):Nat→Nat→Int→List Int→DsD→uB
 | 0,_,_,fs,d=>⟨fs,d,false⟩
 | k + 1,level,f,fs,d=>bif dm ws.length f then
   (bif !decide ((kS ws (sH f level page) level).kind=1) || decide (level=down) then ⟨fs++[f],kS ws (sH f level page) level,true⟩
   else fZ ws page down k (level + 1) (kS ws (sH f level page) level).frame (fs++[f]) (kS ws (sH f level page) level))
  else ⟨fs,d,false⟩
def bz (ws:List Nat) (root:Int) (page down:Nat):uB:=fZ ws page down 4 0 root [] dN
def uB.lv (w:uB):Nat:=w.fs.length - 1
def uB.place (w:uB) (page:Nat):Nat:=sH (w.fs.getD w.lv 0) w.lv page
theorem zg (level page:Nat):ru level page<8:=Nat.mod_lt _ be6
theorem jd {n:Nat} {f:Int} (h:dm n f=true):0≤f∧f.toNat<n / 8∧(f.toNat:Int)=f:=by
 simp only [dm,Bool.and_eq_true,decide_eq_true_eq] at h
 omega
theorem CZ {n:Nat} {f:Int} {level page:Nat} (h:dm n f=true):sH f level page<n:=by
 have h1:=jd h
 have h2:=zg level page
 unfold sH
 omega
theorem lX {stage:Int} {level:Nat} {d:DsD} (h:d.may stage level=true):(d.kind=0∨d.kind=1∨d.kind=2)∧(d.kind=0→d.frame=0∧0≤d.note∧d.note≤15)∧(d.kind=1→level<3∧0≤d.frame∧d.frame≤4095∧d.note=0)∧(d.kind=2→0<level∧0≤d.frame∧d.frame≤4095∧d.note=0∧d.frame.toNat % aB level=0):=by
 unfold DsD.may at h
 by_cases h0:d.kind=0
 ·simp only [h0,decide_true,cond_true,Bool.and_eq_true,Bool.or_eq_true,decide_eq_true_eq] at h
  refine ⟨.inl h0,fun _=>⟨h.1.1,?_⟩,fun e=>absurd e be5,fun e=>absurd e be5⟩
  rcases h.2 with e | ⟨_,e⟩
  ·omega
  ·simp only [PtD.di,Bool.and_eq_true,decide_eq_true_eq] at e;omega
 ·by_cases h1:d.kind=1
  ·simp only [h1,decide_true,cond_true,Bool.and_eq_true,decide_eq_true_eq,show decide ((1:Int)=0)=false from rfl,cond_false,PtD.di] at h
   refine ⟨.inr (.inl h1),fun e=>absurd e be5,fun _=>⟨h.1.2,h.2.1,h.2.2,h.1.1.2⟩,fun e=>absurd e be5⟩
  ·by_cases h2:d.kind=2
   ·simp only [h2,decide_true,cond_true,Bool.and_eq_true,decide_eq_true_eq,show decide ((2:Int)=0)=false from rfl,show decide ((2:Int)=1)=false from rfl,cond_false,PtD.di] at h
    refine ⟨.inr (.inr h2),fun e=>absurd e be5,fun e=>absurd e be5,fun _=>⟨h.1.1.2,h.1.2.1,h.1.2.2,h.1.1.1.1,h.2⟩⟩
   ·simp [h0,h1,h2] at h
theorem xU (ws:List Nat) (p level:Nat):(kS ws p level).may 2 level=true:=YG _ _ _
theorem A7 {ws:List Nat} {p level:Nat} (h:(kS ws p level).kind=1):level<3:=((lX (xU ws p level)).2.2.1 h).1
structure uB.Fine (w:uB) (ws:List Nat) (page down:Nat):Prop where
 pos:0<w.fs.length
 le:w.fs.length≤4
 has:∀ f∈w.fs,dm ws.length f=true
 d:w.d=kS ws (w.place page) w.lv
 stop:w.d.kind=1→w.lv=down
theorem LW {ws:List Nat} {page down:Nat}:∀ (k level:Nat) (f:Int) (fs:List Int) (d:DsD),fs.length=level→level + k=4→(∀ f∈fs,dm ws.length f=true)→(fZ ws page down k level f fs d).ok=true→(fZ ws page down k level f fs d).Fine ws page down:=by
 intro k
 induction k with
 | zero=>intro level f fs d _ _ _ h;simp [fZ] at h
 | succ k ih=>
  intro level f fs d hl hk hf h
  rw [fZ] at h ⊢
  cases hh:dm ws.length f with
  | false=>rw [hh] at h;simp at h
  | true=>
   rw [hh] at h
   simp only [cond_true] at h ⊢
   have hall:∀ g∈fs++[f],dm ws.length g=true:=by
    intro g hg
    rcases List.mem_append.1 hg with hg | hg
    ·exact hf g hg
    ·obtain rfl:=List.mem_singleton.1 hg;exact hh
   cases hc:(!decide ((kS ws (sH f level page) level).kind=1) || decide (level=down)) with
   | true=>
    have hlv:(fs++[f]).length - 1=level:=by simp [hl]
    have hget:(fs++[f]).getD level 0=f:=by rw [List.getD_eq_getElem?_getD,List.getElem?_append_right be5,hl];simp
    simp only [cond_true]
    refine ⟨by simp,by simp [hl];omega,hall,?_,fun hk1=>?_⟩
    ·simp only [uB.place,uB.lv,hlv,hget]
    ·simp only [uB.lv,hlv]
     have hk2:(kS ws (sH f level page) level).kind=1:=hk1
     simp only [hk2,decide_true,Bool.not_true,Bool.false_or,decide_eq_true_eq] at hc
     exact hc
   | false=>
    rw [hc] at h
    simp only [cond_false] at h ⊢
    exact ih _ _ _ _ (by simp [hl]) be5 hall h
theorem oO {ws:List Nat} {root:Int} {page down:Nat} (h:(bz ws root page down).ok=true):(bz ws root page down).Fine ws page down:=LW 4 0 root [] dN rfl rfl be7 h
theorem LX {ws:List Nat} {page down:Nat}:∀ (k level:Nat) (f:Int) (fs:List Int) (d:DsD) (r:Int),fs.head?=some r→(fZ ws page down k level f fs d).fs.head?=some r:=by
 intro k
 induction k with
 | zero=>intro level f fs d r h;exact h
 | succ k ih=>
  intro level f fs d r h
  rw [fZ]
  cases dm ws.length f with
  | false=>exact h
  | true=>
   simp only [cond_true]
   have h2:(fs++[f]).head?=some r:=by cases fs with | nil=>cases h | cons a l=>simpa using h
   cases (!decide ((kS ws (sH f level page) level).kind=1) || decide (level=down)) with
   | true=>exact h2
   | false=>exact ih _ _ _ _ _ h2
theorem QC {ws:List Nat} {root:Int} {page down:Nat} (h:(bz ws root page down).ok=true):root∈(bz ws root page down).fs:=by
 have:(bz ws root page down).fs.head?=some root:=by
  unfold bz at h ⊢
  rw [fZ] at h ⊢
  cases hh:dm ws.length root with
  | false=>rw [hh] at h;simp at h
  | true=>
   simp only [cond_true]
   cases (!decide ((kS ws (sH root 0 page) 0).kind=1) || decide (0=down)) with
   | true=>rfl
   | false=>exact LX _ _ _ _ _ _ rfl
 exact List.mem_of_mem_head? (by rw [this];rfl)
def nK (n:Nat) (fs l:List Int) (i:Nat):Bool:=dm n (l.getD i 0) && !(l.take i).any (fun t=>decide (t=l.getD i 0)) && !fs.any (fun t=>decide (t=l.getD i 0))
def mY (n:Nat) (fs l:List Int):Bool:=(List.range l.length).all (nK n fs l)
theorem wE {n:Nat} {fs l:List Int} (h:∀ i,i<l.length→nK n fs l i=true):mY n fs l=true:=List.all_eq_true.2 fun i hi=>h i (List.mem_range.1 hi)
theorem zM {n:Nat} {fs l:List Int} {i:Nat} (hi:i<l.length) (h:nK n fs l i=false):mY n fs l=false:=by
 cases hf:mY n fs l with
 | false=>rfl
 | true=>have:=List.all_eq_true.1 hf i (List.mem_range.2 hi);rw [h] at this;cases this
theorem EX {n:Nat} {fs l:List Int} (h:mY n fs l=true) {i:Nat} (hi:i<l.length):dm n (l.getD i 0)=true:=by
 have:=List.all_eq_true.1 h i (List.mem_range.2 hi)
 simp only [nK,Bool.and_eq_true] at this
 exact this.1.1
def kH (ws:List Nat) (p level:Nat) (d:DsD):List Nat:=ws.set p (d.word 2 level)
def lq (f:Int):DsD:=⟨1,f,false,false,false,false,false,0,0⟩
def jF (n:Int):DsD:=⟨0,0,false,false,false,false,false,0,n⟩
def rW (ws:List Nat) (o:Nat):Nat→List Nat
 | 0=>ws
 | k + 1=>(rW ws o k).set (o + k) 0
def jO (ws:List Nat) (f:Int):List Nat:=rW ws (f.toNat * 8) 8
theorem zh (ws:List Nat) (o k:Nat):(rW ws o k).length=ws.length:=by
 induction k with
 | zero=>rfl
 | succ k ih=>rw [rW,List.length_set,ih]
theorem iP (ws:List Nat) (f:Int):(jO ws f).length=ws.length:=zh _ _ _
theorem jG (ws:List Nat) (p level:Nat) (d:DsD):(kH ws p level d).length=ws.length:=List.length_set ..
def jo (page:Nat):List Int→Nat→Nat→List Nat→Nat × List Nat
 | [],p,_,ws=>(p,ws)
 | f::r,p,level,ws=>jo page r (sH f (level + 1) page) (level + 1) (kH (jO ws f) p level (lq f))
theorem QD (page:Nat):∀ (l:List Int) (p level:Nat) (ws:List Nat),(jo page l p level ws).2.length=ws.length:=by
 intro l
 induction l with
 | nil=>intro p level ws;rfl
 | cons f r ih=>intro p level ws;rw [jo,ih,jG,iP]
structure GV where
 ws:List Nat
 left:List Int
 e:Int
deriving Inhabited
def badM (e:Int):GV:=⟨[],[],e⟩
def qj (ws:List Nat) (root:Int) (free:List Int) (page:Nat) (d:DsD):GV:=
 let w:=bz ws root page 3
 bif !(w.ok && mY ws.length w.fs free) then badM 2
 else bif decide (w.d.kind=2) || (decide (w.fs.length<4) && !decide (w.d.note=0)) then badM 4
 else bif decide (free.length + w.fs.length<4) then badM 5
 else let r:=jo page (free.take (4 - w.fs.length)) (w.place page) w.lv ws
  ⟨kH r.2 r.1 3 d,free.drop (4 - w.fs.length),0⟩
def eG (ws:List Nat) (root:Int) (page level:Nat) (d:DsD):GV:=
 let w:=bz ws root page level
 bif !w.ok then badM 2 else bif !decide (w.lv=level) then badM 3 else ⟨kH ws (w.place page) level d,[],0⟩
structure GtD where
 d:DsD
 level:Nat
 e:Int
def kJ (ws:List Nat) (root:Int) (page:Nat):GtD:=
 let w:=bz ws root page 3
 bif w.ok then ⟨w.d,w.lv,0⟩ else ⟨dN,0,2⟩
theorem xW {level:Nat} {f:Int} (hl:level<3) (h0:0≤f) (h1:f≤4095):(lq f).may 2 level=true:=by
 simp [DsD.may,lq,DsD.bare,PtD.di,hl,h0,h1]
theorem EY {level:Nat} {n:Int} (h0:0≤n) (h1:n≤15):(jF n).may 2 level=true:=by
 simp [DsD.may,jF,DsD.bare,PtD.di,h0,h1]
theorem OM {ws:List Nat} {root:Int} {page:Nat} (h:(bz ws root page 3).ok=true):(bz ws root page 3).d.kind=1→False:=by
 intro hk
 have hf:=oO h
 have h3:=hf.stop hk
 rw [hf.d] at hk
 have:=A7 hk
 omega
section
attribute [local irreducible] Hy St Ops DH dG
abbrev dpV (stage:Int) (level:Nat) (d:DsD):Value:=.agg #[.int .i64 stage,.int .i64 (level:Int),.int .i64 d.kind,.int .i64 d.frame,.bool d.r,.bool d.w,.bool d.x,.bool d.af,.bool d.ng,.int .i64 d.soft,.int .i64 d.note]
def Jl (xs:List vG):List Value:=(xs.map KW).flatten
theorem pz (xs:List vG):∀ c∈xs.map KW,c.length=3∧c.all (·.oneCell')=true:=by
 intro c hc
 obtain ⟨x,_,rfl⟩:=List.mem_map.1 hc
 exact ⟨rfl,rfl⟩
theorem A8 (T n:Nat) (xs:List vG) (hn:xs.length=n:=by rfl) (hm:n≤1000:=by decide):Own 330 3 (.slice (some ⟨T,0,none⟩) n n) [⟨T,(Jl xs).toArray,330⟩] (xs.map KW):=by
 subst hn
 refine ⟨pz xs,.inr ⟨T,xs.length,_,by rw [List.length_map],rfl,?_⟩⟩
 have hl:=dB (xs.map KW) (fun c hc=>(pz xs c hc).1)
 refine ⟨hl,by simp,Nat.le_trans hm be6,by simpa [Jl] using hl,?_⟩
 rw [List.take_of_length_le (by simp [Jl,hl])];rfl
theorem GX {e t:Nat} (T cap:Nat) (cs:List Value) {xs:List (List Value)} {sz n:Nat} (h:xs.flatten=cs) (ht:e=t) (hall:∀ c∈xs,c.length=sz∧c.all (·.oneCell')=true) (hn:xs.length=n:=by rfl) (hc:xs.length=cap:=by rfl) (hcap:cap≤maxLen:=by decide):Own e sz (.slice (some ⟨T,0,none⟩) n cap) [⟨T,cs.toArray,t⟩] xs:=by
 subst ht hn hc h
 refine ⟨hall,.inr ⟨T,_,_,rfl,rfl,?_⟩⟩
 have hl:=dB xs (fun c hc=>(hall c hc).1)
 exact ⟨hl,Nat.le_refl _,hcap,by simp [hl],by rw [List.take_of_length_le (by simp [hl])]⟩
theorem DsD.LY (stage:Int) (level:Nat) (d:DsD):(d.fields stage level).length≤8:=by
 unfold DsD.fields
 cases decide (d.kind=0)<;>cases decide (d.kind=1)<;>cases decide (stage=1)<;>simp
theorem Jm {stage:Int} {level:Nat} {d:DsD} (hm:d.may stage level=true) (hk:d.kind=2) (h1:decide (stage=1)=false):0≤d.soft∧d.soft≤15:=by
 simp only [DsD.may,hk,h1,decide_true,cond_true,Bool.and_eq_true,decide_eq_true_eq,show decide ((2:Int)=0)=false from rfl,show decide ((2:Int)=1)=false from rfl,cond_false,PtD.di] at hm
 exact hm.1.1.1.2.2
theorem QE (stage:Int) (hs:stage=1∨stage=2) (level:Nat) (hl:level<4) (d:DsD) (hm:d.may stage level=true) (w:World):Fn Tryz.prog 163 [dpV stage level d].toArray w [] (fun u hn=>∃ h1,Own 330 3 u h1 ((d.fields stage level).map KW)∧aC h1 hn):=by
 have hlv:decide ((level:Int)=3)=decide (level=3):=by rw [Bool.eq_iff_iff,decide_eq_true_eq,decide_eq_true_eq];omega
 obtain ⟨k1,k2,k3,k4⟩:=lX hm
 have hf:0≤d.frame∧d.frame≤4095:=by
  rcases k1 with e | e | e
  ·have:=k2 e;omega
  ·have:=k3 e;omega
  ·have:=k4 e;omega
 have hf0:=hf.1
 have hf1:=hf.2
 have hfz:((d.frame.toNat:Nat):Int)=d.frame:=by omega
 refine enter Tryz.func163 ?_
 refine run ?_
 intro B
 refine run ?_
 refine ah _ rfl (fun hk=>?_) (fun hk=>?_)
 ·have hk0:d.kind=0:=by simpa using hk
  have hn0:=(k2 hk0).2.1
  have hn1:=(k2 hk0).2.2
  have hnz:((d.note.toNat:Nat):Int)=d.note:=by omega
  refine run ?_
  intro T
  refine fin1 ?_
  have e:d.fields stage level=[⟨4,4,d.note.toNat⟩]:=by simp [DsD.fields,hk0]
  rw [e]
  refine ⟨_,GX T 1 [.int .i64 4,.int .i64 4,.int .u64 d.note] (by simp [KW,hnz]) rfl (by simp [KW,Value.oneCell']),?_⟩
  (exact aj)
 ·have hk0:decide (d.kind=0)=false:=by simpa using hk
  refine run ?_
  refine drawM 15 [0,1,2,3,4,5,6,7,8,9,10,11,12,13] [14] [] ?_
  refine jA rfl (fun hx2=>fF (fC 251 rfl) rfl (fun wc hG=>uz 0 true wc)) ?_
  refine fU ?_
  refine ag5 (hy:=fun hx2 hg=>FZ rfl) (h:=?_)
  refine fU ?_
  refine jA rfl (fun hx2=>fF (fC 251 rfl) rfl (fun wc hG=>uz 1 _ wc)) ?_
  refine fU ?_
  refine eBS (Jl [⟨0,1,1⟩,⟨1,1,b1 (decide (d.kind=1) || decide (level=3))⟩,⟨12,12,d.frame.toNat⟩]) (h:=?_) (hn:=?_)
  ·refine jS ?_
   simp only [DN]
   rintro _ hn ⟨T,rfl,rfl⟩
   refine iW ?_
   refine qU ?_
   simp only [List.cons_append,List.nil_append,List.append_nil]
   refine run ?_
   refine ah _ rfl (fun hk1=>?_) (fun hk1=>?_)
   ·have ou:decide (d.kind=1)=true:=hk1
    refine run ?_
    refine fin1 ?_
    have e:d.fields stage level=[⟨0,1,1⟩,⟨1,1,1⟩,⟨12,12,d.frame.toNat⟩]:=by simp only [DsD.fields,hk0,ou,cond_false,cond_true]
    rw [e]
    simp only [ou,Bool.true_or,show b1 true=1 from rfl]
    refine ⟨_,A8 T 3 _,?_⟩
    (exact aj)
   ·have ou:decide (d.kind=1)=false:=by simpa using hk1
    have hk2:d.kind=2:=by
     simp at hk0 ou
     rcases k1 with e | e | e
     ·exact absurd e hk0
     ·exact absurd e ou
     ·exact e
    simp only [ou,Bool.false_or]
    refine run ?_
    refine drawM 13 [0,1,2,3,4,5,6,7,8,9,10,11] [12] [] ?_
    refine fU ?_
    refine jA rfl (fun hx2=>fF (fC 251 rfl) rfl (fun wc hG=>uz 10 _ wc)) ?_
    refine fU ?_
    refine jA rfl (fun hx2=>fF (fC 251 rfl) rfl (fun wc hG=>uz 54 _ wc)) ?_
    refine fU ?_
    refine eBS (Jl [⟨10,1,b1 d.af⟩,⟨54,1,b1 (!d.x)⟩]) (h:=?_) (hn:=by cases d.af<;>cases d.x<;>rfl)
    refine jS ?_
    simp only [DN]
    rintro _ hn ⟨T2,rfl,rfl⟩
    refine iW ?_
    refine qU ?_
    simp only [List.cons_append,List.nil_append,List.append_nil]
    refine uY (m:=2) ([⟨10,1,b1 d.af⟩,⟨54,1,b1 (!d.x)⟩].map KW) [⟨T2,(Jl [⟨10,1,b1 d.af⟩,⟨54,1,b1 (!d.x)⟩]).toArray,330⟩,⟨B,#[.int .i64 stage,.int .i64 (level:Int),.int .i64 d.kind,.int .i64 d.frame,.bool d.r,.bool d.w,.bool d.x,.bool d.af,.bool d.ng,.int .i64 d.soft,.int .i64 d.note],257⟩] (A8 T 3 [⟨0,1,1⟩,⟨1,1,b1 (decide (level=3))⟩,⟨12,12,d.frame.toNat⟩]) be7 (fun v' ha' hA'=>?_) be7 rfl (pz _) (bQ (m:=6) mh rfl) (hperm:=by (exact aJ))
    refine aP (⟨B,#[.int .i64 stage,.int .i64 (level:Int),.int .i64 d.kind,.int .i64 d.frame,.bool d.r,.bool d.w,.bool d.x,.bool d.af,.bool d.ng,.int .i64 d.soft,.int .i64 d.note],257⟩::ha') aj ?_
    obtain ⟨q,cap,rfl⟩:=hA'.opened
    refine run ?_
    refine ah _ rfl (fun h1=>?_) (fun h1=>?_)
    ·have h1':decide (stage=1)=true:=h1
     refine run ?_
     refine drawM 13 [0,1,2,3,4,5,6,7,8,9,10,11] [12] [] ?_
     refine fU ?_
     refine jA rfl (fun hx2=>fF (fC 251 rfl) rfl (fun wc hG=>uz 7 _ wc)) ?_
     refine fU ?_
     refine jA rfl (fun hx2=>fF (fC 251 rfl) rfl (fun wc hG=>uz 11 _ wc)) ?_
     refine fU ?_
     refine eBS (Jl [⟨7,1,b1 (!d.w)⟩,⟨11,1,b1 d.ng⟩]) (h:=?_) (hn:=by cases d.w<;>cases d.ng<;>rfl)
     refine jS ?_
     simp only [DN]
     rintro _ hn ⟨T3,rfl,rfl⟩
     refine iW ?_
     refine qU ?_
     simp only [List.cons_append,List.nil_append,List.append_nil]
     refine uY (m:=2) ([⟨7,1,b1 (!d.w)⟩,⟨11,1,b1 d.ng⟩].map KW) [⟨T3,(Jl [⟨7,1,b1 (!d.w)⟩,⟨11,1,b1 d.ng⟩]).toArray,330⟩,⟨B,#[.int .i64 stage,.int .i64 (level:Int),.int .i64 d.kind,.int .i64 d.frame,.bool d.r,.bool d.w,.bool d.x,.bool d.af,.bool d.ng,.int .i64 d.soft,.int .i64 d.note],257⟩] hA' be7 (fun v2 ha2 hA2=>?_) be7 rfl (pz _) (bQ (m:=6) mh rfl) (hperm:=by (exact aJ))
     refine run ?_
     refine fin1 ?_
     have e:d.fields stage level=[⟨0,1,1⟩,⟨1,1,b1 (decide (level=3))⟩,⟨12,12,d.frame.toNat⟩,⟨10,1,b1 d.af⟩,⟨54,1,b1 (!d.x)⟩,⟨7,1,b1 (!d.w)⟩,⟨11,1,b1 d.ng⟩]:=by simp only [DsD.fields,hk0,ou,h1',cond_false,cond_true]
     rw [e]
     exact ⟨ha2,hA2,by (exact aj)⟩
    ·have h1':decide (stage=1)=false:=by simpa using h1
     have hso:=Jm hm hk2 h1'
     have hs0:=hso.1
     have hs1:=hso.2
     have hsz:((d.soft.toNat:Nat):Int)=d.soft:=by omega
     refine run ?_
     refine drawM 18 [0,1,2,3,4,5,6,7,8,9,10,11,12,13,14,15,16] [17] [] ?_
     refine fU ?_
     refine jA rfl (fun hx2=>fF (fC 251 rfl) rfl (fun wc hG=>uz 6 _ wc)) ?_
     refine fU ?_
     refine jA rfl (fun hx2=>fF (fC 251 rfl) rfl (fun wc hG=>uz 7 _ wc)) ?_
     refine fU ?_
     refine eBS (Jl [⟨6,1,b1 d.r⟩,⟨7,1,b1 d.w⟩,⟨55,4,d.soft.toNat⟩]) (h:=?_) (hn:=by rw [← hsz];cases d.r<;>cases d.w<;>rfl)
     refine jS ?_
     simp only [DN]
     rintro _ hn ⟨T3,rfl,rfl⟩
     refine iW ?_
     refine qU ?_
     simp only [List.cons_append,List.nil_append,List.append_nil]
     refine uY (m:=3) ([⟨6,1,b1 d.r⟩,⟨7,1,b1 d.w⟩,⟨55,4,d.soft.toNat⟩].map KW) [⟨T3,(Jl [⟨6,1,b1 d.r⟩,⟨7,1,b1 d.w⟩,⟨55,4,d.soft.toNat⟩]).toArray,330⟩,⟨B,#[.int .i64 stage,.int .i64 (level:Int),.int .i64 d.kind,.int .i64 d.frame,.bool d.r,.bool d.w,.bool d.x,.bool d.af,.bool d.ng,.int .i64 d.soft,.int .i64 d.note],257⟩] hA' be7 (fun v2 ha2 hA2=>?_) be7 rfl (pz _) (bQ (m:=9) mh rfl) (hperm:=by (exact aJ))
     refine run ?_
     refine fin1 ?_
     have e:d.fields stage level=[⟨0,1,1⟩,⟨1,1,b1 (decide (level=3))⟩,⟨12,12,d.frame.toNat⟩,⟨10,1,b1 d.af⟩,⟨54,1,b1 (!d.x)⟩,⟨6,1,b1 d.r⟩,⟨7,1,b1 d.w⟩,⟨55,4,d.soft.toNat⟩]:=by simp only [DsD.fields,hk0,ou,h1',cond_false,cond_true]
     rw [e]
     exact ⟨ha2,hA2,by (exact aj)⟩
  ·rw [hlv,← hfz]
   cases decide (d.kind=1)<;>cases decide (level=3)<;>rfl
theorem xX (stage:Int) (hs:stage=1∨stage=2) (level:Nat) (hl:level<4) (d:DsD) (w:World):Fn Tryz.prog 161 [.int .i64 stage,.int .i64 (level:Int),sU d].toArray w [] (fun u _=>u=.int .i64 (bif d.may stage level then 0 else 1)):=by
 refine enter Tryz.func161 ?_
 refine run ?_
 intro B C
 refine aI ?_
 refine ak (fun wc hG=>ve stage hs level hl wc) ?_
 refine aI ?_
 refine dO (fun hg wc hG=>ah7 stage hs level hl d wc) ?_
 refine aI ?_
 refine ah _ rfl (fun hc=>?_) (fun hc=>?_)
 ·refine run ?_
  refine fin1 ?_
  have:d.may stage level=false:=by simpa using hc
  rw [this];rfl
 ·refine run ?_
  refine fin1 ?_
  have:d.may stage level=true:=by simpa using hc
  rw [this];rfl
theorem GY (stage:Int) (hs:stage=1∨stage=2) (level:Nat) (hl:level<4) (d:DsD) (w:World):Fn Tryz.prog 76 [.int .i64 stage,.int .i64 (level:Int),sU d].toArray w [] (fun u _=>u=.tuple #[.int .u64 (bif d.may stage level then (d.word stage level:Int) else 0),.int .i64 (bif d.may stage level then 0 else 1)]):=by
 refine enter Tryz.func76 ?_
 refine run ?_
 intro B
 refine ak (fun wc hG=>xX stage hs level hl d wc) ?_
 cases hm:d.may stage level with
 | false=>
  simp only [cond_false]
  refine az ?_
  exact fin2 rfl
 | true=>
  simp only [cond_true]
  refine az ?_
  refine dJ (fun wc hG=>QE stage hs level hl d hm wc) ?_
  rintro v hn ⟨h1,hO,hle⟩
  refine aP h1 (cnt1 hle) ?_
  refine ak (fun wc hG=>YE _ (DsD.vg hm) (hO.lie hG.here (by rw [List.length_map];exact Nat.le_trans (DsD.LY stage level d) be6))) ?_
  rw [DsD.GU]
  refine run ?_
  exact fin2 rfl
theorem Jn (ai:Int) (v a:Nat) (hai:ai=(a:Int)) (ha:a≤63) (hv:v<18446744073709551616) (B:Nat) (w:World) (hB:w.cell? ⟨B,0,none⟩=some (.int .u64 (v:Int))):Fn Tryz.prog 319 [.int .i64 ai,.pointer (some ⟨B,0,none⟩)].toArray w [] (fun u _=>u=.bool (decide (cO v a 1=1))):=by
 subst hai
 exact at1 v a ha hv B w hB
theorem Good.cell1 {w0 w:World} {mu:List Nat} {hp:Hp} (hG:Good w0 mu hp w) {b t:Nat} {v:Value} (h:(⟨b,#[v],t⟩:o8)∈hp):w.cell? ⟨b,0,none⟩=some v:=by
 rw [cell_of_block (hG.here _ h)];rfl
theorem U5 (stage:Int) (hs:stage=1∨stage=2) (level:Nat) (hl:level<4) (v:Nat) (hv:v<18446744073709551616) (w:World):Fn Tryz.prog 253 [.agg #[.int .i64 stage,.int .i64 (level:Int)],.int .u64 (v:Int)].toArray w [] (fun u _=>u=sU (gy stage level v)):=by
 have hlv:decide ((level:Int)=3)=decide (level=3):=by rw [Bool.eq_iff_iff,decide_eq_true_eq,decide_eq_true_eq];omega
 refine enter Tryz.func253 ?_
 refine run ?_
 intro B C D
 refine jM (fs:=[]) (vs:=[.int .i64 0]) (us:=[.pointer (some ⟨C,0,none⟩)]) (fun wc hG=>Jn 0 v 0 rfl be6 hv C wc (hG.cell1 (t:=47) be7)) ?_
 refine run ?_
 refine ah _ rfl (fun h0=>?_) (fun h0=>?_)
 ·have h0':(!decide (cO v 0 1=1))=true:=h0
  refine run ?_
  refine ak (fun wc hG=>xR v 4 4 be6 be6 be6 hv wc) ?_
  refine run ?_
  refine eF ?_
  rw [gy,h0',cond_true]
  rfl
 ·have h0':(!decide (cO v 0 1=1))=false:=by simpa using h0
  refine run ?_
  refine jM (fs:=[]) (vs:=[.int .i64 1]) (us:=[.pointer (some ⟨C,0,none⟩)]) (fun wc hG=>Jn 1 v 1 rfl be6 hv C wc (hG.cell1 (t:=47) be7)) ?_
  refine aI ?_
  refine ah _ rfl (fun h1=>?_) (fun h1=>?_)
  ·rw [hlv] at h1
   refine run ?_
   refine ak (fun wc hG=>xR v 12 12 be6 be6 be6 hv wc) ?_
   refine run ?_
   refine eF ?_
   rw [gy,h0',cond_false,h1]
   rfl
  ·have h1':(decide (cO v 1 1=1) && !decide ((level:Int)=3))=false:=by simpa using h1
   rw [hlv] at h1'
   refine run ?_
   refine ak (fun wc hG=>xR v 12 12 be6 be6 be6 hv wc) ?_
   refine run ?_
   refine jM (fs:=[]) (vs:=[.int .i64 10]) (us:=[.pointer (some ⟨C,0,none⟩)]) (fun wc hG=>Jn 10 v 10 rfl be6 hv C wc (hG.cell1 (t:=47) be7)) ?_
   refine run ?_
   refine jM (fs:=[]) (vs:=[.int .i64 54]) (us:=[.pointer (some ⟨C,0,none⟩)]) (fun wc hG=>Jn 54 v 54 rfl be6 hv C wc (hG.cell1 (t:=47) be7)) ?_
   refine run ?_
   intro E
   refine run ?_
   refine ah _ rfl (fun hst=>?_) (fun hst=>?_)
   ·have hst':decide (stage=1)=true:=hst
    refine run ?_
    refine jM (fs:=[]) (vs:=[.int .i64 7]) (us:=[.pointer (some ⟨C,0,none⟩)]) (fun wc hG=>Jn 7 v 7 rfl be6 hv C wc (hG.cell1 (t:=47) be7)) ?_
    refine run ?_
    refine jM (fs:=[]) (vs:=[.int .i64 11]) (us:=[.pointer (some ⟨C,0,none⟩)]) (fun wc hG=>Jn 11 v 11 rfl be6 hv C wc (hG.cell1 (t:=47) be7)) ?_
    refine run ?_
    refine eF ?_
    rw [gy,h0',cond_false,h1',cond_false,hst',cond_true]
    rfl
   ·have hst':decide (stage=1)=false:=by simpa using hst
    refine run ?_
    refine aa4 8 [⟨D,#[.int .i64 0,.int .i64 0,.bool false,.bool false,.bool false,.bool false,.bool false,.int .i64 0,.int .i64 0],124⟩,⟨C,#[.int .u64 (v:Int)],47⟩,⟨B,#[.int .i64 stage,.int .i64 (level:Int)],255⟩] ?_
    refine UA ?_
    refine Uw be8 bg4 (xw (fs:=[]) (vs:=[.int .i64 6]) (us:=[.pointer (some ⟨C,0,none⟩)]) (fC 319 rfl) rfl rfl (fun wc hG=>Jn 6 v 6 rfl be6 hv C wc (hG.cell1 (t:=47) be7))) ?_
    refine UA ?_
    refine aa2 be8 bg4 (fun hx=>xw (fs:=[]) (vs:=[.int .i64 7]) (us:=[.pointer (some ⟨C,0,none⟩)]) (fC 319 rfl) rfl rfl (fun wc hG=>Jn 7 v 7 rfl be6 hv C wc (hG.cell1 (t:=47) be7))) ?_
    refine UA ?_
    refine af9 (fun wc hG=>xR v 55 4 be6 be6 be6 hv wc) ?_
    refine UA ?_
    refine run ?_
    refine eF ?_
    rw [gy,h0',cond_false,h1',cond_false,hst',cond_false]
    rfl
theorem aa9 (stage:Int) (hs:stage=1∨stage=2) (level:Nat) (hl:level<4) (v:Nat) (hv:v<18446744073709551616) (w:World):Fn Tryz.prog 168 [.int .i64 stage,.int .i64 (level:Int),.int .u64 (v:Int)].toArray w [] (fun u _=>u=.tuple #[sU (Ej stage level v),.int .i64 0]):=by
 refine enter Tryz.func168 ?_
 refine run ?_
 intro B C
 refine ak (fun wc hG=>ve stage hs level hl wc) ?_
 refine az ?_
 refine ak (fun wc hG=>U5 stage hs level hl v hv wc) ?_
 refine run ?_
 intro D
 refine run ?_
 refine ak (fun wc hG=>GY stage hs level hl _ wc) ?_
 refine aI ?_
 have hm2:∀ b:Bool,decide ((bif b then (0:Int) else 1)=0)=b:=by decide
 refine ah _ rfl (fun hc=>?_) (fun hc=>?_)
 ·refine run ?_
  refine jl ?_
  have:Ej stage level v=dN:=by
   unfold Ej
   rw [hm2] at hc
   cases hm:(gy stage level v).may stage level
   ·rfl
   ·rw [hm] at hc
    have hne:¬ (gy stage level v).word stage level=v:=by simpa [Int.ofNat_inj] using hc
    simp [hne]
  rw [this]
  rfl
 ·refine run ?_
  refine jl ?_
  have:Ej stage level v=gy stage level v:=by
   unfold Ej
   rw [hm2] at hc
   cases hm:(gy stage level v).may stage level
   ·rw [hm] at hc;simp at hc
   ·rw [hm] at hc
    have he:(gy stage level v).word stage level=v:=by simpa [Int.ofNat_inj] using hc
    simp [he]
  rw [this]
end
abbrev uV (x:Nat):List Value:=[.int .u64 (x:Int)]
abbrev dsR (d:DsD):List Value:=[.int .i64 d.kind,.int .i64 d.frame,.bool d.r,.bool d.w,.bool d.x,.bool d.af,.bool d.ng,.int .i64 d.soft,.int .i64 d.note]
section
attribute [local irreducible] Hy St Ops DH dG
theorem Jo {w:World} (xs:List Nat) (v:Value) (h:aF w v 1 (xs.map uV)) (hl:xs.length<1000000):Fn Tryz.prog 94 [v].toArray w [] (fun u hp=>Acc 47 1 u hp (xs.map uV)):=by
 obtain ⟨q,cap,rfl,hne,hle⟩:=h.opened
 refine enter Tryz.func94 ?_
 refine run ?_
 refine aX (σ:=Nat × Value × Hp) (fun s=>[(3,s.2.1),(4,.int .i64 (s.1:Int))]) (fun s=>s.2.2) (fun s=>s.1≤xs.length∧Acc 47 1 s.2.1 s.2.2 ((xs.take s.1).map uV)) (fun s=>xs.length - s.1) (0,_,[]) ⟨by omega,Acc.nil _ _⟩ ?_
 rintro ⟨k,v,ha⟩ m hm ⟨hk,hA⟩
 dsimp only at hm hk hA ⊢
 refine run ?_
 refine ah _ rfl (fun hc=>?_) (fun hc=>?_)
 ·have hlt:k<xs.length:=by simp at hc;omega
  obtain ⟨b,o,rfl⟩:=hne be'
  have h1:=au (h.row hlt)
  simp only [uV,Nat.mul_one] at h1
  refine run ?_
  intro T
  refine kX (c:=uV (xs.getD k default)) hA (fun v' ha' hA'=>?_) bf2 (bQ (m:=1) mh rfl)
  refine run ?_
  refine aK (k + 1,v',ha') ⟨hlt,?_⟩
  dsimp only
  rw [iM hlt,List.map_append]
  exact hA'
 ·have:k=xs.length:=by simp at hc;omega
  subst this
  refine run ?_
  refine fin1 ?_
  simpa using hA
theorem Em {w:World} (xs:List Int) (v:Value) (h:aF w v 1 (xs.map dA)) (hl:xs.length<1000000):Fn Tryz.prog 146 [v].toArray w [] (fun u hp=>Acc 3 1 u hp (xs.map dA)):=by
 obtain ⟨q,cap,rfl,hne,hle⟩:=h.opened
 refine enter Tryz.func146 ?_
 refine run ?_
 refine aX (σ:=Nat × Value × Hp) (fun s=>[(3,s.2.1),(4,.int .i64 (s.1:Int))]) (fun s=>s.2.2) (fun s=>s.1≤xs.length∧Acc 3 1 s.2.1 s.2.2 ((xs.take s.1).map dA)) (fun s=>xs.length - s.1) (0,_,[]) ⟨by omega,Acc.nil _ _⟩ ?_
 rintro ⟨k,v,ha⟩ m hm ⟨hk,hA⟩
 dsimp only at hm hk hA ⊢
 refine run ?_
 refine ah _ rfl (fun hc=>?_) (fun hc=>?_)
 ·have hlt:k<xs.length:=by simp at hc;omega
  obtain ⟨b,o,rfl⟩:=hne be'
  have h1:=au (h.row hlt)
  simp only [dA,Nat.mul_one] at h1
  refine run ?_
  intro T
  refine kX (c:=dA (xs.getD k default)) hA (fun v' ha' hA'=>?_) bf2 (bQ (m:=1) mh rfl)
  refine run ?_
  refine aK (k + 1,v',ha') ⟨hlt,?_⟩
  dsimp only
  rw [iM hlt,List.map_append]
  exact hA'
 ·have:k=xs.length:=by simp at hc;omega
  subst this
  refine run ?_
  refine fin1 ?_
  simpa using hA
theorem pF {w:World} (v:Value) (xs:List (List Value)) (h:aF w v 1 xs) (hall:∀ c∈xs,c.length=1∧c.all (·.oneCell')=true) (hl:xs.length<1000000):Fn Tryz.prog 119 [v].toArray w [] (fun u hn=>Own 3 1 u hn xs):=by
 obtain ⟨⟨q,cap,rfl,hne⟩,_⟩:=h
 refine enter Tryz.func119 ?_
 refine run ?_
 refine ja be8 (lW ay rfl rfl) ?_
 refine run ?_
 refine ah _ rfl (fun hp=>?_) (fun hp=>?_)
 ·obtain rfl:xs=[]:=by
   rcases Classical.em (xs=[]) with h | h
   ·exact h
   ·obtain ⟨b,o,rfl,_⟩:=hne h;cases hp
  refine run ?_
  refine fin1 ?_
  exact ⟨by simp,.inl ⟨rfl,rfl,rfl⟩⟩
 refine run ?_
 refine gI ay be8 be8 (fun g=>?_)
 refine run ?_
 rcases Classical.em (xs=[]) with rfl | hx
 ·cases q with
  | none=>cases hp
  | some q=>
  refine ja be8 (gG ay (iE:=0) rfl rfl rfl (Nat.le_refl _)) ?_
  refine run ?_
  refine fin1 ?_
  exact ⟨by simp,.inr ⟨g,0,#[],rfl,rfl,⟨rfl,Nat.le_refl _,by decide,rfl,rfl⟩⟩⟩
 ·obtain ⟨b,o,rfl,hr⟩:=hne hx
  refine dZ ay be8 rfl ⟨rfl,Nat.le_refl _,by decide,rfl,rfl⟩ rfl rfl rfl rfl rfl rfl (.refl _) rfl hall hr be7 hl (fun v' ha' hA=>?_)
  refine run ?_
  refine fin1 ?_
  rw [List.append_nil]
  exact hA
theorem oz {w:World} (v:Value) (xs:List (List Value)) (h:aF w v 1 xs) (hall:∀ c∈xs,c.length=1∧c.all (·.oneCell')=true) (hl:xs.length<1000000):Fn Tryz.prog 114 [v].toArray w [] (fun u hn=>Own 47 1 u hn xs):=by
 obtain ⟨⟨q,cap,rfl,hne⟩,_⟩:=h
 refine enter Tryz.func114 ?_
 refine run ?_
 refine ja be8 (lW ay rfl rfl) ?_
 refine run ?_
 refine ah _ rfl (fun hp=>?_) (fun hp=>?_)
 ·obtain rfl:xs=[]:=by
   rcases Classical.em (xs=[]) with h | h
   ·exact h
   ·obtain ⟨b,o,rfl,_⟩:=hne h;cases hp
  refine run ?_
  refine fin1 ?_
  exact ⟨by simp,.inl ⟨rfl,rfl,rfl⟩⟩
 refine run ?_
 refine gI ay be8 be8 (fun g=>?_)
 refine run ?_
 rcases Classical.em (xs=[]) with rfl | hx
 ·cases q with
  | none=>cases hp
  | some q=>
  refine ja be8 (gG ay (iE:=0) rfl rfl rfl (Nat.le_refl _)) ?_
  refine run ?_
  refine fin1 ?_
  exact ⟨by simp,.inr ⟨g,0,#[],rfl,rfl,⟨rfl,Nat.le_refl _,by decide,rfl,rfl⟩⟩⟩
 ·obtain ⟨b,o,rfl,hr⟩:=hne hx
  refine dZ ay be8 rfl ⟨rfl,Nat.le_refl _,by decide,rfl,rfl⟩ rfl rfl rfl rfl rfl rfl (.refl _) rfl hall hr be7 hl (fun v' ha' hA=>?_)
  refine run ?_
  refine fin1 ?_
  rw [List.append_nil]
  exact hA
theorem LZ {w:World} (a:Int) (xs:List Int) (v:Value) (h:aF w v 1 (xs.map dA)):
  Fn Tryz.prog 171 [v,.int .i64 a].toArray w [] (fun u _=>u=.int .i64 (jb (fun t=>decide (t=a)) xs)):=by
 obtain ⟨q,cap,rfl,hne,hle⟩:=h.opened
 refine enter Tryz.func171 ?_
 refine run ?_
 refine aX (σ:=Nat) (fun k=>[(8,.int .i64 (k:Int))]) (fun _=>[]) (fun k=>k≤xs.length∧∀ j,j<k→decide (xs.getD j default=a)=false) (fun k=>xs.length - k) 0 ⟨Nat.zero_le _,fun j hj=>absurd hj be5⟩ ?_
 rintro k m rfl ⟨hk,hno⟩
 refine run ?_
 refine ah _ rfl (fun hc=>?_) (fun hc=>?_)
 ·have hlt:k<xs.length:=by simpa using hc
  obtain ⟨b,o,rfl⟩:=hne be'
  have hr:=au (h.row hlt)
  have hr1:=hr
  simp only [Nat.mul_one] at hr1
  refine run ?_
  refine ah _ rfl (fun hp=>?_) (fun hp=>?_)
  ·refine run ?_
   refine fin1 ?_
   rw [fB hlt (by simpa [eq_comm] using hp) hno]
  ·refine run ?_
   refine aK (k + 1) ⟨hlt,fun j hj=>?_⟩
   rcases Nat.lt_succ_iff_lt_or_eq.1 hj with hj | rfl
   ·exact hno j hj
   ·simpa [eq_comm] using hp
 ·have hge:k=xs.length:=by simp at hc;omega
  subst hge
  refine run ?_
  refine fin1 ?_
  rw [dF hno]
theorem jg {w:World} (a:Int) (xs:List Int) (v:Value) (h:aF w v 1 (xs.map dA)):
  Fn Tryz.prog 85 [v,.int .i64 a].toArray w [] (fun u _=>u=.bool (xs.any fun t=>decide (t=a))):=by
 refine enter Tryz.func85 ?_
 refine run ?_
 refine ak (fun wc hG=>LZ a xs v (h.good hG)) ?_
 refine run ?_
 refine fin1 ?_
 rw [← iY]
theorem OO (n m:Int) (w:World):Fn Tryz.prog 138 [.int .i64 n,.int .i64 m].toArray w [] (fun u _=>u=.bool (decide (0≤n) && decide (n≤m))):=by
 refine enter Tryz.func138 ?_
 refine aI ?_
 exact fin1 rfl
theorem at7 {w:World} (a:Int) (xs:List Int) (v:Value) (h:aF w v 1 (xs.map dA)):
  Fn Tryz.prog 100 [v,.int .i64 a].toArray w [] (fun u _=>u=.int .i64 (jb (fun t=>decide (t=a)) xs)):=by
 obtain ⟨q,cap,rfl,hne,hle⟩:=h.opened
 refine enter Tryz.func100 ?_
 refine run ?_
 refine aX (σ:=Nat) (fun k=>[(5,.int .i64 (k:Int))]) (fun _=>[]) (fun k=>k≤xs.length∧∀ j,j<k→decide (xs.getD j default=a)=false) (fun k=>xs.length - k) 0 ⟨Nat.zero_le _,fun j hj=>absurd hj be5⟩ ?_
 rintro k m rfl ⟨hk,hno⟩
 refine run ?_
 refine ah _ rfl (fun hc=>?_) (fun hc=>?_)
 ·have hlt:k<xs.length:=by simpa using hc
  obtain ⟨b,o,rfl⟩:=hne be'
  have hr:=au (h.row hlt)
  simp only [Nat.mul_one] at hr
  refine run ?_
  refine ah _ rfl (fun hp=>?_) (fun hp=>?_)
  ·refine run ?_
   refine fin1 ?_
   rw [fB hlt hp hno]
  ·refine run ?_
   refine aK (k + 1) ⟨hlt,fun j hj=>?_⟩
   rcases Nat.lt_succ_iff_lt_or_eq.1 hj with hj | rfl
   ·exact hno j hj
   ·exact hp
 ·have hge:k=xs.length:=by simp at hc;omega
  subst hge
  refine run ?_
  refine fin1 ?_
  rw [dF hno]
def YH (ws:List Nat) (u:Value) (hn:Hp):Prop:=∃ v h1,u=.agg #[v]∧Own 47 1 v h1 (ws.map uV)∧aC h1 hn
theorem EZ {w:World} (xs:List Nat) (v:Value) (h:aF w v 1 (xs.map uV)) (hl:xs.length<1000000):Fn Tryz.prog 44 [.agg #[v]].toArray w [] (fun u hn=>YH xs u hn):=by
 obtain ⟨q,cap,rfl,_⟩:=h.opened
 refine enter Tryz.func44 ?_
 refine run ?_
 intro B
 refine run ?_
 intro X Y
 refine run ?_
 refine dJ (fun wc hG=>Jo xs _ (h.good hG) hl) (fun v' hn hA=>?_)
 obtain ⟨q2,cap2,rfl⟩:=hA.own.opened
 refine fJ (_++hn) List.perm_append_comm ?_
 simp only [List.cons_append,List.nil_append]
 refine run ?_
 refine eF ⟨_,_,rfl,hA.own,?_⟩
 (exact aj)
def fK (n:Nat):Bool:=decide (8≤n) && decide (n≤512) && decide (n % 8=0)
theorem dh {n:Nat} (h:fK n=true):8≤n∧n≤512∧n / 8 * 8=n∧n / 8≤64:=by
 simp only [fK,Bool.and_eq_true,decide_eq_true_eq] at h
 omega
theorem QF (n cap:Nat) (hn:n<4611686018427387904) (q:Option Addr) (w:World):Fn Tryz.prog 52 [.agg #[.slice q n cap]].toArray w [] (fun u _=>u=.int .i64 ((n / 8:Nat):Int)):=by
 refine enter Tryz.func52 ?_
 refine run ?_
 intro B
 refine run ?_
 refine ja be8 (uj rfl rfl n 8 be8 be8 be6 be5) ?_
 refine run ?_
 exact fin1 rfl
theorem U6 (n cap:Nat) (hn:n<4611686018427387904) (q:Option Addr) (w:World):Fn Tryz.prog 238 [.agg #[.slice q n cap]].toArray w [] (fun u _=>u=.bool (fK n)):=by
 refine enter Tryz.func238 ?_
 refine run ?_
 intro B
 refine aI ?_
 refine Xy (hy:=fun hg=>wu bf4 rfl n 8 be8 be8 be6) (h:=?_)
 refine aI ?_
 refine Xy (hy:=fun hg=>uj bf4 rfl n 8 be8 be8 be6 be5) (h:=?_)
 refine aI ?_
 refine fin1 ?_
 congr 1
 unfold fK
 have c1:decide ((0:Int)<(n:Int))=decide (0<n):=by rw [Bool.eq_iff_iff,decide_eq_true_eq,decide_eq_true_eq];omega
 have c2:decide (((n / 8:Nat):Int)≤64)=decide (n / 8≤64):=by rw [Bool.eq_iff_iff,decide_eq_true_eq,decide_eq_true_eq];omega
 have c3:decide (((n % 8:Nat):Int)=0)=decide (n % 8=0):=by rw [Bool.eq_iff_iff,decide_eq_true_eq,decide_eq_true_eq];omega
 rw [c1,c2,c3,Bool.eq_iff_iff]
 simp only [Bool.and_eq_true,decide_eq_true_eq]
 omega
theorem xY (n cap:Nat) (hn:n<4611686018427387904) (q:Option Addr) (w:World):Fn Tryz.prog 148 [.agg #[.slice q n cap]].toArray w [] (fun u _=>u=.int .i64 (bif fK n then 0 else 1)):=by
 refine enter Tryz.func148 ?_
 refine run ?_
 intro B
 refine run ?_
 refine ak (fun wc hG=>U6 n cap hn q wc) ?_
 refine run ?_
 refine ah _ rfl (fun hc=>?_) (fun hc=>?_)
 ·refine run ?_
  refine fin1 ?_
  have:fK n=false:=by simpa using hc
  rw [this];rfl
 ·refine run ?_
  refine fin1 ?_
  have:fK n=true:=by simpa using hc
  rw [this];rfl
theorem OQ (p:Int) (w:World):Fn Tryz.prog 193 [.int .i64 p].toArray w [] (fun u _=>u=.bool (PtD.di p 0 4095)):=by
 refine enter Tryz.func193 ?_
 refine run ?_
 refine ak (fun wc hG=>OO p 4095 wc) ?_
 refine run ?_
 exact fin1 rfl
theorem Ba (stage:Int) (hs:stage=1∨stage=2) (level:Nat) (hl:level<4) (d:DsD) (w:World):Fn Tryz.prog 263 [.int .i64 stage,.int .i64 (level:Int),sU d].toArray w [] (fun u _=>u=.bool (d.may stage level)):=by
 have hlv:decide ((level:Int)<3)=decide (level<3):=by rw [Bool.eq_iff_iff,decide_eq_true_eq,decide_eq_true_eq];omega
 have hlp:decide ((0:Int)<(level:Int))=decide (0<level):=by rw [Bool.eq_iff_iff,decide_eq_true_eq,decide_eq_true_eq];omega
 have h9:=jc hl
 refine enter Tryz.func263 ?_
 refine run ?_
 intro B
 refine run ?_
 refine ah _ rfl (fun hk=>?_) (fun hk=>?_)
 ·have hk0:d.kind=0:=by simpa using hk
  refine aI ?_
  refine dO (fun hg wc hG=>OO d.note 15 wc) ?_
  refine aI ?_
  refine fin1 ?_
  rw [CY d 0 0 d.note hk0]
  rcases hs with rfl | rfl<;>simp only [DsD.may,hk0,decide_true,cond_true,PtD.di,Bool.and_true]
  ·cases d.bare<;>cases hz:decide (d.note=0)<;>simp_all
  ·cases d.bare<;>cases hz:decide (d.note=0)<;>simp_all
 ·have hk0:decide (d.kind=0)=false:=by simpa using hk
  refine run ?_
  refine ah _ rfl (fun hk1=>?_) (fun hk1=>?_)
  ·have ou:d.kind=1:=by simpa using hk1
   refine aI ?_
   refine dO (fun hg wc hG=>OQ d.frame wc) ?_
   refine aI ?_
   refine fin1 ?_
   rw [CY d 1 d.frame 0 ou,hlv]
   simp only [DsD.may,ou,decide_true,cond_true,show decide ((1:Int)=0)=false from rfl,cond_false,Bool.true_and]
   cases decide (level<3)<;>cases d.bare<;>cases decide (d.note=0)<;>rfl
  ·have ou:decide (d.kind=1)=false:=by simpa using hk1
   refine run ?_
   refine ah _ rfl (fun hk2=>?_) (fun hk2=>?_)
   ·have Jk:d.kind=2:=by simpa using hk2
    refine run ?_
    intro A
    refine dL 47 ?_
    refine bP ?_
    refine ig (fun hg wc hG=>OQ d.frame wc) ?_
    refine bP ?_
    refine ig (fun hg wc hG=>EW level hl wc) ?_
    refine Qr (hy:=fun hg=>wu bf4 bf4 d.frame.toNat (aB level) (by simp [iH,PtD.di] at hg;omega) be8 be5) (h:=?_)
    refine bP ?_
    refine OE (fun hg0 hg1 wc hG=>OO d.soft 15 wc) ?_
    refine bP ?_
    refine run ?_
    refine run ?_
    refine fin1 ?_
    rw [hlp]
    have hz:decide (((d.frame.toNat % aB level:Nat):Int)=0)=decide (d.frame.toNat % aB level=0):=by rw [Bool.eq_iff_iff,decide_eq_true_eq,decide_eq_true_eq];omega
    rw [hz]
    simp only [DsD.may,Jk,decide_true,cond_true,show decide ((2:Int)=0)=false from rfl,show decide ((2:Int)=1)=false from rfl,cond_false]
    rcases hs with rfl | rfl
    ·cases decide (0<level)<;>cases PtD.di d.frame 0 4095<;>cases decide (d.frame.toNat % aB level=0)<;>cases decide (d.note=0)<;>cases d.r<;>cases decide (d.soft=0)<;>rfl
    ·simp only [PtD.di]
     cases decide (0<level)<;>cases decide (d.frame.toNat % aB level=0)<;>cases decide (d.note=0)<;>cases d.ng<;>cases decide (0≤d.soft)<;>cases decide (d.soft≤15)<;>cases decide (0≤d.frame)<;>cases decide (d.frame≤4095)<;>rfl
   ·refine run ?_
    refine fin1 ?_
    have Jk:decide (d.kind=2)=false:=by simpa using hk2
    simp [DsD.may,hk0,ou,Jk]
theorem xZ (stage:Int) (hs:stage=1∨stage=2) (level:Nat) (hl:level<4) (d:DsD) (hm:d.may stage level=true) (w:World):Fn Tryz.prog 236 [.int .i64 stage,.int .i64 (level:Int),sU d].toArray w [] (fun u _=>u=.int .u64 (d.word stage level:Int)):=by
 have hlv:decide ((level:Int)=3)=decide (level=3):=by rw [Bool.eq_iff_iff,decide_eq_true_eq,decide_eq_true_eq];omega
 obtain ⟨k1,k2,k3,k4⟩:=lX hm
 have hf:0≤d.frame∧d.frame≤4095:=by
  rcases k1 with e | e | e
  ·have:=k2 e;omega
  ·have:=k3 e;omega
  ·have:=k4 e;omega
 have hf0:=hf.1
 have hf1:=hf.2
 have hfz:((d.frame.toNat:Nat):Int)=d.frame:=by omega
 refine enter Tryz.func236 ?_
 refine run ?_
 intro B
 refine run ?_
 refine ah _ rfl (fun hk=>?_) (fun hk=>?_)
 ·have hk0:d.kind=0:=by simpa using hk
  have hn0:=(k2 hk0).2.1
  have hn1:=(k2 hk0).2.2
  have hnz:((d.note.toNat:Nat):Int)=d.note:=by omega
  refine run ?_
  refine ja be8 (yZ rfl rfl d.note.toNat 4 hnz.symm be8 be6) ?_
  refine run ?_
  refine fin1 ?_
  rw [DsD.QB stage level d hk0]
 ·have hk0:decide (d.kind=0)=false:=by simpa using hk
  refine run ?_
  refine drawM 14 [0,1,2,3,4,5,6,7,8,9,10,11,12] [13] [] ?_
  refine jA rfl (fun hx2=>fF (fC 311 rfl) rfl (fun wc hG=>uy 0 true wc)) ?_
  refine fU ?_
  refine ag5 (hy:=fun hx2 hg=>FZ rfl) (h:=?_)
  refine ag5 (v:=.bool (decide ((level:Int)=3))) (hy:=fun hx2 hg=>?_) (h:=?_)
  ·exact TL bf4 rfl
  refine fU ?_
  refine jA rfl (fun hx2=>fF (fC 311 rfl) rfl (fun wc hG=>uy 1 _ wc)) ?_
  refine fU ?_
  refine eBS (Jl [⟨0,1,1⟩,⟨1,1,b1 (decide (d.kind=1) || decide (level=3))⟩,⟨12,12,d.frame.toNat⟩]) (h:=?_) (hn:=?_)
  ·refine jS ?_
   simp only [DN]
   rintro _ hn ⟨T,rfl,rfl⟩
   refine iW ?_
   refine qU ?_
   simp only [List.cons_append,List.nil_append,List.append_nil]
   refine run ?_
   refine ah _ rfl (fun hk1=>?_) (fun hk1=>?_)
   ·have hk2:d.kind=2:=by simpa using hk1
    have ou:decide (d.kind=1)=false:=by rw [hk2];rfl
    simp only [ou,Bool.false_or]
    refine run ?_
    refine drawM 11 [0,1,2,3,4,5,6,7,8,9] [10] [] ?_
    refine fU ?_
    refine jA rfl (fun hx2=>fF (fC 311 rfl) rfl (fun wc hG=>uy 10 _ wc)) ?_
    refine fU ?_
    refine jA rfl (fun hx2=>fF (fC 311 rfl) rfl (fun wc hG=>uy 54 _ wc)) ?_
    refine fU ?_
    refine eBS (Jl [⟨10,1,b1 d.af⟩,⟨54,1,b1 (!d.x)⟩]) (h:=?_) (hn:=by cases d.af<;>cases d.x<;>rfl)
    refine jS ?_
    simp only [DN]
    rintro _ hn ⟨T2,rfl,rfl⟩
    refine iW ?_
    refine qU ?_
    simp only [List.cons_append,List.nil_append,List.append_nil]
    refine uY (m:=2) ([⟨10,1,b1 d.af⟩,⟨54,1,b1 (!d.x)⟩].map KW) [⟨T2,(Jl [⟨10,1,b1 d.af⟩,⟨54,1,b1 (!d.x)⟩]).toArray,330⟩,⟨B,#[.int .i64 d.kind,.int .i64 d.frame,.bool d.r,.bool d.w,.bool d.x,.bool d.af,.bool d.ng,.int .i64 d.soft,.int .i64 d.note],124⟩] (A8 T 3 [⟨0,1,1⟩,⟨1,1,b1 (decide (level=3))⟩,⟨12,12,d.frame.toNat⟩]) be7 (fun v' ha' hA'=>?_) be7 rfl (pz _) (bQ (m:=6) mh rfl) (hperm:=by (exact aJ))
    refine aP (⟨B,#[.int .i64 d.kind,.int .i64 d.frame,.bool d.r,.bool d.w,.bool d.x,.bool d.af,.bool d.ng,.int .i64 d.soft,.int .i64 d.note],124⟩::ha') aj ?_
    obtain ⟨q,cap,rfl⟩:=hA'.opened
    refine run ?_
    refine ah _ rfl (fun h1=>?_) (fun h1=>?_)
    ·have h1':decide (stage=1)=true:=h1
     refine run ?_
     refine drawM 11 [0,1,2,3,4,5,6,7,8,9] [10] [] ?_
     refine fU ?_
     refine jA rfl (fun hx2=>fF (fC 311 rfl) rfl (fun wc hG=>uy 7 _ wc)) ?_
     refine fU ?_
     refine jA rfl (fun hx2=>fF (fC 311 rfl) rfl (fun wc hG=>uy 11 _ wc)) ?_
     refine fU ?_
     refine eBS (Jl [⟨7,1,b1 (!d.w)⟩,⟨11,1,b1 d.ng⟩]) (h:=?_) (hn:=by cases d.w<;>cases d.ng<;>rfl)
     refine jS ?_
     simp only [DN]
     rintro _ hn ⟨T3,rfl,rfl⟩
     refine iW ?_
     refine qU ?_
     simp only [List.cons_append,List.nil_append,List.append_nil]
     refine uY (m:=2) ([⟨7,1,b1 (!d.w)⟩,⟨11,1,b1 d.ng⟩].map KW) [⟨T3,(Jl [⟨7,1,b1 (!d.w)⟩,⟨11,1,b1 d.ng⟩]).toArray,330⟩,⟨B,#[.int .i64 d.kind,.int .i64 d.frame,.bool d.r,.bool d.w,.bool d.x,.bool d.af,.bool d.ng,.int .i64 d.soft,.int .i64 d.note],124⟩] hA' be7 (fun v2 ha2 hA2=>?_) be7 rfl (pz _) (bQ (m:=6) mh rfl) (hperm:=by (exact aJ))
     refine run ?_
     have e:d.fields stage level=[⟨0,1,1⟩,⟨1,1,b1 (decide (level=3))⟩,⟨12,12,d.frame.toNat⟩,⟨10,1,b1 d.af⟩,⟨54,1,b1 (!d.x)⟩,⟨7,1,b1 (!d.w)⟩,⟨11,1,b1 d.ng⟩]:=by simp only [DsD.fields,hk0,ou,h1',cond_false,cond_true]
     obtain ⟨q2,cap2,rfl⟩:=hA2.opened
     have hfo:=DsD.vg hm
     rw [e] at hfo
     refine ak (fun wc hG=>GR _ hfo (hA2.lie (fun b hb=>hG.here _ (List.mem_append_left _ hb)) be7)) ?_
     refine run ?_
     refine fin1 ?_
     rw [DsD.word,e]
    ·have h1':decide (stage=1)=false:=by simpa using h1
     have hso:=Jm hm hk2 h1'
     have hs0:=hso.1
     have hs1:=hso.2
     have hsz:((d.soft.toNat:Nat):Int)=d.soft:=by omega
     refine run ?_
     refine drawM 15 [0,1,2,3,4,5,6,7,8,9,10,11,12,13] [14] [] ?_
     refine fU ?_
     refine jA rfl (fun hx2=>fF (fC 311 rfl) rfl (fun wc hG=>uy 6 _ wc)) ?_
     refine fU ?_
     refine jA rfl (fun hx2=>fF (fC 311 rfl) rfl (fun wc hG=>uy 7 _ wc)) ?_
     refine fU ?_
     refine eBS (Jl [⟨6,1,b1 d.r⟩,⟨7,1,b1 d.w⟩,⟨55,4,d.soft.toNat⟩]) (h:=?_) (hn:=by rw [← hsz];cases d.r<;>cases d.w<;>rfl)
     refine jS ?_
     simp only [DN]
     rintro _ hn ⟨T3,rfl,rfl⟩
     refine iW ?_
     refine qU ?_
     simp only [List.cons_append,List.nil_append,List.append_nil]
     refine uY (m:=3) ([⟨6,1,b1 d.r⟩,⟨7,1,b1 d.w⟩,⟨55,4,d.soft.toNat⟩].map KW) [⟨T3,(Jl [⟨6,1,b1 d.r⟩,⟨7,1,b1 d.w⟩,⟨55,4,d.soft.toNat⟩]).toArray,330⟩,⟨B,#[.int .i64 d.kind,.int .i64 d.frame,.bool d.r,.bool d.w,.bool d.x,.bool d.af,.bool d.ng,.int .i64 d.soft,.int .i64 d.note],124⟩] hA' be7 (fun v2 ha2 hA2=>?_) be7 rfl (pz _) (bQ (m:=9) mh rfl) (hperm:=by (exact aJ))
     refine run ?_
     have e:d.fields stage level=[⟨0,1,1⟩,⟨1,1,b1 (decide (level=3))⟩,⟨12,12,d.frame.toNat⟩,⟨10,1,b1 d.af⟩,⟨54,1,b1 (!d.x)⟩,⟨6,1,b1 d.r⟩,⟨7,1,b1 d.w⟩,⟨55,4,d.soft.toNat⟩]:=by simp only [DsD.fields,hk0,ou,h1',cond_false,cond_true]
     obtain ⟨q2,cap2,rfl⟩:=hA2.opened
     have hfo:=DsD.vg hm
     rw [e] at hfo
     refine ak (fun wc hG=>GR _ hfo (hA2.lie (fun b hb=>hG.here _ (List.mem_append_left _ hb)) be7)) ?_
     refine run ?_
     refine fin1 ?_
     rw [DsD.word,e]
   ·have hk2:d.kind=1:=by
     simp at hk0 hk1
     rcases k1 with e | e | e
     ·exact absurd e hk0
     ·exact e
     ·exact absurd e hk1
    have ou:decide (d.kind=1)=true:=by rw [hk2];rfl
    simp only [ou,Bool.true_or,show b1 true=1 from rfl]
    refine run ?_
    have e:d.fields stage level=[⟨0,1,1⟩,⟨1,1,1⟩,⟨12,12,d.frame.toNat⟩]:=by simp only [DsD.fields,hk0,ou,cond_false,cond_true]
    have hfo:=DsD.vg hm
    rw [e] at hfo
    refine ak (fun wc hG=>GR _ hfo ((A8 T 3 _).lie (fun b hb=>hG.here _ (List.mem_append_left _ hb)) be7)) ?_
    refine run ?_
    refine fin1 ?_
    rw [DsD.word,e]
  ·rw [hlv,← hfz]
   cases decide (d.kind=1)<;>cases decide (level=3)<;>rfl
theorem mZ {stage:Int} {level v:Nat} {D:DsD} (hD:gy stage level v=D):Ej stage level v=bif (!D.may stage level || !decide ((D.word stage level:Int)=(v:Int))) then dN else D:=by
 unfold Ej
 rw [hD]
 have:decide ((D.word stage level:Int)=(v:Int))=decide (D.word stage level=v):=by rw [Bool.eq_iff_iff,decide_eq_true_eq,decide_eq_true_eq];omega
 rw [this]
 cases D.may stage level<;>cases decide (D.word stage level=v)<;>rfl
theorem au0 (stage:Int) (hs:stage=1∨stage=2) (level:Nat) (hl:level<4) (v:Nat) (hv:v<18446744073709551616) (w:World):Fn Tryz.prog 190 [.int .i64 stage,.int .i64 (level:Int),.int .u64 (v:Int)].toArray w [] (fun u _=>u=sU (Ej stage level v)):=by
 have hlv:decide ((level:Int)<3)=!decide (level=3):=by rw [Bool.eq_iff_iff,decide_eq_true_eq];simp;omega
 refine enter Tryz.func190 ?_
 refine run ?_
 intro B C
 refine run ?_
 refine ak (fun wc hG=>uw v 0 be6 hv wc) ?_
 refine run ?_
 refine ah _ rfl (fun h0=>?_) (fun h0=>?_)
 ·have h0':(!decide (cO v 0 1=1))=true:=h0
  have hD:gy stage level v=⟨0,0,false,false,false,false,false,0,(cO v 4 4:Int)⟩:=by rw [gy,h0',cond_true];rfl
  have hb:=AZ v 4 4 be6
  refine run ?_
  refine ak (fun wc hG=>GN v 4 4 be6 be6 hv wc) ?_
  refine run ?_
  refine ak (fun wc hG=>Ba stage hs level hl (⟨0,0,false,false,false,false,false,0,(cO v 4 4:Int)⟩) wc) ?_
  refine aI ?_
  refine dO (b:=!DsD.may stage level (⟨0,0,false,false,false,false,false,0,(cO v 4 4:Int)⟩)) (fun hg wc hG=>xZ stage hs level hl (⟨0,0,false,false,false,false,false,0,(cO v 4 4:Int)⟩) bk3 wc) ?_
  refine aI ?_
  refine ah _ rfl (fun hc=>?_) (fun hc=>?_)
  ·refine run ?_
   refine eF ?_
   rw [mZ hD,hc]
   rfl
  ·refine run ?_
   refine eF ?_
   rw [mZ hD,hc]
   rfl
 ·have h0':(!decide (cO v 0 1=1))=false:=by simpa using h0
  have hb:=AZ v 12 12 be6
  refine run ?_
  refine ak (fun wc hG=>uw v 1 be6 hv wc) ?_
  refine aI ?_
  refine ah _ rfl (fun h1=>?_) (fun h1=>?_)
  ·rw [hlv] at h1
   have hD:gy stage level v=⟨1,(cO v 12 12:Int),false,false,false,false,false,0,0⟩:=by rw [gy,h0',cond_false,h1,cond_true];rfl
   refine run ?_
   refine ak (fun wc hG=>GN v 12 12 be6 be6 hv wc) ?_
   refine run ?_
   refine ak (fun wc hG=>Ba stage hs level hl (⟨1,(cO v 12 12:Int),false,false,false,false,false,0,0⟩) wc) ?_
   refine aI ?_
   refine dO (b:=!DsD.may stage level (⟨1,(cO v 12 12:Int),false,false,false,false,false,0,0⟩)) (fun hg wc hG=>xZ stage hs level hl (⟨1,(cO v 12 12:Int),false,false,false,false,false,0,0⟩) bk3 wc) ?_
   refine aI ?_
   refine ah _ rfl (fun hc=>?_) (fun hc=>?_)
   ·refine run ?_
    refine eF ?_
    rw [mZ hD,hc]
    rfl
   ·refine run ?_
    refine eF ?_
    rw [mZ hD,hc]
    rfl
  ·have h1':(decide (cO v 1 1=1) && decide ((level:Int)<3))=false:=by simpa using h1
   rw [hlv] at h1'
   refine run ?_
   refine ak (fun wc hG=>GN v 12 12 be6 be6 hv wc) ?_
   refine run ?_
   refine ak (fun wc hG=>uw v 10 be6 hv wc) ?_
   refine run ?_
   refine ak (fun wc hG=>uw v 54 be6 hv wc) ?_
   refine run ?_
   refine ah _ rfl (fun hst=>?_) (fun hst=>?_)
   ·have hst':decide (stage=1)=true:=hst
    have hD:gy stage level v=⟨2,(cO v 12 12:Int),true,!decide (cO v 7 1=1),!decide (cO v 54 1=1),decide (cO v 10 1=1),decide (cO v 11 1=1),0,0⟩:=by rw [gy,h0',cond_false,h1',cond_false,hst',cond_true];rfl
    refine run ?_
    refine ak (fun wc hG=>uw v 7 be6 hv wc) ?_
    refine run ?_
    refine ak (fun wc hG=>uw v 11 be6 hv wc) ?_
    refine run ?_
    refine ak (fun wc hG=>Ba stage hs level hl (⟨2,(cO v 12 12:Int),true,!decide (cO v 7 1=1),!decide (cO v 54 1=1),decide (cO v 10 1=1),decide (cO v 11 1=1),0,0⟩) wc) ?_
    refine aI ?_
    refine dO (b:=!DsD.may stage level (⟨2,(cO v 12 12:Int),true,!decide (cO v 7 1=1),!decide (cO v 54 1=1),decide (cO v 10 1=1),decide (cO v 11 1=1),0,0⟩)) (fun hg wc hG=>xZ stage hs level hl (⟨2,(cO v 12 12:Int),true,!decide (cO v 7 1=1),!decide (cO v 54 1=1),decide (cO v 10 1=1),decide (cO v 11 1=1),0,0⟩) bk3 wc) ?_
    refine aI ?_
    refine ah _ rfl (fun hc=>?_) (fun hc=>?_)
    ·refine run ?_
     refine eF ?_
     rw [mZ hD,hc]
     rfl
    ·refine run ?_
     refine eF ?_
     rw [mZ hD,hc]
     rfl
   ·have hst':decide (stage=1)=false:=by simpa using hst
    have hD:gy stage level v=⟨2,(cO v 12 12:Int),decide (cO v 6 1=1),decide (cO v 7 1=1),!decide (cO v 54 1=1),decide (cO v 10 1=1),false,(cO v 55 4:Int),0⟩:=by rw [gy,h0',cond_false,h1',cond_false,hst',cond_false];rfl
    have hb4:=AZ v 55 4 be6
    refine run ?_
    refine ak (fun wc hG=>uw v 6 be6 hv wc) ?_
    refine run ?_
    refine ak (fun wc hG=>uw v 7 be6 hv wc) ?_
    refine run ?_
    refine ak (fun wc hG=>GN v 55 4 be6 be6 hv wc) ?_
    refine run ?_
    refine ak (fun wc hG=>Ba stage hs level hl (⟨2,(cO v 12 12:Int),decide (cO v 6 1=1),decide (cO v 7 1=1),!decide (cO v 54 1=1),decide (cO v 10 1=1),false,(cO v 55 4:Int),0⟩) wc) ?_
    refine aI ?_
    refine dO (b:=!DsD.may stage level (⟨2,(cO v 12 12:Int),decide (cO v 6 1=1),decide (cO v 7 1=1),!decide (cO v 54 1=1),decide (cO v 10 1=1),false,(cO v 55 4:Int),0⟩)) (fun hg wc hG=>xZ stage hs level hl (⟨2,(cO v 12 12:Int),decide (cO v 6 1=1),decide (cO v 7 1=1),!decide (cO v 54 1=1),decide (cO v 10 1=1),false,(cO v 55 4:Int),0⟩) bk3 wc) ?_
    refine aI ?_
    refine ah _ rfl (fun hc=>?_) (fun hc=>?_)
    ·refine run ?_
     refine eF ?_
     rw [mZ hD,hc]
     rfl
    ·refine run ?_
     refine eF ?_
     rw [mZ hD,hc]
     rfl
end
section
def lu (ws:List Nat):Prop:=∀ x∈ws,x<18446744073709551616
theorem lu.at {ws:List Nat} (h:lu ws) (p:Nat):ws.getD p 0<18446744073709551616:=by
 rw [List.getD_eq_getElem?_getD]
 cases hp:ws[p]? with
 | none=>simp
 | some x=>exact h x (List.mem_of_getElem? hp)
theorem lu.set {ws:List Nat} (h:lu ws) {x:Nat} (hx:x<18446744073709551616) (p:Nat):lu (ws.set p x):=by
 intro y hy
 rcases List.mem_or_eq_of_mem_set hy with hy | rfl
 ·exact h y hy
 ·exact hx
theorem lu.kH {ws:List Nat} (h:lu ws) (p level:Nat) (d:DsD):lu (kH ws p level d):=h.set (DsD.word_lt _ _ _) p
theorem lu.rW {ws:List Nat} (h:lu ws) (o k:Nat):lu (rW ws o k):=by
 induction k with
 | zero=>exact h
 | succ k ih=>exact ih.set be6 _
theorem lu.jO {ws:List Nat} (h:lu ws) (f:Int):lu (jO ws f):=h.rW _ _
theorem lu.jo {page:Nat}:∀ (l:List Int) (p level:Nat) {ws:List Nat},lu ws→lu (jo page l p level ws).2:=by
 intro l
 induction l with
 | nil=>intro p level ws h;exact h
 | cons f r ih=>intro p level ws h;exact ih _ _ ((h.jO f).kH _ _ _)
attribute [local irreducible] Hy St Ops DH dG
section
variable {P : Program} {T : Tab} {n : Nat} {w0 : World} {mu : List Nat} {l : Fm} {hp : Hp} {dd : Option Nat} {ty : TypeId} {pos : String} {af : Array Edge} {gg : Option (Nat × Bool)} {t u : TypeId} {x y : Operand}
theorem U7 {pi qi:Int} (hx:ev l x=some (.int .i64 pi)) (hy:ev l y=some (.int .i64 qi)) (p q r:Nat) (hpi:pi=(p:Int)) (hqi:qi=(q:Int)) (hr:p + q=r) (hb:r<9223372036854775808):Hy P n w0 mu l hp ⟨dd,.binOp .add t x y u,ty,pos,af,gg⟩ (.int .i64 (r:Int)):=by
 subst hpi hqi hr
 have:=FW (o:=⟨dd,.binOp .add t x y u,ty,pos,af,gg⟩) (P:=P) (n:=n) (w0:=w0) (mu:=mu) (hp:=hp) rfl hx hy be5 be5
 rwa [← Int.natCast_add] at this
end
theorem C9 (n cap:Nat) (q:Option Addr) (hn:n<1000000) (f:Int) (w:World):Fn Tryz.prog 99 [.agg #[.slice q n cap],.int .i64 f].toArray w [] (fun u _=>u=.bool (dm n f)):=by
 refine enter Tryz.func99 ?_
 refine run ?_
 intro B
 refine run ?_
 refine ak (fun wc hG=>QF n cap be5 q wc) ?_
 refine run ?_
 refine ak (fun wc hG=>OO f _ wc) ?_
 refine run ?_
 refine fin1 ?_
 unfold dm
 congr 2
 rw [Bool.eq_iff_iff,decide_eq_true_eq,decide_eq_true_eq];omega
theorem U8 (ws:List Nat) (hw:lu ws) {w:World} {v:Value} (h:aF w v 1 (ws.map uV)) (stage:Int) (hs:stage=1∨stage=2) (level:Nat) (hl:level<4) (f:Int) (hf:dm ws.length f=true) (page:Nat) (hp:page≤4095) (hn:ws.length<1000000):Fn Tryz.prog 147 [.agg #[v],.int .i64 stage,.int .i64 (level:Int),.int .i64 f,.int .i64 (page:Int)].toArray w [] (fun u _=>u=sU (Ej stage level (ws.getD (sH f level page) 0))):=by
 obtain ⟨q,cap,rfl,hne,hle⟩:=h.opened
 have hfi:=jd hf
 have hpl:=CZ (level:=level) (page:=page) hf
 have OT:=zg level page
 have hne0:ws ≠ []:=by intro e;subst e;simp at hpl
 obtain ⟨b,o,rfl⟩:=hne hne0
 have hr:=au (h.row hpl)
 simp only [uV,Nat.mul_one] at hr
 refine enter Tryz.func147 ?_
 refine run ?_
 intro B C
 refine run ?_
 refine dL 13 ?_
 refine bZ ?_
 refine dM (fun wc hG=>Jj level hl page hp wc) ?_
 refine Ls (U7 rfl rfl (f.toNat * 8) (ru level page) (sH f level page) be5 rfl rfl be5) ?_
 refine bZ ?_
 refine dM (fun wc hG=>au0 stage hs level hl _ (hw.at _) wc) ?_
 refine bZ ?_
 refine run ?_
 exact eF rfl
theorem E5 (ws:List Nat) (hw:lu ws) {w:World} {v:Value} (h:aF w v 1 (ws.map uV)) (level:Nat) (hl:level<4) (f:Int) (hf:dm ws.length f=true) (page:Nat) (hp:page≤4095) (hn:ws.length<1000000):Fn Tryz.prog 147 [.agg #[v],.int .i64 2,.int .i64 (level:Int),.int .i64 f,.int .i64 (page:Int)].toArray w [] (fun u _=>u=sU (kS ws (sH f level page) level)):=U8 ws hw h 2 (.inr rfl) level hl f hf page hp hn
theorem au1 {fn:Func} {R:Value→Hp→Prop} {l:Fm} {hp:Hp} {a t b s0 s1 s2:Nat} {cs:Array Value} {tb:TypeId} {v v1 v2:Value} (h:R (.tuple #[v,.agg cs,v1,v2]) hp) (hr:fn.results=#[.tmp s0,.cell a t,.tmp s1,.tmp s2]:=by rfl) (h0:look l s0=some v:=by rfl) (hv:look l a=some (.pointer (some ⟨b,0,none⟩)):=by rfl) (h1:look l s1=some v1:=by rfl) (h2:look l s2=some v2:=by rfl) (hag:mem Tb.ag t=true:=by rfl) (hm:(⟨b,cs,tb⟩:o8)∈hp:=by (first | (with_reducible apply mh) | (focus ((repeat (first | (with_reducible apply mh) | (with_reducible apply mt) | (with_reducible apply List.mem_append_right)));done)))) (hz:lk Tb.sz t=some cs.size:=by rfl):Fin Tryz.prog fn R .ret l hp:=
 ⟨.inl rfl,[v,.agg cs,v1,v2],by rw [hr];exact ⟨h0,⟨⟨b,cs,tb⟩,hm,hv,.inr ⟨ay.ZP hag,ay.BG hz,rfl⟩⟩,h1,h2,trivial⟩,h⟩
theorem ah8 (ws:List Nat) (hw:lu ws) {w:World} {v:Value} (h:aF w v 1 (ws.map uV)) (root:Int) (page:Nat) (hp:page≤4095) (hn:ws.length<1000000):Fn Tryz.prog 137 [.agg #[v],.int .i64 root,.int .i64 (page:Int)].toArray w [] (fun u hn=>∃ v2 h2,u=.tuple #[v2,sU (bif (bz ws root page 3).ok then (bz ws root page 3).d else dN),.int .i64 (bif (bz ws root page 3).ok then ((bz ws root page 3).lv:Int) else ((bz ws root page 3).fs.length:Int)),.bool (bz ws root page 3).ok]∧Own 3 1 v2 h2 ((bz ws root page 3).fs.map dA)∧aC h2 hn):=by
 obtain ⟨q,cap,rfl,hne,hle⟩:=h.opened
 refine enter Tryz.func137 ?_
 refine run ?_
 intro B C
 refine run ?_
 refine aX (σ:=Nat × Int × List Int × DsD × Value × Hp) (fun s=>[(10,s.2.2.2.2.1),(11,.int .i64 s.2.1),(12,.int .i64 (s.1:Int))]) (fun s=>⟨C,dsC dN,124⟩::⟨B,#[.slice q ws.length cap],24⟩::s.2.2.2.2.2) (fun s=>s.1<4∧s.2.2.1.length=s.1∧fZ ws page 3 (4 - s.1) s.1 s.2.1 s.2.2.1 s.2.2.2.1=bz ws root page 3∧Acc 3 1 s.2.2.2.2.1 s.2.2.2.2.2 (s.2.2.1.map dA)) (fun s=>4 - s.1) (0,root,[],dN,_,[]) ⟨(by decide:0<4),rfl,rfl,Acc.nil _ _⟩ ?_
 rintro ⟨level,f,fs,d,v2,ha⟩ m hm ⟨hl,hfs,hwk,hA⟩
 dsimp only at hm hl hfs hwk hA ⊢
 refine run ?_
 refine ak (fun wc hG=>C9 ws.length cap q hn f wc) ?_
 refine run ?_
 have h4:4 - level=(3 - level) + 1:=by omega
 rw [h4,fZ] at hwk
 refine ah _ rfl (fun hc=>?_) (fun hc=>?_)
 ·have hh:dm ws.length f=false:=by simpa using hc
  rw [hh,cond_false] at hwk
  rw [← hwk]
  refine run ?_
  refine au1 ?_
  refine ⟨_,ha,?_,hA.own,by (exact aj)⟩
  simp only [cond_false,hfs]
  rfl
 ·have hh:dm ws.length f=true:=by simpa using hc
  rw [hh,cond_true] at hwk
  refine run ?_
  intro T
  refine kX (c:=dA f) (hp':=[⟨T,#[.int .i64 f],3⟩,⟨C,dsC dN,124⟩,⟨B,#[.slice q ws.length cap],24⟩]) hA (fun v' ha' hA'=>?_) bf2 (bQ (m:=1) mh rfl) (hperm:=by (exact aJ))
  refine aP (⟨C,dsC dN,124⟩::⟨B,#[.slice q ws.length cap],24⟩::ha') aj ?_
  refine run ?_
  refine ak (fun wc hG=>E5 ws hw (h.good hG) level hl f hh page hp hn) ?_
  generalize hd':kS ws (sH f level page) level=d' at hwk
  have htab:d'.kind=1→level<3:=fun e=>A7 (by rw [hd'];exact e)
  refine run ?_
  intro D
  refine ah _ rfl (fun hc2=>?_) (fun hc2=>?_)
  ·have hk:(!decide (d'.kind=1))=true:=hc2
   rw [hk,Bool.true_or,cond_true] at hwk
   rw [← hwk]
   obtain ⟨q3,cap3,rfl⟩:=hA'.own.opened
   refine run ?_
   refine late 4 2 ?_
   refine UL 3 1 ?_
   refine UL 3 2 ?_
   refine yT 3 [0,1,2] [] [] ?_
   refine fU ?_
   refine jS ?_
   simp only [DN]
   refine iW ?_
   refine qU ?_
   simp only [List.cons_append,List.nil_append,List.append_nil]
   refine run ?_
   refine au1 ?_
   refine ⟨_,ha',?_,by simpa using hA'.own,by (exact aj)⟩
   simp only [cond_true,uB.lv,List.length_append,List.length_map,hfs,List.length_singleton,List.length_cons,List.length_nil,Nat.zero_add,Nat.add_sub_cancel]
  ·have hk:decide (d'.kind=1)=true:=by simpa using hc2
   have h3:=htab (of_decide_eq_true hk)
   rw [hk,show decide (level=3)=false from decide_eq_false be5] at hwk
   simp only [Bool.not_true,Bool.or_false,cond_false] at hwk
   refine run ?_
   refine aK (level + 1,d'.frame,fs++[f],d',v',ha') ⟨by dsimp only;omega,by simp [hfs],?_,by simpa using hA'⟩
   rw [← hwk]
   show fZ ws page 3 (4 - (level + 1)) _ _ _ _=_
   rw [show 4 - (level + 1)=3 - level by omega]
theorem Own.au2 {e:Nat} {v:Value} {h:Hp} {xs:List Nat} (hA:Own e 1 v h (xs.map uV)) {k:Nat} (hk:k<xs.length):∃ g cap cur,v=.slice (some ⟨g,0,none⟩) xs.length cap∧h=[⟨g,cur,e⟩]∧k + 1≤cur.size ∧
  ∀ z:Nat,Own e 1 (.slice (some ⟨g,0,none⟩) xs.length cap) [⟨g,cur.setIfInBounds k (.int .u64 (z:Int)),e⟩] ((xs.set k z).map uV):=by
 obtain ⟨g,cap,cur,rfl,rfl,hr⟩:=hA.row (n:=xs.length) be7 be5
 have hall0:∀ (ys:List Nat),∀ c∈ys.map uV,c.length=1∧c.all (·.oneCell')=true:=by
  intro ys c hc
  obtain ⟨x,_,rfl⟩:=List.mem_map.1 hc
  exact ⟨rfl,rfl⟩
 have hall:∀ c∈xs.map uV,c.length=1:=fun c hc=>(hall0 xs c hc).1
 have hi:(xs.map uV)[k]?=some (uV (xs.getD k 0)):=by
  rw [List.getElem?_map,List.getD_eq_getElem?_getD,List.getElem?_eq_getElem hk];rfl
 have hsz:=hr.size
 have hle:=hr.le
 refine ⟨g,cap,cur,rfl,rfl,by omega,fun z=>⟨hall0 _,.inr ⟨g,cap,_,by simp,rfl,?_⟩⟩⟩
 have h2:=hr.put hall hi (k:=0) (vs:=[.int .u64 (z:Int)]) be7
 have e1:(uV (xs.getD k 0)).take 0++[Value.int .u64 (z:Int)]++(uV (xs.getD k 0)).drop (0 + [Value.int .u64 (z:Int)].length)=uV z:=rfl
 rw [e1,Nat.mul_one,Nat.add_zero] at h2
 have e2:((xs.set k z).map uV).length=xs.length:=by simp
 rw [e2,List.map_set]
 exact h2
theorem Own.vH {e g n cap:Nat} {cur:Array Value} {xs:List Nat} (hA:Own e 1 (.slice (some ⟨g,0,none⟩) n cap) [⟨g,cur,e⟩] (xs.map uV)) {k:Nat} (hk:k<xs.length):k + 1≤cur.size∧k<n∧n=xs.length ∧
  ∀ z:Nat,Own e 1 (.slice (some ⟨g,0,none⟩) n cap) [⟨g,cur.setIfInBounds k (.int .u64 (z:Int)),e⟩] ((xs.set k z).map uV):=by
 obtain ⟨g',cap',cur',e1,e2,h1,h2⟩:=hA.au2 hk
 injection e1 with e1 e3 e4
 injection e1 with e1
 injection e1 with e1
 injection e2 with e2
 injection e2 with _ e2
 subst e1 e3 e4 e2
 exact ⟨h1,hk,rfl,h2⟩
theorem iw {n:Nat} {w0:World} {mu:List Nat} {l:Fm} {Q:Exit→Fm→Hp→Prop} {all:Array Oper} {ops:List Oper} {h1 hn rest:Hp} (hle:aC h1 hn) (h:Ops Tryz.prog n w0 mu all ops l (h1++rest) Q):Ops Tryz.prog n w0 mu all ops l (hn++rest) Q:=aP _ (cnt1 hle) h
theorem U9 {fn:Func} {R:Value→Hp→Prop} {l:Fm} {hp:Hp} {a t b s1 s2:Nat} {cs:Array Value} {tb:TypeId} {v1 v2:Value} (h:R (.tuple #[.agg cs,v1,v2]) hp) (hr:fn.results=#[.cell a t,.tmp s1,.tmp s2]:=by rfl) (hv:look l a=some (.pointer (some ⟨b,0,none⟩)):=by rfl) (h1:look l s1=some v1:=by rfl) (h2:look l s2=some v2:=by rfl) (hag:mem Tb.ag t=true:=by rfl) (hm:(⟨b,cs,tb⟩:o8)∈hp:=by (first | (with_reducible apply mh) | (focus ((repeat (first | (with_reducible apply mh) | (with_reducible apply mt) | (with_reducible apply List.mem_append_right)));done)))) (hz:lk Tb.sz t=some cs.size:=by rfl):Fin Tryz.prog fn R .ret l hp:=
 ⟨.inl rfl,[.agg cs,v1,v2],by rw [hr];exact ⟨⟨⟨b,cs,tb⟩,hm,hv,.inr ⟨ay.ZP hag,ay.BG hz,rfl⟩⟩,h1,h2,trivial⟩,h⟩
theorem GZ (ws:List Nat) {w:World} {v:Value} (h:aF w v 1 (ws.map uV)) (f:Int) (level:Nat) (hl:level<4) (hf:dm ws.length f=true) (page:Nat) (hp:page≤4095) (d:DsD) (hm:d.may 2 level=true) (hn:ws.length<1000000):Fn Tryz.prog 144 [.agg #[v],.int .i64 f,.int .i64 (level:Int),.int .i64 (page:Int),sU d].toArray w [] (fun u hn=>YH (kH ws (sH f level page) level d) u hn):=by
 have hfi:=jd hf
 have hpl:=CZ (level:=level) (page:=page) hf
 obtain ⟨q,cap,rfl,hne,hle⟩:=h.opened
 refine enter Tryz.func144 ?_
 refine run ?_
 intro B C D
 refine run ?_
 refine dJ (fun wc hG=>EZ ws _ (h.good hG) hn) ?_
 rintro u hn2 ⟨v2,h2,rfl,hO,hle2⟩
 obtain ⟨g,cap2,cur,rfl,rfl,hsz,hset⟩:=hO.au2 hpl
 refine iw hle2 ?_
 simp only [List.cons_append,List.nil_append]
 refine run ?_
 intro E
 refine run ?_
 refine dL 11 ?_
 refine bZ ?_
 refine dM (fun wc hG=>Jj level hl page hp wc) ?_
 refine Ls (U7 rfl rfl (f.toNat * 8) (ru level page) (sH f level page) be5 rfl rfl be5) ?_
 refine bZ ?_
 refine dM (fun wc hG=>xZ 2 (.inr rfl) level hl d hm wc) ?_
 refine bZ ?_
 refine run ?_
 refine eF ⟨_,_,rfl,hset _,?_⟩
 (exact aj)
theorem E8 {α:Type} [Inhabited α] (p:α→Bool) (l:List α):∀ j,p (l.getD j default)=true→∃ j0,j0≤j∧p (l.getD j0 default)=true∧∀ i,i<j0→p (l.getD i default)=false:=by
 intro j
 induction j using Nat.strongRecOn with
 | ind j ih=>
  intro h
  by_cases hx:∃ i,i<j∧p (l.getD i default)=true
  ·obtain ⟨i,hi,hp⟩:=hx
   obtain ⟨j0,h0,h1,h2⟩:=ih i hi hp
   exact ⟨j0,by omega,h1,h2⟩
  ·refine ⟨j,Nat.le_refl _,h,fun i hi=>?_⟩
   cases hp:p (l.getD i default) with
   | false=>rfl
   | true=>exact absurd ⟨i,hi,hp⟩ hx
theorem L6 (l:List Int) (k:Nat) (hk:k<l.length):decide (jb (fun t=>decide (t=l.getD k default)) l=(k:Int))=!(l.take k).any (fun t=>decide (t=l.getD k 0)):=by
 cases h:(l.take k).any (fun t=>decide (t=l.getD k 0)) with
 | false=>
  rw [fB hk be7 fun j hj=>?_]
  ·simp
  ·have h2:=List.any_eq_false.1 h (l.getD j 0) (by
    rw [List.getD_eq_getElem?_getD,List.getElem?_eq_getElem be5]
    exact List.mem_take_iff_getElem.2 ⟨j,by omega,rfl⟩)
   simpa using h2
 | true=>
  obtain ⟨x,hx,hxe⟩:=List.any_eq_true.1 h
  obtain ⟨j,hj,rfl⟩:=List.mem_take_iff_getElem.1 hx
  have hj1:j<l.length:=by omega
  have hje:decide (l.getD j default=l.getD k default)=true:=by
   rw [List.getD_eq_getElem?_getD,List.getElem?_eq_getElem hj1];exact hxe
  obtain ⟨j0,h0,h1,h2⟩:=E8 (fun t=>decide (t=l.getD k default)) l j hje
  rw [fB (k:=j0) be5 h1 h2]
  simp;omega
theorem YI (n cap:Nat) (q:Option Addr) (hn:n<1000000) (fs l:List Int) {w:World} {v1 v2:Value} (h1:aF w v1 1 (l.map dA)) (h2:aF w v2 1 (fs.map dA)):Fn Tryz.prog 143 [.agg #[.slice q n cap],v1,v2].toArray w [] (fun u _=>u=.bool (mY n fs l)):=by
 obtain ⟨q1,cap1,rfl,hne1,hle1⟩:=h1.opened
 obtain ⟨q2,cap2,rfl,hne2,hle2⟩:=h2.opened
 refine enter Tryz.func143 ?_
 refine run ?_
 intro B
 refine run ?_
 refine aX (σ:=Nat) (fun k=>[(7,.int .i64 (k:Int))]) (fun _=>[⟨B,#[.slice q n cap],24⟩]) (fun k=>k≤l.length∧∀ j,j<k→nK n fs l j=true) (fun k=>l.length - k) 0 ⟨Nat.zero_le _,fun j hj=>absurd hj be5⟩ ?_
 rintro k m rfl ⟨hk,hyes⟩
 refine run ?_
 refine ah _ rfl (fun hc=>?_) (fun hc=>?_)
 ·have hlt:k<l.length:=by simp at hc;omega
  obtain ⟨b,o,rfl⟩:=hne1 be'
  have hr:=au (h1.row hlt)
  simp only [Nat.mul_one] at hr
  refine run ?_
  refine kC ?_
  refine bP ?_
  refine dM (fun wc hG=>C9 n cap q hn _ wc) ?_
  refine bP ?_
  refine ig (fun hg wc hG=>at7 _ l _ (h1.good hG)) ?_
  refine bP ?_
  refine ig (fun hg wc hG=>at7 _ fs _ (h2.good hG)) ?_
  refine bP ?_
  refine run ?_
  have e1:=L6 l k hlt
  have e2:(0≤jb (fun t=>decide (t=l.getD k default)) fs)↔fs.any (fun t=>decide (t=l.getD k 0))=true:=by
   rw [← iY];simp
  refine ah _ rfl (fun hc2=>?_) (fun hc2=>?_)
  ·refine run ?_
   refine fin1 ?_
   rw [zM hlt]
   rw [e1] at hc2
   have:nK n fs l k=false:=by
    unfold nK
    cases hh:fs.any (fun t=>decide (t=l.getD k 0)) with
    | true=>simp
    | false=>
     have:decide (0≤jb (fun t=>decide (t=l.getD k default)) fs)=false:=by
      rw [decide_eq_false_iff_not,e2,hh];simp
     rw [this] at hc2
     have h3:dm n (l[k]?.getD 0)=false∨l[k]?.getD 0∈List.take k l:=by simpa using hc2
     simp
     intro h
     rcases h3 with h4 | h4
     ·rw [h4] at h;cases h
     ·exact h4
   exact this
  ·refine run ?_
   refine aK (k + 1) ⟨hlt,fun j hj=>?_⟩
   rcases Nat.lt_succ_iff_lt_or_eq.1 hj with hj | rfl
   ·exact hyes j hj
   ·rw [e1] at hc2
    unfold nK
    cases hh:fs.any (fun t=>decide (t=l.getD j 0)) with
    | true=>
     have:decide (0≤jb (fun t=>decide (t=l.getD j default)) fs)=true:=by
      rw [decide_eq_true_eq,e2,hh]
     rw [this] at hc2
     simp at hc2
    | false=>
     have:decide (0≤jb (fun t=>decide (t=l.getD j default)) fs)=false:=by
      rw [decide_eq_false_iff_not,e2,hh];simp
     rw [this] at hc2
     simpa using hc2
 ·refine run ?_
  refine fin1 ?_
  have:k=l.length:=by simp at hc;omega
  subst this
  rw [wE hyes]
theorem YJ (ws:List Nat) {w:World} {v v1:Value} (h:aF w v 1 (ws.map uV)) (f:Int) (hf:dm ws.length f=true) (hv1:aF w v1 1 ([f].map dA)) (hn:ws.length<1000000):Fn Tryz.prog 145 [.agg #[v],v1].toArray w [] (fun u hn=>YH (jO ws f) u hn):=by
 have hfi:=jd hf
 obtain ⟨q,cap,rfl,hne,hle⟩:=h.opened
 obtain ⟨q1,cap1,rfl,hne1,hle1⟩:=hv1.opened
 refine enter Tryz.func145 ?_
 refine run ?_
 intro B C
 refine run ?_
 refine dJ (fun wc hG=>EZ ws _ (h.good hG) hn) ?_
 rintro u hn2 ⟨v2,h2,rfl,hO,hle2⟩
 refine iw hle2 ?_
 obtain ⟨g,cap3,cur,rfl,rfl,_⟩:=hO.row (n:=ws.length) be7 be5
 simp only [List.cons_append,List.nil_append]
 refine run ?_
 intro D
 refine run ?_
 refine aX (σ:=Nat × List Nat × Array Value) (fun s=>[(6,.int .i64 (s.1:Int))]) (fun s=>[⟨g,s.2.2,47⟩,⟨D,#[.slice (some ⟨g,0,none⟩) ws.length cap3],24⟩,⟨C,#[.slice none 0 0],24⟩,⟨B,#[.slice q ws.length cap],24⟩]) (fun s=>(s.1=0∧s.2.1=ws∨s.1=1∧s.2.1=jO ws f)∧Own 47 1 (.slice (some ⟨g,0,none⟩) ws.length cap3) [⟨g,s.2.2,47⟩] (s.2.1.map uV)) (fun s=>1 - s.1) (0,ws,cur) ⟨.inl ⟨rfl,rfl⟩,hO⟩ ?_
 rintro ⟨i,us,cu⟩ m hm ⟨hi,hU⟩
 dsimp only at hm hi hU ⊢
 refine run ?_
 refine ah _ rfl (fun hc=>?_) (fun hc=>?_)
 ·have hi0:i=0:=by
   rcases hi with h | h
   ·exact h.1
   ·rw [h.1] at hc;simp at hc
  subst hi0
  obtain rfl:us=ws:=by
   rcases hi with h | h
   ·exact h.2
   ·exact absurd h.1 be6
  obtain ⟨b1,o1,rfl⟩:=hne1 be7
  have hl1:([f]:List Int).length=1:=rfl
  have hr:=au (hv1.row (k:=0) be7)
  simp only [Nat.zero_mul,Nat.add_zero,show ([f]:List Int).getD 0 default=f from rfl] at hr
  refine run ?_
  refine aX (σ:=Nat × Array Value) (fun s=>[(7,.int .i64 (s.1:Int))]) (fun s=>[⟨g,s.2,47⟩,⟨D,#[.slice (some ⟨g,0,none⟩) us.length cap3],24⟩,⟨C,#[.slice none 0 0],24⟩,⟨B,#[.slice q us.length cap],24⟩]) (fun s=>s.1≤8∧Own 47 1 (.slice (some ⟨g,0,none⟩) us.length cap3) [⟨g,s.2,47⟩] ((rW us (f.toNat * 8) s.1).map uV)) (fun s=>8 - s.1) (0,cu) ⟨by dsimp only;omega,hU⟩ ?_
  rintro ⟨k,cv⟩ m2 hm2 ⟨hk,hV⟩
  dsimp only at hm2 hk hV ⊢
  refine run ?_
  refine ah _ rfl (fun hc2=>?_) (fun hc2=>?_)
  ·have hk8:k<8:=by simp at hc2;omega
   obtain ⟨hsz,hlt,_,hset⟩:=hV.vH (k:=f.toNat * 8 + k) (by rw [zh];omega)
   refine run ?_
   refine dL 9 ?_
   refine bZ ?_
   rw [show f * 8 + (k:Int)=((f.toNat * 8 + k:Nat):Int) by omega]
   refine run ?_
   refine aK (k + 1,_) ⟨hk8,hset 0⟩
  ·have:k=8:=by simp at hc2;omega
   subst this
   refine run ?_
   refine aK (1,jO us f,cv) ⟨.inr ⟨rfl,rfl⟩,hV⟩
 ·refine run ?_
  have hi1:us=jO ws f:=by
   rcases hi with h | h
   ·rw [h.1] at hc;simp at hc
   ·exact h.2
  subst hi1
  refine eF ⟨_,_,rfl,hU,?_⟩
  (exact aj)
end
def ah9 (r:GV) (u:Value) (hn:Hp):Prop:=∃ v h1,u=.tuple #[.agg #[v],.int .i64 r.e]∧Own 47 1 v h1 (r.ws.map uV)∧aC h1 hn
def QG (r:GV) (u:Value) (hn:Hp):Prop:=∃ v h1 v2 h2,u=.tuple #[.agg #[v],v2,.int .i64 r.e]∧Own 47 1 v h1 (r.ws.map uV)∧Own 3 1 v2 h2 (r.left.map dA)∧aC (h1++h2) hn
theorem Own.nil (e sz:Nat):Own e sz (.slice none 0 0) [] []:=⟨by simp,.inl ⟨rfl,rfl,rfl⟩⟩
theorem qo {fn:Func} {R:Value→Hp→Prop} {l:Fm} {hp:Hp} {a t b s1 s2:Nat} {cs:Array Value} {tb:TypeId} {v1 v2:Value} (h:R (.tuple #[.agg cs,v1,v2]) hp) (hr:fn.results=#[.cell a t,.tmp s1,.tmp s2]:=by rfl) (hv:look l a=some (.pointer (some ⟨b,0,none⟩)):=by rfl) (h1:look l s1=some v1:=by rfl) (h2:look l s2=some v2:=by rfl) (hag:mem Tb.ag t=true:=by rfl) (hm:(⟨b,cs,tb⟩:o8)∈hp:=by (first | (with_reducible apply mh) | (focus ((repeat (first | (with_reducible apply mh) | (with_reducible apply mt) | (with_reducible apply List.mem_append_right)));done)))) (hz:lk Tb.sz t=some cs.size:=by rfl):Fin Tryz.prog fn R .ret l hp:=U9 h hr hv h1 h2 hag hm hz
theorem aa' {fn:Func} {R:Value→Hp→Prop} {l:Fm} {hp:Hp} {a t b a2 t2 b2 s2:Nat} {cs cs2:Array Value} {tb tb2:TypeId} {v2:Value} (h:R (.tuple #[.agg cs,.agg cs2,v2]) hp) (hr:fn.results=#[.cell a t,.cell a2 t2,.tmp s2]:=by rfl) (hv:look l a=some (.pointer (some ⟨b,0,none⟩)):=by rfl) (hw:look l a2=some (.pointer (some ⟨b2,0,none⟩)):=by rfl) (h2:look l s2=some v2:=by rfl) (hag:mem Tb.ag t=true:=by rfl) (hm:(⟨b,cs,tb⟩:o8)∈hp:=by (first | (with_reducible apply mh) | (focus ((repeat (first | (with_reducible apply mh) | (with_reducible apply mt) | (with_reducible apply List.mem_append_right)));done)))) (hz:lk Tb.sz t=some cs.size:=by rfl) (aE2:mem Tb.ag t2=true:=by rfl) (hm2:(⟨b2,cs2,tb2⟩:o8)∈hp:=by (first | (with_reducible apply mh) | (focus ((repeat (first | (with_reducible apply mh) | (with_reducible apply mt) | (with_reducible apply List.mem_append_right)));done)))) (hz2:lk Tb.sz t2=some cs2.size:=by rfl):Fin Tryz.prog fn R .ret l hp:=
 ⟨.inl rfl,[.agg cs,.agg cs2,v2],by rw [hr];exact ⟨⟨⟨b,cs,tb⟩,hm,hv,.inr ⟨ay.ZP hag,ay.BG hz,rfl⟩⟩,⟨⟨b2,cs2,tb2⟩,hm2,hw,.inr ⟨ay.ZP aE2,ay.BG hz2,rfl⟩⟩,h2,trivial⟩,h⟩
theorem aC.mem {r h:Hp} (hl:aC r h) {b:o8} (hb:b∈r):b∈h:=by
 obtain ⟨x,hx⟩:=hl.perm
 exact hx.mem_iff.1 (List.mem_append_left _ hb)
theorem QH {ws:List Nat} {page down:Nat}:∀ (k level:Nat) (f:Int) (fs:List Int) (d:DsD),(fZ ws page down k level f fs d).fs.length≤fs.length + k:=by
 intro k
 induction k with
 | zero=>intro level f fs d;exact Nat.le_refl _
 | succ k ih=>
  intro level f fs d
  rw [fZ]
  cases dm ws.length f with
  | false=>simp
  | true=>
   simp only [cond_true]
   cases (!decide ((kS ws (sH f level page) level).kind=1) || decide (level=down)) with
   | true=>simp
   | false=>
    have:=ih (level + 1) (kS ws (sH f level page) level).frame (fs++[f]) (kS ws (sH f level page) level)
    rw [List.length_append,List.length_singleton] at this
    simp only [cond_false];omega
theorem Jp (ws:List Nat) (root:Int) (page down:Nat):(bz ws root page down).fs.length≤4:=QH 4 0 root [] dN
theorem Dc (fs:List Int) (f:Int) (d:DsD) (b:Bool) (page:Nat):(⟨fs++[f],d,b⟩:uB).lv=fs.length∧(⟨fs++[f],d,b⟩:uB).place page=sH f fs.length page:=by
 have h1:(⟨fs++[f],d,b⟩:uB).lv=fs.length:=by simp [uB.lv]
 refine ⟨h1,?_⟩
 unfold uB.place
 rw [h1]
 congr 1
 simp [List.getD_eq_getElem?_getD]
section
attribute [local irreducible] Hy St Ops DH dG
theorem ah' (ws:List Nat) (hw:lu ws) {w:World} {v:Value} (h:aF w v 1 (ws.map uV)) (root:Int) (page:Nat) (hp:page≤4095) (level:Nat) (hl:level<4) (d:DsD) (hm:d.may 2 level=true) (hn:ws.length<1000000):Fn Tryz.prog 67 [.agg #[v],.int .i64 root,.int .i64 (page:Int),.int .i64 (level:Int),sU d].toArray w [] (fun u hn=>ah9 (eG ws root page level d) u hn):=by
 obtain ⟨q,cap,rfl,hne,hle⟩:=h.opened
 refine enter Tryz.func67 ?_
 refine run ?_
 intro B C D
 refine run ?_
 refine aX (σ:=Nat × Int × List Int × DsD) (fun s=>[(12,.int .i64 s.2.1),(13,.int .i64 (s.1:Int))]) (fun _=>[⟨D,#[.slice none 0 0],24⟩,⟨C,#[.int .i64 d.kind,.int .i64 d.frame,.bool d.r,.bool d.w,.bool d.x,.bool d.af,.bool d.ng,.int .i64 d.soft,.int .i64 d.note],124⟩,⟨B,#[.slice q ws.length cap],24⟩]) (fun s=>s.1≤level∧s.2.2.1.length=s.1∧fZ ws page level (4 - s.1) s.1 s.2.1 s.2.2.1 s.2.2.2=bz ws root page level) (fun s=>4 - s.1) (0,root,[],dN) ⟨Nat.zero_le _,rfl,rfl⟩ ?_
 rintro ⟨k,f,fs,d0⟩ m hm2 ⟨hk,hfs,hwk⟩
 dsimp only at hm2 hk hfs hwk ⊢
 have h4:4 - k=(3 - k) + 1:=by omega
 rw [h4,fZ] at hwk
 refine run ?_
 refine ak (fun wc hG=>C9 ws.length cap q hn f wc) ?_
 refine run ?_
 refine ah _ rfl (fun hc=>?_) (fun hc=>?_)
 ·have hh:dm ws.length f=false:=by simpa using hc
  rw [hh,cond_false] at hwk
  refine run ?_
  have e:eG ws root page level d=badM 2:=by simp only [eG,← hwk];rfl
  rw [e]
  refine jl ⟨_,_,rfl,Own.nil _ _,trivial⟩
 ·have hh:dm ws.length f=true:=by simpa using hc
  rw [hh,cond_true] at hwk
  refine run ?_
  refine ah _ rfl (fun hc2=>?_) (fun hc2=>?_)
  ·have hkl:k=level:=by simp at hc2;omega
   subst hkl
   rw [decide_eq_true rfl,Bool.or_true,cond_true] at hwk
   have e:eG ws root page k d=⟨kH ws (sH f k page) k d,[],0⟩:=by
    obtain ⟨p1,p2⟩:=Dc fs f (kS ws (sH f k page) k) true page
    rw [hfs] at p1 p2
    simp only [eG,← hwk,p1,p2,decide_true,Bool.not_true,cond_false]
   rw [e]
   refine run ?_
   refine dJ (fun wc hG=>GZ ws (h.good hG) f k hl hh page hp d hm hn) ?_
   rintro u hn2 ⟨v2,h2,rfl,hO,hle2⟩
   obtain ⟨q2,cap2,rfl⟩:=hO.opened
   refine iw hle2 ?_
   refine fJ (_++h2) List.perm_append_comm ?_
   simp only [List.cons_append,List.nil_append]
   refine run ?_
   refine jl ⟨_,_,rfl,hO,by (exact aj)⟩
  ·have hkl:k<level:=by simp at hc2;omega
   rw [show decide (k=level)=false from decide_eq_false be5,Bool.or_false] at hwk
   refine run ?_
   refine ak (fun wc hG=>E5 ws hw (h.good hG) k be5 f hh page hp hn) ?_
   generalize hd':kS ws (sH f k page) k=d' at hwk
   refine run ?_
   intro E
   refine run ?_
   refine ah _ rfl (fun hc3=>?_) (fun hc3=>?_)
   ·have hk1:(!decide (d'.kind=1))=true:=hc3
    rw [hk1,cond_true] at hwk
    refine run ?_
    have e:eG ws root page level d=badM 3:=by
     obtain ⟨p1,p2⟩:=Dc fs f d' true page
     rw [hfs] at p1
     simp only [eG,← hwk,p1,show decide (k=level)=false from decide_eq_false be5]
     rfl
    rw [e]
    refine jl ⟨_,_,rfl,Own.nil _ _,trivial⟩
   ·have hk1:(!decide (d'.kind=1))=false:=by simpa using hc3
    rw [hk1,cond_false] at hwk
    refine run ?_
    refine aK (k + 1,d'.frame,fs++[f],d') ⟨hkl,by simp [hfs],?_⟩
    rw [← hwk]
    show fZ ws page level (4 - (k + 1)) _ _ _ _=_
    rw [show 4 - (k + 1)=3 - k by omega]
def au3 (w0:World) (mv:Value) (hm:Hp) (us:List Nat):Prop:=∀ wc hp,Good w0 [] hp wc→(∀ b∈hm,b∈hp)→aF wc mv 1 (us.map uV)
structure LkS where
 i:Nat
 us:List Nat
 ft:Int
 p:Option Addr
 mq:Option Addr
 mc:Nat
 hm:Hp
theorem aF.drop {w:World} {p:Option Addr} {n c i:Nat} {xs:List Int} (h:aF w (.slice p n c) 1 (xs.map dA)) (hn:n=xs.length) (hc:n≤c) (hi:i≤n):∃ p',sliced p i n c 1=.slice p' (xs.drop i).length (c - i)∧(xs.drop i).length≤c - i∧aF w (.slice p' (xs.drop i).length (c - i)) 1 ((xs.drop i).map dA):=by
 subst hn
 obtain ⟨⟨q,cap,e,hne⟩,hle⟩:=h
 injection e with e1 e2 e3
 subst e1 e3
 have hdl:(xs.drop i).length=xs.length - i:=List.length_drop
 refine ⟨_,by unfold sliced;rw [hdl],by omega,⟨⟨_,_,by rw [List.length_map],fun hx=>?_⟩,by rw [List.length_map] at hle ⊢;omega⟩⟩
 have hlt:i<xs.length:=by
  rcases Nat.lt_or_ge i xs.length with h | h
  ·exact h
  ·rw [List.drop_eq_nil_of_le h] at hx;exact absurd rfl hx
 obtain ⟨b,o,rfl,hr⟩:=hne (by intro e;simp at e;subst e;simp at hlt)
 refine ⟨b,o + i,?_,fun j cc hj=>?_⟩
 ·rw [if_neg be5,Nat.mul_one];simp [uU]
 ·rw [List.map_drop,List.getElem?_drop] at hj
  have:=hr (i + j) cc hj
  rw [Nat.mul_one] at this ⊢
  rwa [← Nat.add_assoc] at this
theorem ai0 (ws:List Nat) (hw:lu ws) {w:World} {v vl:Value} (h:aF w v 1 (ws.map uV)) (l:List Int) (hv:aF w vl 1 (l.map dA)) (hcap:∃ p c,vl=.slice p l.length c∧l.length≤c) (root:Int) (page:Nat) (hp:page≤4095) (d:DsD) (hm:d.may 2 3=true) (hn:ws.length≤512) (hln:l.length<1000000):Fn Tryz.prog 64 [.agg #[v],.int .i64 root,vl,.int .i64 (page:Int),sU d].toArray w [] (fun u hn=>QG (qj ws root l page d) u hn):=by
 obtain ⟨q,cap,rfl,hne,hle⟩:=h.opened
 obtain ⟨ql,Jq,rfl,hcap⟩:=hcap
 refine enter Tryz.func64 ?_
 refine run ?_
 intro B C D
 refine run ?_
 refine dJ (fun wc hG=>ah8 ws hw (h.good hG) root page hp be5) ?_
 rintro u hn2 ⟨v2,h2,rfl,hO,hle2⟩
 refine iw hle2 ?_
 refine fJ (_++h2) List.perm_append_comm ?_
 simp only [List.cons_append,List.nil_append]
 refine run ?_
 intro E
 refine run ?_
 have hl4:=Jp ws root page 3
 cases hok:(bz ws root page 3).ok with
 | false=>
  have e:qj ws root l page d=badM 2:=by simp only [qj,hok];rfl
  rw [e]
  refine az ?_
  refine qo ⟨_,_,_,_,rfl,Own.nil _ _,Own.nil _ _,trivial⟩
 | true=>
  have lC:=oO hok
  have hnt:=OM hok
  simp only [qj,hok]
  generalize bz ws root page 3=W at hO hok lC hnt hl4 ⊢
  have En:=lC.le
  have hpos:=lC.pos
  obtain ⟨g,cap2,cur,rfl,rfl,sJ,ai1,_⟩:=hO.ag2 (k:=W.fs.length - 1) be5
  simp only [cond_true,Bool.true_and]
  refine az ?_
  refine dO (fun hg wc hG=>YI ws.length cap q be5 W.fs l (hv.good hG) (hO.lie (fun b hb=>hG.here b (by simp at hb;simp [hb])) bf2)) ?_
  refine az ?_
  refine ah _ rfl (fun hc=>?_) (fun hc=>?_)
  ·have hfr:mY ws.length W.fs l=false:=by simpa using hc
   rw [hfr,Bool.not_false,cond_true]
   refine az ?_
   refine qo ⟨_,_,_,_,rfl,Own.nil _ _,Own.nil _ _,trivial⟩
  have hfr:mY ws.length W.fs l=true:=by simpa using hc
  rw [hfr,Bool.not_true,cond_false]
  clear hc
  have hmay:W.d.may 2 W.lv=true:=by rw [lC.d];exact xU _ _ _
  have aN3:0≤W.d.note:=by
   obtain ⟨k1,k2,k3,k4⟩:=lX hmay
   rcases k1 with e | e | e
   ·have:=k2 e;omega
   ·exact (hnt e).elim
   ·have:=k4 e;omega
  have hlv:W.lv=W.fs.length - 1:=rfl
  have e1:decide ((W.lv:Int)<3)=decide (W.fs.length<4):=by rw [Bool.eq_iff_iff,decide_eq_true_eq,decide_eq_true_eq];omega
  have e2:decide (0<W.d.note)=!decide (W.d.note=0):=by rw [Bool.eq_iff_iff,decide_eq_true_eq];simp;omega
  refine aI ?_
  refine ah _ rfl (fun hc=>?_) (fun hc=>?_)
  ·rw [e1,e2] at hc
   rw [hc,cond_true]
   refine az ?_
   refine qo ⟨_,_,_,_,rfl,Own.nil _ _,Own.nil _ _,trivial⟩
  rw [e1,e2] at hc
  rw [hc,cond_false]
  clear hc
  have e3:decide ((l.length:Int)<3 - (W.lv:Int))=decide (l.length + W.fs.length<4):=by rw [Bool.eq_iff_iff,decide_eq_true_eq,decide_eq_true_eq];omega
  refine aI ?_
  refine ah _ rfl (fun hc=>?_) (fun hc=>?_)
  ·rw [e3] at hc
   rw [hc,cond_true]
   refine az ?_
   refine qo ⟨_,_,_,_,rfl,Own.nil _ _,Own.nil _ _,trivial⟩
  rw [e3] at hc
  rw [hc,cond_false]
  replace hc:4≤l.length + W.fs.length:=by simpa using hc
  refine run ?_
  rw [show ((W.fs.length:Int) - 1).toNat=W.fs.length - 1 by omega]
  refine run ?_
  generalize hlk:4 - W.fs.length=lk
  have au4:lk≤l.length:=by omega
  refine aX (σ:=LkS) (fun s=>[(15,.int .i64 ((W.lv + s.i:Nat):Int)),(17,.int .i64 s.ft),(2,.slice s.p (l.drop s.i).length (Jq - s.i))]) (fun s=>⟨D,#[.slice none 0 0],24⟩::⟨C,#[.int .i64 d.kind,.int .i64 d.frame,.bool d.r,.bool d.w,.bool d.x,.bool d.af,.bool d.ng,.int .i64 d.soft,.int .i64 d.note],124⟩::⟨B,#[.slice s.mq ws.length s.mc],24⟩::s.hm) (fun s=>s.i≤lk∧jo page ((l.take lk).drop s.i) (sH s.ft (W.lv + s.i) page) (W.lv + s.i) s.us=jo page (l.take lk) (W.place page) W.lv ws∧s.us.length=ws.length∧lu s.us∧dm ws.length s.ft=true∧aF w (.slice s.p (l.drop s.i).length (Jq - s.i)) 1 ((l.drop s.i).map dA)∧(l.drop s.i).length≤Jq - s.i∧au3 w (.slice s.mq ws.length s.mc) s.hm s.us) (fun s=>lk - s.i) ⟨0,ws,W.fs.getD (W.fs.length - 1) 0,ql,q,cap,[]⟩ ⟨Nat.zero_le _,rfl,rfl,hw,?_,hv,by simpa using hcap,fun wc hp hG _=>h.good hG⟩ ?_
  ·exact lC.has _ bh6
  rintro ⟨i,us,f0,p,mq,mc,hm1⟩ m hm2 ⟨hi,dH,Va,huw,hf0,hsl,hsc,hmem⟩
  dsimp only at hm2 hi dH Va huw hf0 hsl hsc hmem ⊢
  refine run ?_
  refine ah _ rfl (fun hc3=>?_) (fun hc3=>?_)
  ·have hilt:i<lk:=by simp at hc3;omega
   obtain ⟨q5,cap5,e5,hne5,_⟩:=hsl.opened
   injection e5 with e5
   subst e5
   obtain ⟨b5,o5,rfl⟩:=hne5 (by intro e;have:=congrArg List.length e;simp at this;omega)
   have hr:=au (hsl.row (k:=0) bf2)
   have e6:(l.drop i).getD 0 default=l.getD i 0:=by simp [List.getD_eq_getElem?_getD]
   simp only [Nat.zero_mul,Nat.add_zero,e6] at hr
   generalize hf:l.getD i 0=f at hr
   have hfh:dm ws.length f=true:=by rw [← hf];exact EX hfr be5
   have hfi:=jd hfh
   have hlen:(l.drop i).length=l.length - i:=List.length_drop
   refine run ?_
   refine uo 14 20 [0,1,2,3,6,7,8,9,10,11,12] [4,5,13] (⟨D,#[.slice none 0 0],24⟩::⟨C,#[.int .i64 d.kind,.int .i64 d.frame,.bool d.r,.bool d.w,.bool d.x,.bool d.af,.bool d.ng,.int .i64 d.soft,.int .i64 d.note],124⟩::⟨B,#[.slice mq ws.length mc],24⟩::hm1) ?_
   refine jT ?_
   refine CO (dA f) (fun T=>?_)
   refine xN (fun wc hG=>YJ us (hmem wc _ hG (fun b hb=>by simp [hb])) f (by rw [Va];exact hfh) (v1:=.slice (some ⟨T,0,none⟩) 1 1) (gV (xs:=[dA f]) (hG.here ⟨T,(dA f).toArray,3⟩ be7) (by simp [dA]) be7) be5) ?_
   rintro u hn3 ⟨v3,h3,rfl,hO3,hle3⟩
   refine xN (fun wc hG=>GZ (jO us f) (hO3.lie (fun b hb=>hG.here b (List.mem_append_left _ (hle3.mem hb))) (by simp [iP];omega)) f0 (W.lv + i) be5 (by rw [iP,Va];exact hf0) page hp (lq f) (xW be5 be5 be5) (by rw [iP];omega)) ?_
   rintro u hn4 ⟨v4,h4,rfl,hO4,x8⟩
   refine dw ?_
   refine lg ?_
   obtain ⟨g4,cap4,QI,rfl,rfl,hr4⟩:=hO4.row (n:=ws.length) (by rw [List.length_map,jG,iP,Va]) be5
   refine aP (⟨B,#[.slice mq ws.length mc],24⟩::⟨D,#[.slice none 0 0],24⟩::⟨C,#[.int .i64 d.kind,.int .i64 d.frame,.bool d.r,.bool d.w,.bool d.x,.bool d.af,.bool d.ng,.int .i64 d.soft,.int .i64 d.note],124⟩::[⟨g4,QI,47⟩]) (cnt1 x8) ?_
   refine run ?_
   obtain ⟨p',e7,hc7,YK⟩:=hsl.drop (i:=1) rfl hsc be5
   have e8:(l.drop i).drop 1=l.drop (i + 1):=by rw [List.drop_drop]
   have e9:Jq - i - 1=Jq - (i + 1):=by omega
   rw [e8,e9] at e7 hc7 YK
   refine as3 17 ?_
   refine uo 6 20 [0,1,2,3,4,5] [] (⟨B,#[.slice (some ⟨g4,0,none⟩) ws.length cap4],24⟩::⟨D,#[.slice none 0 0],24⟩::⟨C,#[.int .i64 d.kind,.int .i64 d.frame,.bool d.r,.bool d.w,.bool d.x,.bool d.af,.bool d.ng,.int .i64 d.soft,.int .i64 d.note],124⟩::[⟨g4,QI,47⟩]) ?_
   refine jT ?_
   refine UN be8 bg4 (fun hx2=>yV ay rfl rfl be8 be6 be5) ?_
   refine jT ?_
   refine dw ?_
   refine lg ?_
   rw [show sliced (some ⟨b5,o5,none⟩) (1:Int).toNat (l.drop i).length (Jq - i) 1=_ from e7]
   refine run ?_
   have hcons:(l.take lk).drop i=f::(l.take lk).drop (i + 1):=by
    have h1:i<(l.take lk).length:=by rw [List.length_take];omega
    rw [List.drop_eq_getElem_cons h1,List.getElem_take,← hf,List.getD_eq_getElem?_getD,List.getElem?_eq_getElem be5];rfl
   rw [hcons,jo] at dH
   refine aK ⟨i + 1,kH (jO us f) (sH f0 (W.lv + i) page) (W.lv + i) (lq f),f,p',some ⟨g4,0,none⟩,cap4,[⟨g4,QI,47⟩]⟩ ⟨hilt,dH,by dsimp only;rw [jG,iP,Va],(huw.jO f).kH _ _ _,hfh,YK,hc7,fun wc hp hG hb=>hO4.lie (fun b hb'=>hG.here b (hb b hb')) (by simp [jG,iP,Va];omega)⟩ (hm:=by dsimp only;omega) (h2:=by (exact aj))
  ·have hw8:=(jd hf0).2.1
   refine run ?_
   refine dJ (fun wc hG=>GZ us (hmem wc _ hG (fun b hb=>by simp [hb])) f0 3 be6 (by rw [Va];exact hf0) page hp d hm be5) ?_
   rintro u hn4 ⟨v4,h4,rfl,hO4,x8⟩
   obtain ⟨g4,cap4,QI,rfl,rfl,hr4⟩:=hO4.row (n:=ws.length) (by rw [List.length_map,jG,Va]) be5
   refine aP (⟨D,#[.slice none 0 0],24⟩::[⟨g4,QI,47⟩]) (cnt1 x8) ?_
   refine run ?_
   refine dJ (fun wc hG=>Em (l.drop i) _ (hsl.good hG) bf2) (fun v5 h5 hO5=>?_)
   obtain ⟨q5,cap5,rfl⟩:=hO5.own.opened
   refine fJ (_++h5) List.perm_append_comm ?_
   simp only [List.cons_append,List.nil_append]
   refine run ?_
   have hik:i=lk:=by simp at hc3;omega
   subst hik
   have h3:W.lv + i=3:=by omega
   rw [List.drop_eq_nil_of_le bf2,jo,h3] at dH
   refine qo ⟨_,[⟨g4,QI,47⟩],_,h5,rfl,?_,hO5.own,by (exact aj)⟩
   rw [← dH]
   exact hO4
theorem L8 (n cap:Nat) (q:Option Addr) (root:Int) (hn:n<1000000) (f:Int) (w:World):Fn Tryz.prog 239 [.agg #[.slice q n cap,.int .i64 root],.int .i64 f].toArray w [] (fun u _=>u=.bool (dm n f)):=by
 refine enter Tryz.func239 ?_
 refine aI ?_
 intro B
 refine aI ?_
 refine Xy (v:=.int .i64 ((n / 8:Nat):Int)) (hy:=fun hg1=>by simp only [hg1,bG];exact uj rfl rfl n 8 rfl rfl be6 be5) (h:=?_)
 refine aI ?_
 exact fin1 rfl
theorem au5 (f:Nat) (hf:f<1000000) (level:Nat) (hl:level<4) (page:Nat) (hp:page≤4095) (w:World):Fn Tryz.prog 285 [.int .i64 (f:Int),.int .i64 (level:Int),.int .i64 (page:Int)].toArray w [] (fun u _=>u=.int .i64 ((f * 8 + ru level page:Nat):Int)):=by
 refine enter Tryz.func285 ?_
 refine run ?_
 refine ak (fun wc hG=>U2 level hl page hp wc) ?_
 have OT:=zg level page
 refine run ?_
 exact fin1 rfl
theorem L9 {n:Nat} (f:Int) (hf:dm n f=true) (hn:n<1000000) (level:Nat) (hl:level<4) (page:Nat) (hp:page≤4095) (w:World):Fn Tryz.prog 285 [.int .i64 f,.int .i64 (level:Int),.int .i64 (page:Int)].toArray w [] (fun u _=>u=.int .i64 (sH f level page:Int)):=by
 have h:=jd hf
 have:=au5 f.toNat be5 level hl page hp w
 rw [h.2.2] at this
 exact this
theorem ai3 (ws:List Nat) (hw:lu ws) {w:World} {v:Value} (h:aF w v 1 (ws.map uV)) (root:Int) (p level:Nat) (hl:level<4) (hp:p<ws.length) (hn:ws.length<1000000):Fn Tryz.prog 240 [.agg #[v,.int .i64 root],.int .i64 (p:Int),.int .i64 (level:Int)].toArray w [] (fun u _=>u=sU (Ej 2 level (ws.getD p 0))):=by
 obtain ⟨q,cap,rfl,hne,hle⟩:=h.opened
 have hne0:ws ≠ []:=by intro e;subst e;simp at hp
 obtain ⟨b,o,rfl⟩:=hne hne0
 have hr:=au (h.row hp)
 simp only [uV,Nat.mul_one] at hr
 refine enter Tryz.func240 ?_
 refine run ?_
 intro B C
 refine run ?_
 refine ak (fun wc hG=>aa9 2 (.inr rfl) level hl _ (hw.at _) wc) ?_
 refine run ?_
 intro D
 refine run ?_
 exact eF rfl
theorem ab2 (ws:List Nat) (hw:lu ws) {w:World} {v:Value} (h:aF w v 1 (ws.map uV)) (root:Int) (p level:Nat) (hl:level<4) (hp:p<ws.length) (hn:ws.length<1000000):Fn Tryz.prog 240 [.agg #[v,.int .i64 root],.int .i64 (p:Int),.int .i64 (level:Int)].toArray w [] (fun u _=>u=sU (kS ws p level)):=ai3 ws hw h root p level hl hp hn
theorem qp (d:DsD) (q:Option Addr) (n cap:Nat) (hn:0<n) (hn2:n<1000000) (w:World):Fn Tryz.prog 152 [.agg #[.int .i64 d.kind,.int .i64 d.frame,.bool d.r,.bool d.w,.bool d.x,.bool d.af,.bool d.ng,.int .i64 d.soft,.int .i64 d.note,.slice q n cap]].toArray w [] (fun u _=>u=.int .i64 ((n - 1:Nat):Int)):=by
 refine enter Tryz.func152 ?_
 refine run ?_
 intro B
 refine run ?_
 refine fin1 ?_
 rw [show ((n - 1:Nat):Int)=(n:Int) - 1 by omega]
theorem Mc (ws:List Nat) {w:World} {n cap:Nat} {g:Nat} {cur:Array Value} (hO:Own 47 1 (.slice (some ⟨g,0,none⟩) n cap) [⟨g,cur,47⟩] (ws.map uV)) (root:Int) (p level:Nat) (hl:level<4) (hp:p<ws.length) (hn:ws.length<1000000) (d:DsD) (hm:d.may 2 level=true) (hN:dD [⟨g,cur,47⟩] w):
  Fn Tryz.prog 281 [.agg #[.slice (some ⟨g,0,none⟩) n cap,.int .i64 root],.int .i64 (p:Int),.int .i64 (level:Int),sU d].toArray w [g] (fun u hn=>u=.tuple #[]∧aC [⟨g,cur.setIfInBounds p (.int .u64 (d.word 2 level:Int)),47⟩] hn):=by
 obtain ⟨hsz,hlt,hnn,hset⟩:=hO.vH hp
 refine bU [⟨g,cur,47⟩] hN Tryz.func281 ?_
 refine run ?_
 intro B C
 refine run ?_
 have hw2:=GY 2 (.inr rfl) level hl d
 rw [hm] at hw2
 refine uo 12 11 [0,1,2,3,4,5,6,7,8,9,10] [11] [⟨C,#[.int .i64 d.kind,.int .i64 d.frame,.bool d.r,.bool d.w,.bool d.x,.bool d.af,.bool d.ng,.int .i64 d.soft,.int .i64 d.note],124⟩,⟨B,#[.slice (some ⟨g,0,none⟩) n cap,.int .i64 root],239⟩] ?_
 refine jT ?_
 refine CP (fun wc hx hG=>hw2 wc) ?_
 refine jT ?_
 refine nJ (b:=g) (tb:=47) (cs:=cur) (hp':=[⟨C,#[.int .i64 d.kind,.int .i64 d.frame,.bool d.r,.bool d.w,.bool d.x,.bool d.af,.bool d.ng,.int .i64 d.soft,.int .i64 d.note],124⟩,⟨B,#[.slice (some ⟨g,0,none⟩) n cap,.int .i64 root],239⟩]) (cs':=cur.setIfInBounds p (.int .u64 (d.word 2 level:Int))) ?_ aJ
 refine dw ?_
 refine lg ?_
 refine run ?_
 exact fin0 ⟨rfl,by (exact aj)⟩
theorem YL (ws:List Nat) (hw:lu ws) {w:World} {v:Value} (h:aF w v 1 (ws.map uV)) (root:Int) (page:Nat) (hp:page≤4095) (down:Nat) (hd:down<4) (hn:ws.length<1000000):Fn Tryz.prog 241 [.agg #[v,.int .i64 root],.int .i64 (page:Int),.int .i64 (down:Int)].toArray w [] (fun u hn=>∃ v2 h2 d,u=.tuple #[.agg #[.int .i64 d.kind,.int .i64 d.frame,.bool d.r,.bool d.w,.bool d.x,.bool d.af,.bool d.ng,.int .i64 d.soft,.int .i64 d.note,v2],.int .i64 (bif (bz ws root page down).ok then 0 else 2)]∧Own 3 1 v2 h2 ((bz ws root page down).fs.map dA)∧aC h2 hn∧d=(bz ws root page down).d):=by
 obtain ⟨q,cap,rfl,hne,hle⟩:=h.opened
 refine enter Tryz.func241 ?_
 refine run ?_
 intro B C
 refine run ?_
 refine aX (σ:=Nat × Int × List Int × DsD × Value × Hp) (fun s=>[(8,.int .i64 s.2.1),(9,.int .i64 (s.1:Int))]) (fun s=>⟨C,#[.int .i64 s.2.2.2.1.kind,.int .i64 s.2.2.2.1.frame,.bool s.2.2.2.1.r,.bool s.2.2.2.1.w,.bool s.2.2.2.1.x,.bool s.2.2.2.1.af,.bool s.2.2.2.1.ng,.int .i64 s.2.2.2.1.soft,.int .i64 s.2.2.2.1.note,s.2.2.2.2.1],242⟩::⟨B,#[.slice q ws.length cap,.int .i64 root],239⟩::s.2.2.2.2.2) (fun s=>s.1<4∧s.2.2.1.length=s.1∧fZ ws page down (4 - s.1) s.1 s.2.1 s.2.2.1 s.2.2.2.1=bz ws root page down∧Acc 3 1 s.2.2.2.2.1 s.2.2.2.2.2 (s.2.2.1.map dA)) (fun s=>4 - s.1) (0,root,[],dN,.slice none 0 0,[]) ⟨(by decide:0<4),rfl,rfl,Acc.nil _ _⟩ ?_ (hh:=by exact aC.refl _)
 rintro ⟨level,f,fs,d,v2,ha⟩ m hm ⟨hl,hfs,hwk,hA⟩
 dsimp only at hm hl hfs hwk hA ⊢
 obtain ⟨q2,cap2,rfl⟩:=hA.own.opened
 refine run ?_
 refine ak (fun wc hG=>L8 ws.length cap q root hn f wc) ?_
 refine run ?_
 have h4:4 - level=(3 - level) + 1:=by omega
 rw [h4,fZ] at hwk
 refine ah _ rfl (fun hc=>?_) (fun hc=>?_)
 ·have hh:dm ws.length f=false:=by simpa using hc
  rw [hh,cond_false] at hwk
  rw [← hwk]
  refine run ?_
  refine jl ⟨_,ha,d,rfl,hA.own,by (exact aj),rfl⟩
 ·have hh:dm ws.length f=true:=by simpa using hc
  rw [hh,cond_true] at hwk
  refine run ?_
  intro T
  refine kX (c:=dA f) (hp':=[⟨T,#[.int .i64 f],3⟩,⟨C,#[.int .i64 d.kind,.int .i64 d.frame,.bool d.r,.bool d.w,.bool d.x,.bool d.af,.bool d.ng,.int .i64 d.soft,.int .i64 d.note,.slice q2 (fs.map dA).length cap2],242⟩,⟨B,#[.slice q ws.length cap,.int .i64 root],239⟩]) hA (fun v' ha' hA'=>?_) bf2 (bQ (m:=1) mh rfl) (hperm:=by (exact aJ))
  rw [show fs.map dA++[dA f]=(fs++[f]).map dA by simp] at hA'
  obtain ⟨q3,cap3,rfl⟩:=hA'.own.opened
  refine aP (⟨C,#[.int .i64 d.kind,.int .i64 d.frame,.bool d.r,.bool d.w,.bool d.x,.bool d.af,.bool d.ng,.int .i64 d.soft,.int .i64 d.note,.slice q2 (fs.map dA).length cap2],242⟩::⟨B,#[.slice q ws.length cap,.int .i64 root],239⟩::ha') aj ?_
  refine run ?_
  refine dL 7 ?_
  refine bZ ?_
  refine dM (fun wc hG=>L9 f hh hn level hl page hp wc) ?_
  refine bZ ?_
  refine dM (fun wc hG=>ab2 ws hw (h.good hG) root _ level hl (CZ hh) hn) ?_
  generalize hd':kS ws (sH f level page) level=d' at hwk
  have htab:d'.kind=1→level<3:=fun e=>A7 (by rw [hd'];exact e)
  refine bZ ?_
  refine az ?_
  have e1:decide ((level:Int)=(down:Int))=decide (level=down):=by rw [Bool.eq_iff_iff,decide_eq_true_eq,decide_eq_true_eq];omega
  refine ah _ rfl (fun hc2=>?_) (fun hc2=>?_)
  ·rw [e1] at hc2
   rw [hc2,cond_true] at hwk
   rw [← hwk]
   refine az ?_
   refine jl ⟨_,ha',d',rfl,hA'.own,by (exact aj),rfl⟩
  ·rw [e1] at hc2
   rw [hc2,cond_false] at hwk
   have h3:=htab (by simp at hc2;exact hc2.1)
   refine run ?_
   refine aK (level + 1,d'.frame,fs++[f],d',.slice q3 ((fs++[f]).map dA).length cap3,ha') ⟨by dsimp only;omega,by simp [hfs],?_,hA'⟩
   rw [← hwk]
   show fZ ws page down (4 - (level + 1)) _ _ _ _=_
   rw [show 4 - (level + 1)=3 - level by omega]
end
section
theorem Vd {P:Program} {n:Nat} {w0:World} {mu:List Nat} {l:Fm} {hp:Hp} {Q:Exit→Fm→Hp→Prop} {all:Array Oper} {rest:List Oper} (h:∀ w,Good w0 mu hp w→Ops P n w0 mu all rest l hp Q):Ops P n w0 mu all rest l hp Q:=by
 intro a w hk hG
 exact h w hG a w hk hG
section
variable {P : Program} {n : Nat} {w0 : World} {mu : List Nat} {lf : Fm} {hp : Hp} {dd : Option Tmp} {ty : TypeId} {pos : String} {af : Array Edge}
theorem Md {x:Operand} {p:Addr} (hx:ev lf x=some (.pointer (some p))):zY P n w0 mu lf hp ⟨dd,.nilCheck x,ty,pos,af,none⟩ (.pointer (some p)):=⟨rfl,fun a w hk _=>by simp [execOp,hk.ev hx]⟩
theorem YM {T:Tab} (ok:aZ P T) {t:TypeId} {x:Operand} {k b off k' off':Nat} {os:List Nat} (hx:ev lf x=some (.pointer (some ⟨b,off,none⟩))) (ho:lk T.fo t=some os) (hk2:nth os k=some k') (he:off + k'=off'):zY P n w0 mu lf hp ⟨dd,.fieldAddr t x k,ty,pos,af,none⟩ (.pointer (some ⟨b,off',none⟩)):=by
 have hf:=ok.gfo ho (by rw [lS] at hk2;simpa using hk2)
 subst he
 refine ⟨rfl,fun a w hk _=>?_⟩
 simp only [execOp,hk.ev hx]
 unfold Tt at hf
 cases hu:P.underlying t with
 | none=>rw [hu] at hf;cases hf
 | some dd=>
  rw [hu] at hf
  cases dd with
  | struct fs=>
   simp only at hf
   cases hq:fs[k]? with
   | none=>rw [hq] at hf;cases hf
   | some f=>
    rw [hq] at hf
    simp only [Option.bind_some] at hf
    cases hz:fP P f.type with
    | none=>rw [hz] at hf;cases hf
    | some s=>
     rw [hz] at hf
     cases s with
     | zero=>cases hf
     | succ s=>
      simp only [Option.some.injEq] at hf
      subst hf
      cases hi:P.info? f.type with
      | none=>simp [fP,hi] at hz
      | some i=>
       have hsz:i.size=s + 1:=by simpa [fP,hi] using hz
       simp [Instr.fieldAt,Instr.sureAddr,run_underlying hu w,hq,fieldPlace,sizeOf,typeInfo,hi,hsz,add_lit]
  | _=>cases hf
variable {l : Fm} {all : Array Oper} {iv : Fm} {i d : Nat} {ds : List (Nat × Nat)} {D : List Nat} {Y : Fm → Prop}
end
section
variable {n : Nat} {w0 : World} {mu : List Nat} {l : Fm} {hp : Hp} {all : Array Oper} {iv : Fm} {i d : Nat} {ds : List (Nat × Nat)} {D : List Nat} {Y : Fm → Prop} {ty : TypeId} {pos : String} {af : Array Edge}
theorem Fa {x:Operand} {p:Addr} (h:gJ Tryz.prog n w0 mu all ds l hp Y D ((i,.pointer (some p))::iv)) (ho:all[i]?=some ⟨some d,.nilCheck x,ty,pos,af,none⟩:=by rfl) (hx:ev (aG ds iv af.toList++l) x=some (.pointer (some p)):=by rfl):gJ Tryz.prog n w0 mu all ds l hp Y (i::D) iv:=BX ho (Md hx) h
theorem G5 {t:TypeId} {x:Operand} {k b off k' off':Nat} {os:List Nat} (h:gJ Tryz.prog n w0 mu all ds l hp Y D ((i,.pointer (some ⟨b,off',none⟩))::iv)) (ho:all[i]?=some ⟨some d,.fieldAddr t x k,ty,pos,af,none⟩:=by rfl) (hx:ev (aG ds iv af.toList++l) x=some (.pointer (some ⟨b,off,none⟩)):=by rfl) (hfo:lk Tb.fo t=some os:=by rfl) (hk:nth os k=some k':=by rfl) (he:off + k'=off':=by rfl):gJ Tryz.prog n w0 mu all ds l hp Y (i::D) iv:=BX ho (YM ay hx hfo hk he) h
theorem G6 {f:FuncId} {xs:List Operand} {vs:List Value} {tys:Array TypeId} {v:Value} {X:Fm→Prop} {S:List Nat} (hc:∀ w hx,Good w0 mu (hx++hp) w→Fn Tryz.prog f vs.toArray w [] (fun u _=>u=v)) (h:je Tryz.prog n w0 mu all ds l hp X S ((i,v)::iv)) (ho:all[i]?=some ⟨some d,.call { callee:=.value (.func f),args:=xs.toArray,argTypes:=tys },ty,pos,af,none⟩:=by rfl) (bH:mem iF f=true:=by rfl) (hv:evs (aG ds iv af.toList++l) xs=some vs:=by rfl):je Tryz.prog n w0 mu all ds l hp X (i::S) iv:=
 jA ho (fun hx=>fF (fC f bH) hv (fun w hG=>hc w hx hG)) h
end
section
variable {P : Program} {n : Nat} {w0 : World} {mu : List Nat} {l : Fm} {h0 hp hc : Hp} {all : Array Oper} {iv aH aS : Fm} {i d t0 : Nat} {ds : List (Nat × Nat)} {S r : List Nat} {X : Fm → Prop} {Y : Fm → Hp → Prop} {op : Op} {ty : TypeId} {pos : String} {af : Array Edge} {v : Value} {j dj : Nat} {want b : Bool}
end
section
variable {n : Nat} {w0 : World} {mu : List Nat} {l : Fm} {h0 hp hc : Hp} {all : Array Oper} {iv aH aS : Fm} {i d : Nat} {ds : List (Nat × Nat)} {r : List Nat} {Y : Fm → Hp → Prop} {ty : TypeId} {pos : String} {af : Array Edge}
end
section
variable {P : Program} {n : Nat} {w0 : World} {mu : List Nat} {l : Fm} {hp : Hp} {dd : Option Tmp} {ty : TypeId} {pos : String} {af : Array Edge} {gg : Option (Nat × Bool)} {t u : TypeId} {x y : Operand}
end
section
variable {P : Program} {n : Nat} {w0 : World} {mu : List Nat} {l : Fm} {hp : Hp} {Q : Exit → Fm → Hp → Prop} {all : Array Oper} {rest : List Oper} {dst : Option Nat} {op : Op} {ty : TypeId} {pos : String} {af : Array Edge}
theorem Ve {j dj:Nat} {want b:Bool} (h:Ops P n w0 mu all (⟨dst,op,ty,pos,af,none⟩::rest) l hp Q) (hw:iH b want=true) (hj:(all[j]?).bind (·.dst)=some dj:=by rfl) (hb:look l dj=some (.bool b):=by rfl) (hdj:Nat.blt dj n=true:=by rfl):Ops P n w0 mu all (⟨dst,op,ty,pos,af,some (j,want)⟩::rest) l hp Q:=by
 intro a w hk hG
 have h1:=h a w hk hG
 have h2:=iJ (o:=⟨dst,op,ty,pos,af,some (j,want)⟩) (c0:=true) hk rfl hj hb hdj
 rw [hw] at h2
 replace h2:Region.wanted (⟨dst,op,ty,pos,af,some (j,want)⟩:Oper) (yielded all a.tmps)=true:=h2
 unfold wpList at h1 ⊢
 rw [if_pos h2]
 rw [if_pos (by simp [Region.wanted])] at h1
 exact h1
end
theorem aF.takeN {w:World} {α:Type} {f:α→List Value} {xs:List α} {p:Option Addr} {n cap sz k:Nat} (h:aF w (.slice p n cap) sz (xs.map f)) (hk:k≤xs.length):aF w (.slice p k cap) sz ((xs.take k).map f):=by
 obtain ⟨⟨q,c,e,hne⟩,hle⟩:=h
 injection e with e1 e2 e3
 subst e1 e3
 have hl:((xs.take k).map f).length=k:=by rw [List.length_map,List.length_take];omega
 refine ⟨⟨_,_,by rw [hl],fun hx=>?_⟩,by rw [hl];rw [List.length_map] at hle;omega⟩
 obtain ⟨b,off,rfl,hr⟩:=hne (by intro e;apply hx;rw [List.map_eq_nil_iff] at e ⊢;rw [e];simp)
 refine ⟨b,off,rfl,fun i c hi=>hr i c ?_⟩
 rw [List.map_take,List.getElem?_take] at hi
 split at hi
 ·exact hi
 ·cases hi
attribute [local irreducible] Hy St Ops DH dG je iI gJ DS gY
end
section
attribute [local irreducible] Hy St Ops DH dG
def Fb (n:Nat) (page:Int):Bool:=fK n && PtD.di page 0 4095
theorem QJ {n:Nat} {page:Int} (h:Fb n page=true):fK n=true∧(8≤n∧n≤512)∧((page.toNat:Nat):Int)=page∧page.toNat≤4095:=by
 simp only [Fb,Bool.and_eq_true] at h
 have h1:=dh h.1
 have h2:=oN h.2
 exact ⟨h.1,⟨h1.1,h1.2.1⟩,h2.1,h2.2⟩
theorem QK {n cap:Nat} {q:Option Addr} (hn:n<1000000) (root page:Int) (down:Nat) (hd:down<4) (hk:Fb n page=false) (w:World):Fn Tryz.prog 151 [.agg #[.slice q n cap],.int .i64 root,.int .i64 page,.int .i64 (down:Int)].toArray w [] (fun u hn=>u=.tuple #[.agg #[.slice none 0 0,.int .i64 0],.agg #[.int .i64 0,.int .i64 0,.bool false,.bool false,.bool false,.bool false,.bool false,.int .i64 0,.int .i64 0,.slice none 0 0],.int .i64 1]):=by
 refine enter Tryz.func151 ?_
 refine run ?_
 intro B C D
 refine run ?_
 refine ak (fun wc hG=>xY n cap be5 q wc) ?_
 refine az ?_
 refine ah _ rfl (fun hc=>?_) (fun hc=>?_)
 ·refine run ?_
  refine uo 4 2 [0,1] [2,3] [⟨D,#[.int .i64 0,.int .i64 0,.bool false,.bool false,.bool false,.bool false,.bool false,.int .i64 0,.int .i64 0,.slice none 0 0],242⟩,⟨C,#[.slice none 0 0,.int .i64 0],239⟩,⟨B,#[.slice q n cap],24⟩] ?_
  refine jT ?_
  refine nJ (b:=C) (tb:=239) (cs:=#[.slice none 0 0,.int .i64 0]) (cs':=#[.slice none 0 0,.int .i64 0]) (hp':=[⟨D,#[.int .i64 0,.int .i64 0,.bool false,.bool false,.bool false,.bool false,.bool false,.int .i64 0,.int .i64 0,.slice none 0 0],242⟩,⟨B,#[.slice q n cap],24⟩]) ?_ aJ
  refine nJ (b:=D) (tb:=242) (cs:=#[.int .i64 0,.int .i64 0,.bool false,.bool false,.bool false,.bool false,.bool false,.int .i64 0,.int .i64 0,.slice none 0 0]) (cs':=#[.int .i64 0,.int .i64 0,.bool false,.bool false,.bool false,.bool false,.bool false,.int .i64 0,.int .i64 0,.slice none 0 0]) (hp':=[⟨C,#[.slice none 0 0,.int .i64 0],239⟩,⟨B,#[.slice q n cap],24⟩]) ?_ aJ
  refine dw ?_
  refine lg ?_
  refine run ?_
  exact aa' rfl
 ·exfalso
  simp only [Fb,PtD.di] at hk
  cases hm:fK n with
  | false=>rw [hm] at hc;simp at hc
  | true=>rw [hm] at hk hc;simp at hk hc;omega
theorem Vf {fs:List Int} {w:World} {v:Value} (d:DsD) (h:aF w v 1 (fs.map dA)) (hl:fs.length≤4) (h0:0<fs.length) {n:Nat} (hn:n<1000000) (hf:∀ f∈fs,dm n f=true) (page:Nat) (hp:page≤4095):Fn Tryz.prog 282 [.agg #[.int .i64 d.kind,.int .i64 d.frame,.bool d.r,.bool d.w,.bool d.x,.bool d.af,.bool d.ng,.int .i64 d.soft,.int .i64 d.note,v],.int .i64 (page:Int)].toArray w [] (fun u _=>u=.int .i64 (sH (fs.getD (fs.length - 1) 0) (fs.length - 1) page:Int)):=by
 obtain ⟨q,cap,rfl,hne,hle⟩:=h.opened
 obtain ⟨b,o,rfl⟩:=hne (by intro e;subst e;simp at h0)
 have hr:=au (h.row (k:=fs.length - 1) be5)
 simp only [Nat.mul_one] at hr
 refine enter Tryz.func282 ?_
 refine run ?_
 intro B
 refine run ?_
 refine dL 10 ?_
 refine bZ ?_
 refine dM (fun wc hG=>qp d _ fs.length cap h0 be5 wc) ?_
 refine bZ ?_
 refine dM (fun wc hG=>qp d _ fs.length cap h0 be5 wc) ?_
 refine bZ ?_
 refine dM (fun wc hG=>L9 (fs.getD (fs.length - 1) 0) (hf _ bh6) hn (fs.length - 1) be5 page hp wc) ?_
 refine bZ ?_
 refine run ?_
 exact fin1 rfl
theorem Fe (W:uB) {w:World} {v:Value} (d:DsD) (h:aF w v 1 (W.fs.map dA)) (hl:W.fs.length≤4) (h0:0<W.fs.length) {n:Nat} (hn:n<1000000) (hf:∀ f∈W.fs,dm n f=true) (page:Nat) (hp:page≤4095):Fn Tryz.prog 282 [.agg #[.int .i64 d.kind,.int .i64 d.frame,.bool d.r,.bool d.w,.bool d.x,.bool d.af,.bool d.ng,.int .i64 d.soft,.int .i64 d.note,v],.int .i64 (page:Int)].toArray w [] (fun u _=>u=.int .i64 (W.place page:Int)):=Vf d h hl h0 hn hf page hp
theorem uB.Fine.Jr {W:uB} {ws:List Nat} {page down:Nat} (h:W.Fine ws page down):W.place page<ws.length:=by
 have h1:=h.pos
 exact CZ (h.has _ (by rw [List.getD_eq_getElem?_getD,uB.lv,List.getElem?_eq_getElem be5];simp))
theorem zi {w:World} (xs:List Nat) (v:Value) (root:Int) (h:aF w v 1 (xs.map uV)) (hl:xs.length<1000000):Fn Tryz.prog 280 [.agg #[v,.int .i64 root]].toArray w [] (fun u hn=>∃ v2 h2,u=.agg #[v2,.int .i64 root]∧Own 47 1 v2 h2 (xs.map uV)∧aC h2 hn):=by
 obtain ⟨q,cap,rfl,hne,hle⟩:=h.opened
 refine enter Tryz.func280 ?_
 refine run ?_
 intro B
 refine run ?_
 intro C
 refine run ?_
 refine uo 9 8 [0,1,2,5,6] [3,4,7,8] [⟨B,#[.slice q xs.length cap,.int .i64 root],239⟩] ?_
 refine jT ?_
 refine xN (fun wc hG=>oz _ (xs.map uV) (h.good hG) bg7 (by simpa using hl)) ?_
 intro u hn2 hO
 obtain ⟨q2,cap2,rfl⟩:=hO.opened
 refine GK ?_
 refine GK ?_
 refine nJ (b:=C) (tb:=239) (cs:=#[.slice none 0 0,.int .i64 0]) (cs':=#[.slice q2 (xs.map uV).length cap2,.int .i64 root]) (hp':=hn2++[⟨B,#[.slice q xs.length cap,.int .i64 root],239⟩]) ?_ aJ
 refine dw ?_
 refine lg ?_
 refine run ?_
 refine eF ⟨_,hn2,rfl,hO,by (exact aj)⟩
theorem YN (n cap:Nat) (q:Option Addr) (root:Int) (hn:n<1000000) (d:DsD) (fs l:List Int) {w:World} {v1 v2:Value} (h1:aF w v1 1 (l.map dA)) (hc1:∃ p c,v1=.slice p l.length c∧l.length≤c) (h2:aF w v2 1 (fs.map dA)) (hroot:root∈fs):Fn Tryz.prog 284 [.agg #[.slice q n cap,.int .i64 root],.agg #[.int .i64 d.kind,.int .i64 d.frame,.bool d.r,.bool d.w,.bool d.x,.bool d.af,.bool d.ng,.int .i64 d.soft,.int .i64 d.note,v2],v1].toArray w [] (fun u _=>u=.bool (mY n fs l)):=by
 obtain ⟨q1,cap1,rfl,hcap1⟩:=hc1
 obtain ⟨_,_,e1,hne1,_⟩:=h1.opened
 injection e1 with e1
 subst e1
 obtain ⟨q2,cap2,rfl,hne2,hle2⟩:=h2.opened
 refine enter Tryz.func284 ?_
 refine run ?_
 intro B C
 refine run ?_
 refine aX (σ:=Nat) (fun k=>[(11,.int .i64 (k:Int))]) (fun _=>[⟨C,#[.int .i64 d.kind,.int .i64 d.frame,.bool d.r,.bool d.w,.bool d.x,.bool d.af,.bool d.ng,.int .i64 d.soft,.int .i64 d.note,.slice q2 fs.length cap2],242⟩,⟨B,#[.slice q n cap,.int .i64 root],239⟩]) (fun k=>k≤l.length∧∀ j,j<k→nK n fs l j=true) (fun k=>l.length - k) 0 ⟨Nat.zero_le _,fun j hj=>absurd hj be5⟩ ?_
 rintro k m rfl ⟨hk,hyes⟩
 refine run ?_
 refine ah _ rfl (fun hc=>?_) (fun hc=>?_)
 ·have hlt:k<l.length:=by simp at hc;omega
  obtain ⟨b,o,rfl⟩:=hne1 be'
  have hr:=au (h1.row hlt)
  simp only [Nat.mul_one] at hr
  refine run ?_
  refine ak (fun wc hG=>L8 n cap q root hn _ wc) ?_
  refine aI ?_
  have hsl:aF w (.slice (some ⟨b,o,none⟩) k cap1) 1 ((l.take k).map dA):=h1.takeN be5
  refine Xy (v:=.slice (some ⟨b,o,none⟩) k cap1) (hy:=fun hg1=>by simp only [hg1,bG];exact mW ay rfl rfl be8 be5 be5 (m':=k) be7 (.inr ⟨_,_,rfl⟩)) (h:=?_)
  refine aI ?_
  refine dO (fun hg wc hG=>jg _ _ _ (hsl.good hG)) ?_
  refine aI ?_
  refine dO (fun hg wc hG=>jg _ fs _ (h2.good hG)) ?_
  refine aI ?_
  have e1:(!dm n (l.getD k default) || decide (l.getD k default=root) || (l.take k).any (fun t=>decide (t=l.getD k default)) || fs.any (fun t=>decide (t=l.getD k default)))=!nK n fs l k:=by
   unfold nK
   show _=!(dm n (l.getD k default) && !(l.take k).any (fun t=>decide (t=l.getD k default)) && !fs.any (fun t=>decide (t=l.getD k default)))
   generalize l.getD k default=x
   by_cases hx:x=root
   ·have:fs.any (fun t=>decide (t=x))=true:=by rw [List.any_eq_true];exact ⟨x,by rw [hx];exact hroot,by simp⟩
    rw [this];simp
   ·rw [decide_eq_false hx]
    cases dm n x<;>cases (l.take k).any (fun t=>decide (t=x))<;>cases fs.any (fun t=>decide (t=x))<;>rfl
  refine ah _ rfl (fun hc2=>?_) (fun hc2=>?_)
  ·rw [e1] at hc2
   refine run ?_
   refine fin1 ?_
   rw [zM hlt (by simpa using hc2)]
  ·rw [e1] at hc2
   refine run ?_
   refine aK (k + 1) ⟨hlt,fun j hj=>?_⟩
   rcases Nat.lt_succ_iff_lt_or_eq.1 hj with hj | rfl
   ·exact hyes j hj
   ·simpa using hc2
 ·refine run ?_
  refine fin1 ?_
  have:k=l.length:=by simp at hc;omega
  subst this
  rw [wE hyes]
theorem Df (ws:List Nat) (hw:lu ws) {w:World} {v:Value} (h:aF w v 1 (ws.map uV)) (hm:fK ws.length=true) (root:Int) (page:Nat) (hp:page≤4095) (down:Nat) (hd:down<4):Fn Tryz.prog 151 [.agg #[v],.int .i64 root,.int .i64 (page:Int),.int .i64 (down:Int)].toArray w [] (fun u hn=>∃ v2 h2 d,u=.tuple #[.agg #[v,.int .i64 root],.agg #[.int .i64 d.kind,.int .i64 d.frame,.bool d.r,.bool d.w,.bool d.x,.bool d.af,.bool d.ng,.int .i64 d.soft,.int .i64 d.note,v2],.int .i64 (bif (bz ws root page down).ok then 0 else 2)]∧Own 3 1 v2 h2 ((bz ws root page down).fs.map dA)∧aC h2 hn∧d=(bz ws root page down).d):=by
 have Au:=dh hm
 obtain ⟨q,cap,rfl,hne,hle⟩:=h.opened
 refine enter Tryz.func151 ?_
 refine run ?_
 intro B C D
 refine run ?_
 refine ak (fun wc hG=>xY ws.length cap be5 q wc) ?_
 rw [hm]
 refine az ?_
 refine ah _ rfl (fun hc=>?_) (fun hc=>?_)
 ·exfalso;simp at hc;omega
 refine run ?_
 refine dJ (fun wc hG=>YL ws hw (h.good hG) root page hp down hd be5) ?_
 rintro u hn2 ⟨v2,h2,d,rfl,hO,hle2,hdd⟩
 obtain ⟨q2,cap2,e2⟩:=hO.opened
 rw [List.length_map] at e2
 subst e2
 refine iw hle2 ?_
 refine fJ (_++h2) List.perm_append_comm ?_
 simp only [List.cons_append,List.nil_append]
 refine run ?_
 refine uo 5 3 [0,1,2] [3,4] (⟨D,#[.int .i64 d.kind,.int .i64 d.frame,.bool d.r,.bool d.w,.bool d.x,.bool d.af,.bool d.ng,.int .i64 d.soft,.int .i64 d.note,.slice q2 (bz ws root page down).fs.length cap2],242⟩::⟨C,#[.slice q ws.length cap,.int .i64 root],239⟩::⟨B,#[.slice q ws.length cap],24⟩::h2) ?_
 refine jT ?_
 refine cSame ?_
 refine cSame ?_
 refine dw ?_
 refine lg ?_
 refine run ?_
 refine aa' ⟨_,h2,d,rfl,hO,by (exact aj),hdd⟩
theorem G7 (ws:List Nat) (hw:lu ws) {w:World} {v:Value} (h:aF w v 1 (ws.map uV)) (hm:fK ws.length=true) (root:Int) (page:Nat) (hp:page≤4095):Fn Tryz.prog 70 [.agg #[v],.int .i64 root,.int .i64 (page:Int)].toArray w [] (fun u hn=>u=.tuple #[sU (kJ ws root page).d,.int .i64 ((kJ ws root page).level:Int),.int .i64 (kJ ws root page).e]):=by
 have Au:=dh hm
 refine enter Tryz.func70 ?_
 obtain ⟨q,cap,rfl,hne,hle⟩:=h.opened
 refine run ?_
 intro B C
 refine run ?_
 refine dJ (fun wc hG=>Df ws hw (h.good hG) hm root page hp 3 be6) ?_
 rintro u hn2 ⟨v2,h2,d,rfl,hO,hle2,hdd⟩
 obtain ⟨q2,cap2,e2⟩:=hO.opened
 rw [List.length_map] at e2
 subst e2
 refine iw hle2 ?_
 refine fJ (_++h2) List.perm_append_comm ?_
 simp only [List.cons_append,List.nil_append]
 refine run ?_
 intro E F
 refine run ?_
 have hok:(bif (bz ws root page 3).ok then (0:Int) else 2)=(kJ ws root page).e:=by cases hk:(bz ws root page 3).ok<;>simp [kJ,hk]
 rw [hok]
 refine ah _ rfl (fun hc=>?_) (fun hc=>?_)
 ·have hg:kJ ws root page=⟨dN,0,2⟩:=by
   cases hk:(bz ws root page 3).ok with
   | false=>simp [kJ,hk]
   | true=>simp [kJ,hk] at hc
  rw [hg]
  refine run ?_
  exact U9 (cs:=#[.int .i64 0,.int .i64 0,.bool false,.bool false,.bool false,.bool false,.bool false,.int .i64 0,.int .i64 0]) rfl
 ·have hk:(bz ws root page 3).ok=true:=by
   cases hk:(bz ws root page 3).ok with
   | false=>simp [kJ,hk] at hc
   | true=>rfl
  have hg:kJ ws root page=⟨(bz ws root page 3).d,(bz ws root page 3).lv,0⟩:=by simp [kJ,hk]
  rw [hg]
  have lC:=oO hk
  have hpos:=lC.pos
  refine run ?_
  rw [hdd]
  refine uo 5 4 [0,1,2,3] [4] (⟨F,#[.int .i64 (bz ws root page 3).d.kind,.int .i64 (bz ws root page 3).d.frame,.bool (bz ws root page 3).d.r,.bool (bz ws root page 3).d.w,.bool (bz ws root page 3).d.x,.bool (bz ws root page 3).d.af,.bool (bz ws root page 3).d.ng,.int .i64 (bz ws root page 3).d.soft,.int .i64 (bz ws root page 3).d.note,.slice q2 (bz ws root page 3).fs.length cap2],242⟩::⟨E,#[.slice q ws.length cap,.int .i64 root],239⟩::⟨B,#[.slice q ws.length cap],24⟩::h2) ?_
  refine jT ?_
  refine CP (fun wc hx hG=>qp _ q2 (bz ws root page 3).fs.length cap2 hpos (by have:=lC.le;omega) wc) ?_
  refine jT ?_
  refine nJ (b:=C) (tb:=124) (cs:=#[.int .i64 0,.int .i64 0,.bool false,.bool false,.bool false,.bool false,.bool false,.int .i64 0,.int .i64 0]) (cs':=#[.int .i64 (bz ws root page 3).d.kind,.int .i64 (bz ws root page 3).d.frame,.bool (bz ws root page 3).d.r,.bool (bz ws root page 3).d.w,.bool (bz ws root page 3).d.x,.bool (bz ws root page 3).d.af,.bool (bz ws root page 3).d.ng,.int .i64 (bz ws root page 3).d.soft,.int .i64 (bz ws root page 3).d.note]) (hp':=⟨F,#[.int .i64 (bz ws root page 3).d.kind,.int .i64 (bz ws root page 3).d.frame,.bool (bz ws root page 3).d.r,.bool (bz ws root page 3).d.w,.bool (bz ws root page 3).d.x,.bool (bz ws root page 3).d.af,.bool (bz ws root page 3).d.ng,.int .i64 (bz ws root page 3).d.soft,.int .i64 (bz ws root page 3).d.note,.slice q2 (bz ws root page 3).fs.length cap2],242⟩::⟨E,#[.slice q ws.length cap,.int .i64 root],239⟩::⟨B,#[.slice q ws.length cap],24⟩::h2) ?_ aJ
  refine dw ?_
  refine lg ?_
  refine run ?_
  exact U9 rfl
theorem OU (ws:List Nat) (hw:lu ws) {w:World} {v:Value} (h:aF w v 1 (ws.map uV)) (hm:fK ws.length=true) (root:Int) (page:Nat) (hp:page≤4095) (level:Nat) (hl:level<4) (d:DsD) (hd:d.may 2 level=true):Fn Tryz.prog 329 [.agg #[v],.int .i64 root,.int .i64 (page:Int),.int .i64 (level:Int),sU d].toArray w [] (fun u hn=>ah9 (eG ws root page level d) u hn):=by
 have Au:=dh hm
 refine enter Tryz.func329 ?_
 obtain ⟨q,cap,rfl,hne,hle⟩:=h.opened
 refine run ?_
 intro B C D
 refine run ?_
 refine ak (fun wc hG=>xX 2 (.inr rfl) level hl d wc) ?_
 rw [hd]
 refine az ?_
 refine dJ (fun wc hG=>Df ws hw (h.good hG) hm root page hp level hl) ?_
 rintro u hn2 ⟨v2,h2,dd,rfl,hO,hle2,hdd⟩
 obtain ⟨q2,cap2,e2⟩:=hO.opened
 rw [List.length_map] at e2
 subst e2
 refine iw hle2 ?_
 refine fJ (_++h2) List.perm_append_comm ?_
 simp only [List.cons_append,List.nil_append]
 refine run ?_
 intro E F
 refine run ?_
 refine ah _ rfl (fun hc=>?_) (fun hc=>?_)
 ·have hk:(bz ws root page level).ok=false:=by
   cases hk:(bz ws root page level).ok with
   | false=>rfl
   | true=>simp [hk] at hc
  have hg:eG ws root page level d=badM 2:=by simp only [eG,hk];rfl
  rw [hg,hk]
  refine run ?_
  exact jl ⟨_,_,rfl,Own.nil _ _,trivial⟩
 ·have hk:(bz ws root page level).ok=true:=by
   cases hk:(bz ws root page level).ok with
   | false=>simp [hk] at hc
   | true=>rfl
  have lC:=oO hk
  refine run ?_
  have hpos:=lC.pos
  have En:=lC.le
  refine ak (fun wc hG=>qp dd q2 (bz ws root page level).fs.length cap2 hpos be5 wc) ?_
  refine run ?_
  have e1:decide ((((bz ws root page level).fs.length - 1:Nat):Int)=(level:Int))=decide ((bz ws root page level).lv=level):=by rw [Bool.eq_iff_iff,decide_eq_true_eq,decide_eq_true_eq,uB.lv];omega
  rw [e1]
  refine ah _ rfl (fun hc2=>?_) (fun hc2=>?_)
  ·have hk2:decide ((bz ws root page level).lv=level)=false:=by simpa using hc2
   have hg:eG ws root page level d=badM 3:=by simp only [eG,hk,hk2];rfl
   rw [hg]
   refine run ?_
   exact jl ⟨_,_,rfl,Own.nil _ _,trivial⟩
  have hk2:decide ((bz ws root page level).lv=level)=true:=by simpa using hc2
  have hg:eG ws root page level d=⟨kH ws ((bz ws root page level).place page) level d,[],0⟩:=by simp only [eG,hk,hk2];rfl
  rw [hg]
  refine run ?_
  refine dJ (fun wc hG=>zi ws _ root (h.good hG) be5) ?_
  rintro u hn3 ⟨v3,h3,rfl,hO3,hle3⟩
  obtain ⟨g3,cap3,wF,rfl,rfl,hr3⟩:=hO3.row (n:=ws.length) (by rw [List.length_map]) be5
  refine iw hle3 ?_
  refine run ?_
  intro X
  refine run ?_
  refine dL 6 ?_
  refine bZ ?_
  refine dM (fun wc hG=>Fe (bz ws root page level) dd (hO.lie (fun b hb=>hG.here b bi7) be9) En hpos (n:=ws.length) be5 lC.has page hp) ?_
  refine bZ ?_
  have hpl:=lC.Jr
  obtain ⟨hsz3,_,_,au6⟩:=hO3.vH hpl
  refine gB [⟨g3,wF,47⟩] (⟨X,#[.slice (some ⟨g3,0,none⟩) ws.length cap3,.int .i64 root],239⟩::⟨D,#[.slice none 0 0],24⟩::⟨B,#[.slice q ws.length cap],24⟩::⟨C,#[.int .i64 d.kind,.int .i64 d.frame,.bool d.r,.bool d.w,.bool d.x,.bool d.af,.bool d.ng,.int .i64 d.soft,.int .i64 d.note],124⟩::⟨F,#[.int .i64 dd.kind,.int .i64 dd.frame,.bool dd.r,.bool dd.w,.bool dd.x,.bool dd.af,.bool dd.ng,.int .i64 dd.soft,.int .i64 dd.note,.slice q2 (bz ws root page level).fs.length cap2],242⟩::⟨E,#[.slice q ws.length cap,.int .i64 root],239⟩::h2) (fun wc hG=>Mc ws hO3 root _ level hl hpl be5 d hd hG.fV) ?_ aJ
  rintro u4 hn4 ⟨rfl,x8⟩
  refine iw x8 ?_
  simp only [List.cons_append,List.nil_append]
  refine run ?_
  exact jl ⟨_,[⟨g3,_,47⟩],rfl,au6 _,by (exact aj)⟩
end
section
section
variable {P : Program} {T : Tab} {n : Nat} {w0 : World} {mu : List Nat} {l : Fm} {hp : Hp} {dd : Option Tmp} {ty : TypeId} {pos : String} {af : Array Edge} {gg : Option (Nat × Bool)} {Q : Exit → Fm → Hp → Prop} {all : Array Oper} {rest : List Oper}
theorem Js (ok:aZ P T) {t e sz b o m c:Nat} {cs:Array Value} {tb:TypeId} {x:Operand} {z x0:Value} {hp':Hp} (hx:ev l x=some (.slice (some ⟨b,o,none⟩) m c)) (ht:lk T.sl t=some (e,sz)) (hz:lk T.zs e=some z) (hzc:z.cells=#[x0]) (hsz1:sz=1) (hz1:x0.oneCell'=true) (hm:0<m)
  (hperm:(⟨b,cs,tb⟩::hp').Perm hp) (hfit:o + m * sz≤cs.size)
  (h:Ops P n w0 mu all rest l (⟨b,putAt cs o (List.replicate m x0),tb⟩::hp') Q):Ops P n w0 mu all (⟨none,.call { callee:=.builtin .clear,args:=#[x],argTypes:=#[t] },ty,pos,af,none⟩::rest) l hp Q:=by
 intro ac w hk hG
 obtain ⟨hu,hsz⟩:=ok.wW ht
 have hG':=hG.perm hperm
 have hb:=hG'.here _ (List.mem_cons_self ..)
 subst hsz1
 have hrep:(Builtin.zeroCells z.cells m).toList=List.replicate m x0:=by
  rw [List.eq_replicate_iff]
  refine ⟨by rw [Array.length_toList,size_zeroCells,hzc];simp,fun u hu=>?_⟩
  rw [hzc] at hu
  simp only [Builtin.zeroCells,Array.mem_toList_iff,Array.mem_map,Array.mem_range] at hu
  obtain ⟨i,hi,rfl⟩:=hu
  simp [Nat.mod_one]
 have hst:=run_storeCells_cells (P:=P) b o (List.replicate m x0) 0 w
  (fun j hj=>by rw [List.length_replicate] at hj;rw [cell_of_block hb];simp [show o + j<cs.size by omega])
  (fun j _=>eP hb) (fun u hu=>by rw [(List.mem_replicate.1 hu).2];exact hz1)
 simp only [Nat.add_zero] at hst
 refine wpList_plain rfl fun K hK=>?_
 unfold Oper.wp execOp
 have hr:(Builtin.clear_ #[t] ty #[.slice (some ⟨b,o,none⟩) m c]).run P w=.ok (.tuple #[]) (w.setCells b o (List.replicate m x0)):=by
  obtain ⟨m',rfl⟩:∃ m',m=m' + 1:=⟨m - 1,by omega⟩
  simp [Builtin.clear_,run_underlying hu,mM (ok.IE hz) w,hrep,hst]
 simp only [resolve,invoke,builtin,Sem.run_bind,Sem.run_pure,Result.andThen_ok,List.map_toArray,List.map_cons,List.map_nil,hk.ev hx,hr]
 exact hK _ _ (h _ _ hk (Good.sets (w:=w) _ cs o w hG'))
end
theorem qx:∀ (xs bs:List Value) (cs:Array Value) (o:Nat),putAt cs o (xs++bs)=putAt (putAt cs o xs) (o + xs.length) bs:=by
 intro xs
 induction xs with
 | nil=>intro bs cs o;rfl
 | cons a r ih=>intro bs cs o;rw [List.cons_append,putAt,putAt,ih,List.length_cons];congr 1;omega
theorem Own.zeros {e g n cap:Nat} {cur:Array Value} {ws:List Nat} (hA:Own e 1 (.slice (some ⟨g,0,none⟩) n cap) [⟨g,cur,e⟩] (ws.map uV)) {o:Nat}:∀ k,o + k≤ws.length→Own e 1 (.slice (some ⟨g,0,none⟩) n cap) [⟨g,putAt cur o (List.replicate k (.int .u64 0)),e⟩] ((rW ws o k).map uV):=by
 intro k
 induction k with
 | zero=>intro _;exact hA
 | succ k ih=>
  intro hk
  obtain ⟨_,_,_,hset⟩:=(ih be5).vH (k:=o + k) (by rw [zh];omega)
  rw [List.replicate_succ',qx,List.length_replicate,rW]
  exact hset 0
attribute [local irreducible] Hy St Ops DH dG
def Dh (ws:List Nat) (root:Int) (l:List Int) (page:Int) (d:DsD):GV:=bif d.may 2 3 && decide (d.kind=2) && Fb ws.length page then qj ws root l page.toNat d else badM 1
set_option maxHeartbeats 400000 in
theorem ai4 (ws:List Nat) (hw:lu ws) {w:World} {v vl:Value} (h:aF w v 1 (ws.map uV)) (hn:ws.length<1000000) (l:List Int) (hv:aF w vl 1 (l.map dA)) (hcap:∃ p c,vl=.slice p l.length c∧l.length≤c∧(p=none∨∃ b off,p=some ⟨b,off,none⟩)) (hln:l.length<1000000) (root page:Int) (d:DsD):Fn Tryz.prog 220 [.agg #[v],.int .i64 root,vl,.int .i64 page,sU d].toArray w [] (fun u hn=>QG (Dh ws root l page d) u hn):=by
 refine enter Tryz.func220 ?_
 obtain ⟨q,cap,rfl,hne,hle⟩:=h.opened
 obtain ⟨ql,Jq,rfl,hcap,hql⟩:=hcap
 refine run ?_
 intro B C D
 refine aI ?_
 refine ak (fun wc hG=>xX 2 (.inr rfl) 3 be6 d wc) ?_
 refine aI ?_
 refine ah _ rfl (fun hc=>?_) (fun hc=>?_)
 ·have hg:Dh ws root l page d=badM 1:=by
   have:(d.may 2 3 && decide (d.kind=2))=false:=by
    cases hm:d.may 2 3 with
    | false=>rfl
    | true=>rw [hm] at hc;simpa using hc
   simp only [Dh,this];rfl
  rw [hg]
  refine run ?_
  exact qo ⟨_,_,_,_,rfl,Own.nil _ _,Own.nil _ _,trivial⟩
 have hmk:(d.may 2 3 && decide (d.kind=2))=true:=by
  cases hm:d.may 2 3 with
  | false=>rw [hm] at hc;simp at hc
  | true=>rw [hm] at hc;simpa using hc
 have au7:=hmk
 rw [Bool.and_eq_true,decide_eq_true_eq] at au7
 obtain ⟨hdm,hdk⟩:=au7
 cases hk:Fb ws.length page with
 | false=>
  have hg:Dh ws root l page d=badM 1:=by simp only [Dh,hk,hmk];rfl
  rw [hg]
  refine run ?_
  refine dJ (fun wc hG=>QK be5 root page 3 be6 hk wc) ?_
  rintro u hn2 rfl
  refine aP [⟨D,#[.slice none 0 0],24⟩,⟨C,#[.int .i64 d.kind,.int .i64 d.frame,.bool d.r,.bool d.w,.bool d.x,.bool d.af,.bool d.ng,.int .i64 d.soft,.int .i64 d.note],124⟩,⟨B,#[.slice q ws.length cap],24⟩] aj ?_
  refine run ?_
  intro E F
  refine az ?_
  exact qo ⟨_,_,_,_,rfl,Own.nil _ _,Own.nil _ _,trivial⟩
 | true=>
  obtain ⟨hm,Au,hz,zN⟩:=QJ hk
  have hg:Dh ws root l page d=qj ws root l page.toNat d:=by simp only [Dh,hk,hmk];rfl
  rw [hg]
  rw [← hz]
  simp only [Int.toNat_natCast]
  generalize page.toNat=pg at zN
  refine run ?_
  refine dJ (fun wc hG=>Df ws hw (h.good hG) hm root pg zN 3 be6) ?_
  rintro u hn2 ⟨v2,h2,d2,rfl,hO,hle2,hdd⟩
  have hl4:=Jp ws root pg 3
  simp only [qj]
  cases hok:(bz ws root pg 3).ok with
  | false=>
   obtain ⟨q2,cap2,e2⟩:=hO.opened
   subst e2
   simp only [Bool.false_and,Bool.not_false,cond_true]
   refine aP [⟨D,#[.slice none 0 0],24⟩,⟨C,#[.int .i64 d.kind,.int .i64 d.frame,.bool d.r,.bool d.w,.bool d.x,.bool d.af,.bool d.ng,.int .i64 d.soft,.int .i64 d.note],124⟩,⟨B,#[.slice q ws.length cap],24⟩] aj ?_
   refine run ?_
   intro E F
   refine az ?_
   exact qo ⟨_,_,_,_,rfl,Own.nil _ _,Own.nil _ _,trivial⟩
  | true=>
   have lC:=oO hok
   have hnt:=OM hok
   have hroot:=QC hok
   generalize bz ws root pg 3=W at hO hok lC hnt hl4 hdd hroot ⊢
   have En:=lC.le
   have hpos:=lC.pos
   obtain ⟨q2,cap2,e2⟩:=hO.opened
   rw [List.length_map] at e2
   subst e2 hdd
   simp only [cond_true,Bool.true_and,Bool.not_true,cond_false]
   refine aP (⟨D,#[.slice none 0 0],24⟩::⟨C,#[.int .i64 d.kind,.int .i64 d.frame,.bool d.r,.bool d.w,.bool d.x,.bool d.af,.bool d.ng,.int .i64 d.soft,.int .i64 d.note],124⟩::⟨B,#[.slice q ws.length cap],24⟩::h2) (cnt1 hle2) ?_
   refine run ?_
   intro E F
   refine az ?_
   refine ak (fun wc hG=>qp W.d q2 W.fs.length cap2 hpos be5 wc) ?_
   have hlk:(3:Int) - ((W.fs.length - 1:Nat):Int)=((4 - W.fs.length:Nat):Int):=by omega
   refine run ?_
   rw [hlk]
   refine az ?_
   refine ak (fun wc hG=>YN ws.length cap q root be5 W.d W.fs l (hv.good hG) ⟨_,_,rfl,hcap⟩ (hO.lie (fun b hb=>hG.here b bi7) be9) hroot) ?_
   refine run ?_
   refine ah _ rfl (fun hc=>?_) (fun hc=>?_)
   ·have hfr:mY ws.length W.fs l=false:=by simpa using hc
    rw [hfr,Bool.not_false,cond_true]
    refine run ?_
    exact qo ⟨_,_,_,_,rfl,Own.nil _ _,Own.nil _ _,trivial⟩
   have hfr:mY ws.length W.fs l=true:=by simpa using hc
   rw [hfr,Bool.not_true,cond_false]
   clear hc
   refine aI ?_
   have e1:decide (0<((4 - W.fs.length:Nat):Int))=decide (W.fs.length<4):=by rw [Bool.eq_iff_iff,decide_eq_true_eq,decide_eq_true_eq];omega
   rw [e1]
   refine ah _ rfl (fun hc=>?_) (fun hc=>?_)
   ·rw [hc,cond_true]
    refine run ?_
    exact qo ⟨_,_,_,_,rfl,Own.nil _ _,Own.nil _ _,trivial⟩
   rw [hc,cond_false]
   clear hc
   have e3:decide ((l.length:Int)<((4 - W.fs.length:Nat):Int))=decide (l.length + W.fs.length<4):=by rw [Bool.eq_iff_iff,decide_eq_true_eq,decide_eq_true_eq];omega
   refine run ?_
   refine ah _ rfl (fun hc=>?_) (fun hc=>?_)
   ·rw [e3] at hc
    rw [hc,cond_true]
    refine run ?_
    exact qo ⟨_,_,_,_,rfl,Own.nil _ _,Own.nil _ _,trivial⟩
   rw [e3] at hc
   rw [hc,cond_false]
   replace hc:4≤l.length + W.fs.length:=by simpa using hc
   refine run ?_
   refine GI 7 6 [0,2,3,4] [1,5] [6] (⟨F,#[.int .i64 W.d.kind,.int .i64 W.d.frame,.bool W.d.r,.bool W.d.w,.bool W.d.x,.bool W.d.af,.bool W.d.ng,.int .i64 W.d.soft,.int .i64 W.d.note,.slice q2 W.fs.length cap2],242⟩::⟨E,#[.slice q ws.length cap,.int .i64 root],239⟩::⟨D,#[.slice none 0 0],24⟩::⟨C,#[.int .i64 d.kind,.int .i64 d.frame,.bool d.r,.bool d.w,.bool d.x,.bool d.af,.bool d.ng,.int .i64 d.soft,.int .i64 d.note],124⟩::⟨B,#[.slice q ws.length cap],24⟩::h2) ?_
   refine jT ?_
   refine CP (fun wc hx hG=>Fe W W.d (hO.lie (fun b hb=>hG.here b bi7) be9) En hpos (n:=ws.length) be5 lC.has pg zN) ?_
   refine jT ?_
   refine jB (fun wc hG=>zi ws _ root (h.good hG) be5) (zi ws _ root h be5).some ?_
   refine qR ?_
   refine jS ?_
   rintro _ _ ⟨X,rfl,rfl⟩ u hn3 ⟨v3,h3,rfl,hO3,hle3⟩
   obtain ⟨g3,cap3,wF,rfl,rfl,hr3⟩:=hO3.row (n:=ws.length) (by rw [List.length_map]) be5
   simp only [DN,List.cons_append,List.nil_append,List.append_nil]
   refine Qx ?_
   refine dw ?_
   refine lg ?_
   refine aP (⟨X,#[.slice (some ⟨g3,0,none⟩) ws.length cap3,.int .i64 root],239⟩::⟨g3,wF,47⟩::⟨F,#[.int .i64 W.d.kind,.int .i64 W.d.frame,.bool W.d.r,.bool W.d.w,.bool W.d.x,.bool W.d.af,.bool W.d.ng,.int .i64 W.d.soft,.int .i64 W.d.note,.slice q2 W.fs.length cap2],242⟩::⟨E,#[.slice q ws.length cap,.int .i64 root],239⟩::⟨D,#[.slice none 0 0],24⟩::⟨C,#[.int .i64 d.kind,.int .i64 d.frame,.bool d.r,.bool d.w,.bool d.x,.bool d.af,.bool d.ng,.int .i64 d.soft,.int .i64 d.note],124⟩::⟨B,#[.slice q ws.length cap],24⟩::h2) (cnt1 hle3) ?_
   refine run ?_
   generalize aS6:4 - W.fs.length=lk at *
   have au4:lk≤l.length:=by omega
   refine ja be8 (mW ay rfl rfl be8 be5 be5 (m':=lk) be7 hql) ?_
   refine run ?_
   refine aX (σ:=Nat × Array Value × Nat × List Nat) (fun s=>[(86,.int .i64 (s.1:Int)),(17,.int .i64 (s.2.2.1:Int))]) (fun s=>⟨X,#[.slice (some ⟨g3,0,none⟩) ws.length cap3,.int .i64 root],239⟩::⟨g3,s.2.1,47⟩::⟨F,#[.int .i64 W.d.kind,.int .i64 W.d.frame,.bool W.d.r,.bool W.d.w,.bool W.d.x,.bool W.d.af,.bool W.d.ng,.int .i64 W.d.soft,.int .i64 W.d.note,.slice q2 W.fs.length cap2],242⟩::⟨E,#[.slice q ws.length cap,.int .i64 root],239⟩::⟨D,#[.slice none 0 0],24⟩::⟨C,#[.int .i64 d.kind,.int .i64 d.frame,.bool d.r,.bool d.w,.bool d.x,.bool d.af,.bool d.ng,.int .i64 d.soft,.int .i64 d.note],124⟩::⟨B,#[.slice q ws.length cap],24⟩::h2) (fun s=>s.1≤lk∧s.2.2.1<ws.length∧s.2.2.2.length=ws.length∧jo pg ((l.take lk).drop s.1) s.2.2.1 (W.lv + s.1) s.2.2.2=jo pg (l.take lk) (W.place pg) W.lv ws∧Own 47 1 (.slice (some ⟨g3,0,none⟩) ws.length cap3) [⟨g3,s.2.1,47⟩] (s.2.2.2.map uV)) (fun s=>lk - s.1) (0,wF,W.place pg,ws) ⟨Nat.zero_le _,lC.Jr,rfl,rfl,hO3⟩ ?_
   rintro ⟨i,cu,pl,us⟩ m hm2 ⟨hi,hpl,Va,dH,hU⟩
   dsimp only at hm2 hi hpl Va dH hU ⊢
   refine run ?_
   refine ah _ rfl (fun hc3=>?_) (fun hc3=>?_)
   ·have hilt:i<lk:=by simp at hc3;omega
    obtain ⟨q5,cap5,e5,hne5,_⟩:=hv.opened
    injection e5 with e5
    subst e5
    obtain ⟨b5,o5,rfl⟩:=hne5 (by intro e;subst e;simp at au4;omega)
    have hr:=au (hv.row (k:=i) be5)
    simp only [Nat.mul_one] at hr
    have hfh:dm ws.length (l.getD i default)=true:=EX hfr be5
    generalize hf:l.getD i default=f at hr hfh
    have hfi:=jd hfh
    refine run ?_
    have aS7:=hr3.le
    refine ja be8 (uX ay rfl rfl rfl be8 be5 be5 be5 be5 (o':=f.toNat * 8) be5 (m':=8) be5 (c':=cap3 - f.toNat * 8) be5) ?_
    have hUz:Own 47 1 (.slice (some ⟨g3,0,none⟩) ws.length cap3) [⟨g3,putAt cu (f.toNat * 8) (List.replicate 8 (.int .u64 0)),47⟩] ((jO us f).map uV):=hU.zeros 8 be5
    obtain ⟨ai1,_,_,_⟩:=hU.vH (k:=ws.length - 1) be5
    refine Js ay (hp':=⟨X,#[.slice (some ⟨g3,0,none⟩) ws.length cap3,.int .i64 root],239⟩::⟨F,#[.int .i64 W.d.kind,.int .i64 W.d.frame,.bool W.d.r,.bool W.d.w,.bool W.d.x,.bool W.d.af,.bool W.d.ng,.int .i64 W.d.soft,.int .i64 W.d.note,.slice q2 W.fs.length cap2],242⟩::⟨E,#[.slice q ws.length cap,.int .i64 root],239⟩::⟨D,#[.slice none 0 0],24⟩::⟨C,#[.int .i64 d.kind,.int .i64 d.frame,.bool d.r,.bool d.w,.bool d.x,.bool d.af,.bool d.ng,.int .i64 d.soft,.int .i64 d.note],124⟩::⟨B,#[.slice q ws.length cap],24⟩::h2) rfl rfl rfl rfl rfl rfl be6 p1 be5 ?_
    generalize hcz:putAt cu (f.toNat * 8) (List.replicate 8 (.int .u64 0))=cz at hUz ⊢
    clear hcz
    refine run ?_
    refine ak (fun wc hG=>qp W.d q2 W.fs.length cap2 hpos be5 wc) ?_
    refine run ?_
    rw [show ((W.fs.length - 1:Nat):Int) + (i:Int)=((W.lv + i:Nat):Int) by unfold uB.lv;omega]
    have hlv:W.lv=W.fs.length - 1:=rfl
    have au8:pl<(jO us f).length:=by rw [iP];omega
    obtain ⟨_,_,_,hset⟩:=hUz.vH au8
    refine gB [⟨g3,cz,47⟩] (⟨X,#[.slice (some ⟨g3,0,none⟩) ws.length cap3,.int .i64 root],239⟩::⟨F,#[.int .i64 W.d.kind,.int .i64 W.d.frame,.bool W.d.r,.bool W.d.w,.bool W.d.x,.bool W.d.af,.bool W.d.ng,.int .i64 W.d.soft,.int .i64 W.d.note,.slice q2 W.fs.length cap2],242⟩::⟨E,#[.slice q ws.length cap,.int .i64 root],239⟩::⟨D,#[.slice none 0 0],24⟩::⟨C,#[.int .i64 d.kind,.int .i64 d.frame,.bool d.r,.bool d.w,.bool d.x,.bool d.af,.bool d.ng,.int .i64 d.soft,.int .i64 d.note],124⟩::⟨B,#[.slice q ws.length cap],24⟩::h2) (fun wc hG=>Mc _ hUz root _ (W.lv + i) be5 au8 (by rw [iP];omega) (lq f) (xW be5 be5 be5) hG.fV) ?_ aJ
    rintro u4 hn4 ⟨rfl,x8⟩
    refine iw x8 ?_
    simp only [List.cons_append,List.nil_append]
    refine run ?_
    refine ak (fun wc hG=>L9 f hfh be5 (W.lv + i + 1) be5 pg zN wc) ?_
    refine run ?_
    have hcons:(l.take lk).drop i=f::(l.take lk).drop (i + 1):=by
     have h1:i<(l.take lk).length:=by rw [List.length_take];omega
     rw [List.drop_eq_getElem_cons h1,List.getElem_take,← hf,List.getD_eq_getElem?_getD,List.getElem?_eq_getElem be5];rfl
    rw [hcons,jo] at dH
    have hst:=hset ((lq f).word 2 (W.lv + i))
    refine aK (i + 1,cz.setIfInBounds pl (.int .u64 (((lq f).word 2 (W.lv + i):Nat):Int)),sH f (W.lv + i + 1) pg,kH (jO us f) pl (W.lv + i) (lq f)) ⟨hilt,CZ hfh,by dsimp only;rw [jG,iP,Va],dH,hst⟩ (hm:=by dsimp only;omega) (h2:=by (exact aj))
   ·have hik:i=lk:=by simp at hc3;omega
    subst hik
    have hpl2:pl<us.length:=by omega
    obtain ⟨ai1,_,_,hset⟩:=hU.vH hpl2
    refine run ?_
    refine gB [⟨g3,cu,47⟩] (⟨X,#[.slice (some ⟨g3,0,none⟩) ws.length cap3,.int .i64 root],239⟩::⟨F,#[.int .i64 W.d.kind,.int .i64 W.d.frame,.bool W.d.r,.bool W.d.w,.bool W.d.x,.bool W.d.af,.bool W.d.ng,.int .i64 W.d.soft,.int .i64 W.d.note,.slice q2 W.fs.length cap2],242⟩::⟨E,#[.slice q ws.length cap,.int .i64 root],239⟩::⟨D,#[.slice none 0 0],24⟩::⟨C,#[.int .i64 d.kind,.int .i64 d.frame,.bool d.r,.bool d.w,.bool d.x,.bool d.af,.bool d.ng,.int .i64 d.soft,.int .i64 d.note],124⟩::⟨B,#[.slice q ws.length cap],24⟩::h2) (fun wc hG=>Mc _ hU root _ 3 be6 hpl2 be5 d hdm hG.fV) ?_ aJ
    rintro u4 hn4 ⟨rfl,x8⟩
    refine iw x8 ?_
    simp only [List.cons_append,List.nil_append]
    refine run ?_
    obtain ⟨p',e7,hc7,YK⟩:=hv.drop (i:=i) rfl hcap be5
    refine uo 7 6 [0,1,2,3,4] [5,6] [] ?_
    refine jT ?_
    refine UN be8 bg4 (fun hx2=>yV ay rfl rfl be8 be5 be5) ?_
    rw [show sliced ql ((i:Nat):Int).toNat l.length Jq 1=_ from e7]
    refine jT ?_
    refine xN (fun wc hG=>pF _ ((l.drop i).map dA) (YK.good hG) bg7 bf2) ?_
    intro v5 h5 hO5
    obtain ⟨q5,cap5,rfl⟩:=hO5.opened
    refine nJ (b:=D) (tb:=24) (cs:=#[.slice none 0 0]) (cs':=#[.slice (some ⟨g3,0,none⟩) ws.length cap3]) (hp':=h5++(⟨g3,cu.setIfInBounds pl (.int .u64 ((d.word 2 3:Nat):Int)),47⟩::⟨X,#[.slice (some ⟨g3,0,none⟩) ws.length cap3,.int .i64 root],239⟩::⟨F,#[.int .i64 W.d.kind,.int .i64 W.d.frame,.bool W.d.r,.bool W.d.w,.bool W.d.x,.bool W.d.af,.bool W.d.ng,.int .i64 W.d.soft,.int .i64 W.d.note,.slice q2 W.fs.length cap2],242⟩::⟨E,#[.slice q ws.length cap,.int .i64 root],239⟩::⟨C,#[.int .i64 d.kind,.int .i64 d.frame,.bool d.r,.bool d.w,.bool d.x,.bool d.af,.bool d.ng,.int .i64 d.soft,.int .i64 d.note],124⟩::⟨B,#[.slice q ws.length cap],24⟩::h2)) ?_ aJ
    refine dw ?_
    refine lg ?_
    refine run ?_
    rw [List.drop_eq_nil_of_le bi6,jo] at dH
    refine qo ⟨_,[⟨g3,cu.setIfInBounds pl (.int .u64 ((d.word 2 3:Nat):Int)),47⟩],_,h5,rfl,?_,hO5,by (exact aj)⟩
    rw [← dH]
    exact hset _
end
structure AcD where
 dd:Int
 mid:Int
 n:Int
 d:DsD
 lp:Option Addr
 ll:Nat
 lc:Nat
instance : Inhabited AcD := ⟨⟨0, 0, 0, dN, none, 0, 0⟩⟩
def acV (a:AcD):List Value:=[.int .i64 a.dd,.int .i64 a.mid,.int .i64 a.n,.int .i64 a.d.kind,.int .i64 a.d.frame,.bool a.d.r,.bool a.d.w,.bool a.d.x,.bool a.d.af,.bool a.d.ng,.int .i64 a.d.soft,.int .i64 a.d.note,.slice a.lp a.ll a.lc]
structure SkD where
 ws:List Nat
 root:Int
 free:List Int
 acts:List AcD
structure ai5 (w:World) (wv fv lv:Value) (S:SkD):Prop where
 Jt:lu S.ws
 ws:aF w wv 1 (S.ws.map uV)
 fr:aF w fv 1 (S.free.map dA)
 ac:aF w lv 13 (S.acts.map acV)
 wl:S.ws.length≤140737488351232
 fl:S.free.length≤140737488351232
 al:S.acts.length≤140737488351232
 ll:∀ a∈S.acts,a.ll≤140737488351232
theorem ai5.good {w w':World} {hp:Hp} {wv fv lv:Value} {S:SkD} (h:ai5 w wv fv lv S) (hG:Good w [] hp w'):ai5 w' wv fv lv S:=⟨h.Jt,h.ws.good hG,h.fr.good hG,h.ac.good hG,h.wl,h.fl,h.al,h.ll⟩
theorem ai6 {ws:List Nat}:∀ c∈ws.map uV,c.length=1∧c.all (·.oneCell')=true:=by
 intro c hc
 obtain ⟨x,_,rfl⟩:=List.mem_map.1 hc
 exact ⟨rfl,rfl⟩
theorem Vg (b m:Nat) (hm:m≤65536):Own 47 1 (.slice (some ⟨b,0,none⟩) m m) [⟨b,madeCells (Value.int .u64 0).cells (m * 1),47⟩] ((List.replicate m 0).map uV):=by
 rw [show madeCells (Value.int .u64 0).cells (m * 1)=((List.replicate m [Value.int .u64 0]).flatten).toArray from oM [.int .u64 0] m 1 rfl be6]
 exact GX b m _ (by rw [List.map_replicate];rfl) rfl ai6 be7 be7 bh9
section
attribute [local irreducible] Hy St Ops DH dG
theorem Own.OV {e sz:Nat} {v:Value} {h:Hp} {xs:List Int} (hA:Own e sz v h (xs.map dA)):∃ p cap,v=.slice p xs.length cap∧xs.length≤cap∧(p=none∨∃ b off,p=some ⟨b,off,none⟩):=by
 rcases hA.2 with ⟨h1,rfl,rfl⟩ | ⟨g,cap,cur,rfl,rfl,hrow⟩
 ·have:xs=[]:=by simpa using h1
  subst this
  exact ⟨_,_,rfl,Nat.le_refl _,.inl rfl⟩
 ·have:=hrow.le
  rw [List.length_map] at *
  exact ⟨_,_,rfl,this,.inr ⟨_,_,rfl⟩⟩
theorem lD {α:Type} {P:α→Prop} {c:Bool} {a b:α} (ha:P a) (hb:P b):P (bif c then a else b):=by cases c<;>assumption
def TOk (n m:Nat) (T:GV):Prop:=lu T.ws∧T.ws.length≤n∧T.left.length≤m
theorem G8 (n m:Nat) (e:Int):TOk n m (badM e):=⟨fun x hx=>(by cases hx),Nat.zero_le _,Nat.zero_le _⟩
theorem OW {ws:List Nat} (hw:lu ws) (root:Int) (free:List Int) (page:Nat) (d:DsD):TOk ws.length free.length (qj ws root free page d):=by
 unfold qj
 refine lD (G8 _ _ _) (lD (G8 _ _ _) (lD (G8 _ _ _) ⟨(lu.jo _ _ _ hw).kH _ _ _,?_,?_⟩))
 ·dsimp only;rw [jG,QD];exact Nat.le_refl _
 ·dsimp only;rw [List.length_drop];omega
end
theorem QL {n m:Nat} {f:Int} (h:n≤m) (hf:dm n f=true):dm m f=true:=by
 simp only [dm,Bool.and_eq_true,decide_eq_true_eq] at hf ⊢
 have:=Nat.div_le_div_right (c:=8) h
 omega
theorem wG {n m:Nat} {fs l:List Int} (h:n≤m) (hf:mY n fs l=true):mY m fs l=true:=by
 refine wE fun i hi=>?_
 have:=List.all_eq_true.1 hf i (List.mem_range.2 hi)
 simp only [nK,Bool.and_eq_true] at this ⊢
 exact ⟨⟨QL h this.1.1,this.1.2⟩,this.2⟩
def aU (f soft:Int):DsD:=⟨2,f,true,true,true,true,false,soft,0⟩
def rX:List Int:=[1,2,3,4,5,6,7,8,9,10,11,12,13,14,15]
def QM (n:Nat):Nat→GV
 | 0=>⟨List.replicate n 0,rX,0⟩
 | k + 1=>qj (QM n k).ws 0 (QM n k).left k (aU k 0)
def bD (F k:Nat):Option DsD:=bif decide (k<16) then some (jF 1) else bif decide (F≤k) then some dN else none
def QN (n F:Nat):Nat→List Nat
 | 0=>(QM n 64).ws
 | k + 1=>match bD F k with
  | some d=>(eG (QN n F k) 0 k 3 d).ws
  | none=>QN n F k
def lN (own ry f:Int):DsD:=
 bif decide (own=0) && decide (ry=-2) then aU f 0 else bif decide (own=0) then aU f 1 else bif decide (ry=0) then aU f 2
 else bif decide (own=-1) then jF 1 else jF (1 + own)
def sK (n:Nat) (dd:Nat→DsD):Nat→GV
 | 0=>⟨List.replicate n 0,rX,0⟩
 | k + 1=>⟨(eG (qj (sK n dd k).ws 0 (sK n dd k).left k (aU k 0)).ws 0 k 3 (dd k)).ws,(qj (sK n dd k).ws 0 (sK n dd k).left k (aU k 0)).left,0⟩
def uC (F k:Nat):DsD:=bif decide (k<16) then jF 1 else bif decide (F≤k) then dN else aU k 0
def dI (n:Nat) (g:Nat→Nat):List Nat:=(List.range n).map g
theorem eu (n:Nat) (g:Nat→Nat):(dI n g).length=n:=by simp [dI]
theorem Ju {n p:Nat} (g:Nat→Nat) (h:p<n):(dI n g).getD p 0=g p:=by
 simp [dI,List.getD_eq_getElem?_getD,List.getElem?_range h]
theorem fQ {n:Nat} {g g':Nat→Nat} (h:∀ q,q<n→g q=g' q):dI n g=dI n g':=List.map_congr_left fun q hq=>h q (List.mem_range.1 hq)
theorem ni {n:Nat} (g:Nat→Nat) (p w:Nat):(dI n g).set p w=dI n fun q=>bif Nat.beq q p then w else g q:=by
 apply List.ext_getElem?
 intro i
 rw [List.getElem?_set]
 simp only [dI,List.length_map,List.length_range,List.getElem?_map]
 by_cases hp:p=i
 ·subst hp
  by_cases hl:p<n
  ·simp [hl,List.getElem?_range hl]
  ·simp [hl,List.getElem?_eq_none (show (List.range n).length≤p by simp;omega)]
 ·have:Nat.beq i p=false:=by
   cases h:Nat.beq i p with
   | false=>rfl
   | true=>exact absurd (Nat.eq_of_beq_eq_true h).symm hp
  rw [if_neg hp]
  by_cases hl:i<n
  ·simp [List.getElem?_range hl,this]
  ·simp [List.getElem?_eq_none (show (List.range n).length≤i by simp;omega)]
theorem rC {n:Nat} {g:Nat→Nat} {o:Nat}:∀ k,(∀ q,o≤q→q<o + k→g q=0)→rW (dI n g) o k=dI n g:=by
 intro k
 induction k with
 | zero=>intro _;rfl
 | succ k ih=>
  intro h
  rw [rW,ih (fun q h1 h2=>h q h1 be5),ni]
  refine fQ fun q hq=>?_
  cases hb:Nat.beq q (o + k) with
  | false=>rfl
  | true=>rw [cond_true,Nat.eq_of_beq_eq_true hb,h _ be5 be5]
theorem zk (n:Nat):List.replicate n 0=dI n fun _=>0:=by
 apply List.ext_getElem?
 intro i
 simp only [dI,List.getElem?_map,List.getElem?_replicate]
 by_cases hl:i<n
 ·simp [hl,List.getElem?_range hl]
 ·simp [hl,List.getElem?_eq_none (show (List.range n).length≤i by simp;omega)]
theorem ny {n p level:Nat} {g:Nat→Nat} (h:p<n):kS (dI n g) p level=Ej 2 level (g p):=by unfold kS;rw [Ju g h]
instance : DecidableEq DsD := fun a b => decidable_of_iff (a.kind = b.kind ∧ a.frame = b.frame ∧ a.r = b.r ∧ a.w = b.w ∧ a.x = b.x ∧ a.af = b.af ∧ a.ng = b.ng ∧ a.soft = b.soft ∧ a.note = b.note) (by cases a; cases b; simp)
def gW (f:Nat):Nat:=(lq (f:Int)).word 2 0
theorem OX (f level:Nat):(lq (f:Int)).word 2 level=gW f:=rfl
theorem x9 {f level:Nat} (hf:f<16) (hl:level<3):Ej 2 level (gW f)=lq (f:Int):=by
 have:∀ f,f<16→∀ level,level<3→Ej 2 level (gW f)=lq (f:Int):=by decide +kernel
 exact this f hf level hl
theorem G9 {level:Nat} (hl:level<4):Ej 2 level 0=dN:=by
 have:∀ level,level<4→Ej 2 level 0=dN:=by decide +kernel
 exact this level hl
theorem Me:∀ k,k<64→sH 0 0 k=0:=by decide +kernel
theorem Vh:∀ k,k<64→sH 1 1 k=8:=by decide +kernel
theorem MB:∀ k,k<64→sH 2 2 k=16 + k / 8:=by decide +kernel
theorem Di:∀ k,k<64→sH ((3 + k / 8:Nat):Int) 3 k=24 + k:=by decide +kernel
theorem Jv {n:Nat} {f:Nat} (hn:128≤n) (hf:f<16):dm n (f:Int)=true:=by
 simp [dm];omega
theorem ai7 {g:Nat→Nat} {n k:Nat} (hn:128≤n) (hk:k<64) (h0:g 0=gW 1) (h1:g 8=gW 2) (h2:g (16 + k / 8)=gW (3 + k / 8)):bz (dI n g) 0 k 3=⟨[0,1,2,((3 + k / 8:Nat):Int)],Ej 2 3 (g (24 + k)),true⟩:=by
 have p0:=Me k hk
 have p1:=Vh k hk
 have p2:=MB k hk
 have p3:=Di k hk
 have e0:kS (dI n g) 0 0=lq 1:=by rw [ny be5,h0];exact x9 be6 be6
 have e1:kS (dI n g) 8 1=lq 2:=by rw [ny be5,h1];exact x9 be6 be6
 have e2:kS (dI n g) (16 + k / 8) 2=lq ((3 + k / 8:Nat):Int):=by rw [ny be5,h2];exact x9 be5 be6
 have e3:kS (dI n g) (24 + k) 3=Ej 2 3 (g (24 + k)):=ny be5
 have f0:dm n 0=true:=Jv (f:=0) hn be6
 have f1:dm n 1=true:=Jv (f:=1) hn be6
 have f2:dm n 2=true:=Jv (f:=2) hn be6
 have f3:dm n ((3 + k / 8:Nat):Int)=true:=Jv hn be5
 unfold bz
 rw [fZ,eu,f0,cond_true,p0,e0]
 simp only [lq,decide_true,Bool.not_true,Bool.false_or,show decide (0=3)=false from rfl,cond_false]
 rw [fZ,eu,f1,cond_true,p1,e1]
 simp only [lq,decide_true,Bool.not_true,Bool.false_or,show decide (0 + 1=3)=false from rfl,cond_false]
 rw [fZ,eu,f2,cond_true,p2,e2]
 simp only [lq,decide_true,Bool.not_true,Bool.false_or,show decide (0 + 1 + 1=3)=false from rfl,cond_false]
 rw [fZ,eu,f3,cond_true,p3,e3]
 simp
theorem aE6 {g:Nat→Nat} {n k:Nat} (hn:128≤n) (hk:k<64) (h0:g 0=gW 1) (h1:g 8=gW 2) (h2:g (16 + k / 8)=0):bz (dI n g) 0 k 3=⟨[0,1,2],dN,true⟩:=by
 have p0:=Me k hk
 have p1:=Vh k hk
 have p2:=MB k hk
 have e0:kS (dI n g) 0 0=lq 1:=by rw [ny be5,h0];exact x9 be6 be6
 have e1:kS (dI n g) 8 1=lq 2:=by rw [ny be5,h1];exact x9 be6 be6
 have e2:kS (dI n g) (16 + k / 8) 2=dN:=by rw [ny be5,h2];exact G9 be6
 have f0:dm n 0=true:=Jv (f:=0) hn be6
 have f1:dm n 1=true:=Jv (f:=1) hn be6
 have f2:dm n 2=true:=Jv (f:=2) hn be6
 unfold bz
 rw [fZ,eu,f0,cond_true,p0,e0]
 simp only [lq,decide_true,Bool.not_true,Bool.false_or,show decide (0=3)=false from rfl,cond_false]
 rw [fZ,eu,f1,cond_true,p1,e1]
 simp only [lq,decide_true,Bool.not_true,Bool.false_or,show decide (0 + 1=3)=false from rfl,cond_false]
 rw [fZ,eu,f2,cond_true,p2,e2]
 rfl
def iQ (dd:Nat→DsD) (k p:Nat):Nat:=
 bif decide (k=0) then 0 else bif decide (p=0) then gW 1 else bif decide (p=8) then gW 2
 else bif decide (16≤p∧p<24∧8 * (p - 16)<k) then gW (3 + (p - 16))
 else bif decide (24≤p∧p<24 + k) then (dd (p - 24)).word 2 3 else 0
def leftB (k:Nat):List Int:=bif decide (k=0) then rX else rX.drop (2 + (k + 7) / 8)
theorem Ff:∀ k,k<64→k ≠ 0→mY 128 (bif decide (k % 8=0) then [0,1,2] else [0,1,2,((3 + k / 8:Nat):Int)]) (leftB k)=true:=by decide +kernel
theorem Jw:∀ k,k<64→k ≠ 0→(k % 8=0→leftB k=((3 + k / 8:Nat):Int)::leftB (k + 1))∧(k % 8 ≠ 0→leftB k=leftB (k + 1)):=by decide +kernel
theorem QO {g:Nat→Nat} {n k:Nat} {d:DsD} (hn:128≤n) (hk:k<64) (h0:g 0=gW 1) (h1:g 8=gW 2) (h2:g (16 + k / 8)=gW (3 + k / 8)):eG (dI n g) 0 k 3 d=⟨dI n fun q=>bif Nat.beq q (24 + k) then d.word 2 3 else g q,[],0⟩:=by
 have hw:=ai7 hn hk h0 h1 h2
 have p3:=Di k hk
 unfold eG
 rw [hw]
 simp only [uB.lv,uB.place,List.length_cons,List.length_nil,Nat.reduceAdd,Nat.reduceSub,decide_true,Bool.not_true,cond_false,List.getD_cons_succ,List.getD_cons_zero,p3,kH,ni]
theorem au9 {g:Nat→Nat} {n k:Nat} {d:DsD} {l:List Int} (hn:128≤n) (hk:k<64) (h0:g 0=gW 1) (h1:g 8=gW 2) (h2:g (16 + k / 8)=gW (3 + k / 8)) (h3:g (24 + k)=0) (hl:mY 128 [0,1,2,((3 + k / 8:Nat):Int)] l=true):qj (dI n g) 0 l k d=⟨dI n fun q=>bif Nat.beq q (24 + k) then d.word 2 3 else g q,l,0⟩:=by
 have hw:=ai7 hn hk h0 h1 h2
 have p3:=Di k hk
 have hl':=wG hn hl
 rw [h3,G9 be6] at hw
 unfold qj
 rw [hw]
 simp only [eu,hl',Bool.true_and,Bool.not_true,cond_false,dN,List.length_cons,List.length_nil,Nat.reduceAdd,show decide ((0:Int)=2)=false from rfl,show decide (4<4)=false from rfl,Bool.false_and,Bool.or_false,show decide (l.length + 4<4)=false from by simp,Nat.sub_self,List.take_zero,jo,List.drop_zero,uB.lv,uB.place,Nat.reduceSub,List.getD_cons_succ,List.getD_cons_zero,p3,kH,ni]
 rfl
theorem au' {g:Nat→Nat} {n k:Nat} {d:DsD} {l:List Int} (hn:128≤n) (hk:k<64) (h8:k % 8=0) (h0:g 0=gW 1) (h1:g 8=gW 2) (h2:g (16 + k / 8)=0) (h3:∀ q,24 + k≤q→q<32 + k→g q=0) (hl:mY 128 [0,1,2] (((3 + k / 8:Nat):Int)::l)=true):qj (dI n g) 0 (((3 + k / 8:Nat):Int)::l) k d=⟨dI n fun q=>bif Nat.beq q (24 + k) then d.word 2 3 else bif Nat.beq q (16 + k / 8) then gW (3 + k / 8) else g q,l,0⟩:=by
 have hw:=aE6 hn hk h0 h1 h2
 have p2:=MB k hk
 have p3:=Di k hk
 have hl':=wG hn hl
 have hz:jO (dI n g) ((3 + k / 8:Nat):Int)=dI n g:=rC 8 fun q a b=>h3 q be5 be5
 unfold qj
 rw [hw]
 simp only [eu,hl',Bool.true_and,Bool.not_true,cond_false,dN,List.length_cons,List.length_nil,Nat.reduceAdd,show decide ((0:Int)=2)=false from rfl,show decide ((0:Int)=0)=true from rfl,Bool.and_false,Bool.or_false,show decide (l.length + 1 + 3<4)=false from by simp,Nat.reduceSub,List.take_succ_cons,List.take_zero,jo,List.drop_succ_cons,List.drop_zero,uB.lv,uB.place,List.getD_cons_succ,List.getD_cons_zero,p2,p3,hz,kH,ni,OX]
 rfl
theorem gX {a b:Nat} (h:a ≠ b):Nat.beq a b=false:=by
 cases hb:Nat.beq a b with
 | false=>rfl
 | true=>exact absurd (Nat.eq_of_beq_eq_true hb) h
theorem av1 {n:Nat} {d:DsD} (hn:128≤n):qj (dI n fun _=>0) 0 rX 0 d=⟨dI n fun q=>bif Nat.beq q 24 then d.word 2 3 else bif Nat.beq q 16 then gW 3 else bif Nat.beq q 8 then gW 2 else bif Nat.beq q 0 then gW 1 else 0,rX.drop 3,0⟩:=by
 have f0:dm n 0=true:=Jv (f:=0) hn be6
 have e0:kS (dI n fun _=>0) 0 0=dN:=by rw [ny be5];exact G9 be6
 have hw:bz (dI n fun _=>0) 0 0 3=⟨[0],dN,true⟩:=by
  unfold bz
  rw [fZ,eu,f0,cond_true,Me 0 be6,e0]
  rfl
 have hl:mY n [0] rX=true:=wG hn bg4
 unfold qj
 rw [hw]
 simp only [eu,hl,Bool.true_and,Bool.not_true,cond_false]
 have hz1:jO (dI n fun _=>0) 1=dI n fun _=>0:=rC 8 fun q a b=>rfl
 have hz2:jO (dI n fun q=>bif Nat.beq q 0 then gW 1 else 0) 2=dI n fun q=>bif Nat.beq q 0 then gW 1 else 0:=rC 8 fun q a b=>by
  rw [gX (show q ≠ 0 by simp at a;omega)];rfl
 have hz3:jO (dI n fun q=>bif Nat.beq q 8 then gW 2 else bif Nat.beq q 0 then gW 1 else 0) 3=dI n fun q=>bif Nat.beq q 8 then gW 2 else bif Nat.beq q 0 then gW 1 else 0:=rC 8 fun q a b=>by
  rw [gX (show q ≠ 8 by simp at a;omega),gX (show q ≠ 0 by simp at a;omega)];rfl
 show (bif decide ((0:Int)=2) || (decide (1<4) && !decide ((0:Int)=0)) then badM 4 else bif decide (rX.length + 1<4) then badM 5 else _)=_
 rw [show (decide ((0:Int)=2) || (decide (1<4) && !decide ((0:Int)=0)))=false from rfl,cond_false,show decide (rX.length + 1<4)=false from rfl,cond_false]
 have hk:jo 0 [1,2,3] 0 0 (dI n fun _=>0)=(24,dI n fun q=>bif Nat.beq q 16 then gW 3 else bif Nat.beq q 8 then gW 2 else bif Nat.beq q 0 then gW 1 else 0):=by
  rw [jo,hz1,kH,ni,jo]
  rw [show (lq 1).word 2 0=gW 1 from rfl,hz2,kH,ni,jo,show (lq 2).word 2 (0 + 1)=gW 2 from rfl,show sH 1 (0 + 1) 0=8 from rfl,hz3,kH,ni,jo]
  rfl
 show (⟨kH (jo 0 [1,2,3] 0 0 (dI n fun _=>0)).2 (jo 0 [1,2,3] 0 0 (dI n fun _=>0)).1 3 d,rX.drop 3,0⟩:GV)=_
 rw [hk]
 simp only [kH,ni]
theorem He {dd:Nat→DsD} {k:Nat} (hk:k ≠ 0):iQ dd k 0=gW 1∧iQ dd k 8=gW 2:=by
 simp [iQ,hk]
theorem yc {dd:Nat→DsD} {k j:Nat} (hk:k ≠ 0) (hj:j<8):iQ dd k (16 + j)=bif decide (8 * j<k) then gW (3 + j) else 0:=by
 have e1:decide (16 + j=0)=false:=by simp
 have e2:decide (16 + j=8)=false:=by simp;omega
 have e3:decide (24≤16 + j∧16 + j<24 + k)=false:=by simp;omega
 have e4:decide (16≤16 + j∧16 + j<24∧8 * j<k)=decide (8 * j<k):=by
  rw [Bool.eq_iff_iff,decide_eq_true_eq,decide_eq_true_eq];omega
 simp only [iQ,hk,decide_false,cond_false,e1,e2,e3,show 16 + j - 16=j by omega,e4]
theorem Vj {dd:Nat→DsD} {k q:Nat} (hq:24 + k≤q):iQ dd k q=0:=by
 unfold iQ
 cases h:decide (k=0) with
 | true=>rfl
 | false=>
  have e1:decide (q=0)=false:=by simp;omega
  have e2:decide (q=8)=false:=by simp;omega
  have e3:decide (16≤q∧q<24∧8 * (q - 16)<k)=false:=by simp;omega
  have e4:decide (24≤q∧q<24 + k)=false:=by simp;omega
  simp only [e1,e2,e3,e4,cond_false]
theorem Jy {dd:Nat→DsD} {k:Nat} (hk':k<64) (h0:k ≠ 0) (q:Nat):(bif Nat.beq q (24 + k) then (dd k).word 2 3 else bif (decide (k % 8=0) && Nat.beq q (16 + k / 8)) then gW (3 + k / 8) else iQ dd k q)=iQ dd (k + 1) q:=by
 have e0:decide (k + 1=0)=false:=by simp
 have e0':decide (k=0)=false:=by simp [h0]
 by_cases q24:q=24 + k
 ·subst q24
  have b:Nat.beq (24 + k) (24 + k)=true:=Nat.beq_refl _
  rw [b,cond_true]
  have e1:decide (24 + k=0)=false:=by simp
  have e2:decide (24 + k=8)=false:=by simp;omega
  have e3:decide (16≤24 + k∧24 + k<24∧8 * (24 + k - 16)<k + 1)=false:=by simp;omega
  have e4:decide (24≤24 + k∧24 + k<24 + (k + 1))=true:=by simp
  simp only [iQ,e0,e1,e2,e3,e4,cond_false,cond_true,show 24 + k - 24=k by omega]
 rw [gX q24,cond_false]
 have e4:decide (24≤q∧q<24 + (k + 1))=decide (24≤q∧q<24 + k):=by
  rw [Bool.eq_iff_iff,decide_eq_true_eq,decide_eq_true_eq];omega
 by_cases hm:k % 8=0∧q=16 + k / 8
 ·obtain ⟨hm,rfl⟩:=hm
  rw [yc (k:=k + 1) be5 be5]
  simp only [hm,decide_true,Bool.true_and,Nat.beq_refl,cond_true,show decide (8 * (k / 8)<k + 1)=true by simp;omega]
 ·have b:(decide (k % 8=0) && Nat.beq q (16 + k / 8))=false:=by
   cases h1:decide (k % 8=0) with
   | false=>rfl
   | true=>
    rw [Bool.true_and,gX]
    intro e;exact hm ⟨by simpa using h1,e⟩
  rw [b,cond_false]
  have e3:decide (16≤q∧q<24∧8 * (q - 16)<k + 1)=decide (16≤q∧q<24∧8 * (q - 16)<k):=by
   rw [Bool.eq_iff_iff,decide_eq_true_eq,decide_eq_true_eq];omega
  simp only [iQ,e0,e0',e3,e4,cond_false]
theorem qy {n:Nat} (hn:128≤n) (dd:Nat→DsD):∀ k,k≤64→sK n dd k=⟨dI n (iQ dd k),leftB k,0⟩:=by
 intro k
 induction k with
 | zero=>intro _;rw [sK,zk];rfl
 | succ k ih=>
  intro hk
  have hk':k<64:=by omega
  rw [sK,ih be5]
  dsimp only
  by_cases h0:k=0
  ·subst h0
   rw [show dI n (iQ dd 0)=dI n fun _=>0 from rfl,show leftB 0=rX from rfl,av1 hn]
   dsimp only
   rw [QO hn be6 rfl rfl rfl]
   dsimp only
   rw [GV.mk.injEq]
   refine ⟨fQ fun q hq=>?_,rfl,rfl⟩
   by_cases q0:q=0
   ·subst q0;rfl
   by_cases q8:q=8
   ·subst q8;rfl
   by_cases q16:q=16
   ·subst q16;rfl
   by_cases q24:q=24
   ·subst q24;rfl
   rw [gX q24,gX q16,gX q8,gX q0]
   have e3:decide (16≤q∧q<24∧8 * (q - 16)<0 + 1)=false:=by simp;omega
   have e4:decide (24≤q∧q<24 + (0 + 1))=false:=by simp;omega
   simp only [iQ,q0,q8,e3,e4,decide_false,cond_false]
   rfl
  ·obtain ⟨g0,g8⟩:=He (dd:=dd) h0
   have gm:=yc (dd:=dd) h0 (show k / 8<8 by omega)
   have gh:=fun q=>Vj (dd:=dd) (k:=k) (q:=q)
   have hfr:=Ff k hk' h0
   obtain ⟨l8,lo⟩:=Jw k hk' h0
   have hstep:∀ q,q<n→(bif Nat.beq q (24 + k) then (dd k).word 2 3 else bif (decide (k % 8=0) && Nat.beq q (16 + k / 8)) then gW (3 + k / 8) else iQ dd k q)=iQ dd (k + 1) q:=fun q _=>Jy hk' h0 q
   by_cases h8:k % 8=0
   ·rw [l8 h8]
    have gz:iQ dd k (16 + k / 8)=0:=by rw [gm,show decide (8 * (k / 8)<k)=false by simp;omega];rfl
    rw [l8 h8] at hfr
    simp only [h8,decide_true,cond_true] at hfr
    rw [au' hn hk' h8 g0 g8 gz (fun q a b=>gh q be5) hfr]
    dsimp only
    rw [QO hn hk' (by rw [gX be5,gX be5];exact g0) (by rw [gX be5,gX be5];exact g8) (by rw [gX be5,Nat.beq_refl];rfl)]
    dsimp only
    rw [GV.mk.injEq]
    refine ⟨fQ fun q hq=>?_,rfl,rfl⟩
    rw [← hstep q hq]
    simp only [h8,decide_true,Bool.true_and]
    cases Nat.beq q (24 + k)<;>rfl
   ·rw [lo h8]
    have gz:iQ dd k (16 + k / 8)=gW (3 + k / 8):=by rw [gm,show decide (8 * (k / 8)<k)=true by simp;omega];rfl
    rw [lo h8] at hfr
    simp only [h8,decide_false,cond_false] at hfr
    rw [au9 hn hk' g0 g8 gz (gh _ (Nat.le_refl _)) hfr]
    dsimp only
    rw [QO hn hk' (by rw [gX be5];exact g0) (by rw [gX be5];exact g8) (by rw [gX be5];exact gz)]
    dsimp only
    rw [GV.mk.injEq]
    refine ⟨fQ fun q hq=>?_,rfl,rfl⟩
    rw [← hstep q hq]
    simp only [h8,decide_false,Bool.false_and,cond_false]
    cases Nat.beq q (24 + k)<;>rfl
theorem Vk {n:Nat} (hn:128≤n):∀ k,k≤64→QM n k=⟨dI n (iQ (fun k=>aU k 0) k),leftB k,0⟩:=by
 intro k
 induction k with
 | zero=>intro _;rw [QM,zk];rfl
 | succ k ih=>
  intro hk
  have hk':k<64:=by omega
  rw [QM,ih be5]
  dsimp only
  by_cases h0:k=0
  ·subst h0
   rw [show dI n (iQ (fun k=>aU k 0) 0)=dI n fun _=>0 from rfl,show leftB 0=rX from rfl,av1 hn]
   rw [GV.mk.injEq]
   refine ⟨fQ fun q hq=>?_,rfl,rfl⟩
   by_cases q0:q=0
   ·subst q0;rfl
   by_cases q8:q=8
   ·subst q8;rfl
   by_cases q16:q=16
   ·subst q16;rfl
   by_cases q24:q=24
   ·subst q24;rfl
   rw [gX q24,gX q16,gX q8,gX q0]
   have e3:decide (16≤q∧q<24∧8 * (q - 16)<0 + 1)=false:=by simp;omega
   have e4:decide (24≤q∧q<24 + (0 + 1))=false:=by simp;omega
   simp only [iQ,q0,q8,e3,e4,decide_false,cond_false]
   rfl
  ·obtain ⟨g0,g8⟩:=He (dd:=fun k=>aU k 0) h0
   have gm:=yc (dd:=fun k=>aU k 0) h0 (show k / 8<8 by omega)
   have gh:=fun q=>Vj (dd:=fun k=>aU k 0) (k:=k) (q:=q)
   have hfr:=Ff k hk' h0
   obtain ⟨l8,lo⟩:=Jw k hk' h0
   have hstep:=fun q=>Jy (dd:=fun k=>aU k 0) hk' h0 q
   by_cases h8:k % 8=0
   ·rw [l8 h8]
    have gz:iQ (fun k=>aU k 0) k (16 + k / 8)=0:=by rw [gm,show decide (8 * (k / 8)<k)=false by simp;omega];rfl
    rw [l8 h8] at hfr
    simp only [h8,decide_true,cond_true] at hfr
    rw [au' hn hk' h8 g0 g8 gz (fun q a b=>gh q be5) hfr]
    rw [GV.mk.injEq]
    refine ⟨fQ fun q hq=>?_,rfl,rfl⟩
    rw [← hstep q]
    simp only [h8,decide_true,Bool.true_and]
   ·rw [lo h8]
    have gz:iQ (fun k=>aU k 0) k (16 + k / 8)=gW (3 + k / 8):=by rw [gm,show decide (8 * (k / 8)<k)=true by simp;omega];rfl
    rw [lo h8] at hfr
    simp only [h8,decide_false,cond_false] at hfr
    rw [au9 hn hk' g0 g8 gz (gh _ (Nat.le_refl _)) hfr]
    rw [GV.mk.injEq]
    refine ⟨fQ fun q hq=>?_,rfl,rfl⟩
    rw [← hstep q]
    simp only [h8,decide_false,Bool.false_and,cond_false]
theorem Vl {dd:Nat→DsD} {k j:Nat} (hj:j<k):iQ dd k (24 + j)=(dd j).word 2 3:=by
 have e0:decide (k=0)=false:=by simp;omega
 have e1:decide (24 + j=0)=false:=by simp
 have e2:decide (24 + j=8)=false:=by simp;omega
 have e3:decide (16≤24 + j∧24 + j<24∧8 * (24 + j - 16)<k)=false:=by simp;omega
 have e4:decide (24≤24 + j∧24 + j<24 + k)=true:=by simp;omega
 simp only [iQ,e0,e1,e2,e3,e4,cond_false,cond_true,show 24 + j - 24=j by omega]
def qA (F k q:Nat):Nat:=bif decide (24≤q∧q<24 + k) then (uC F (q - 24)).word 2 3 else iQ (fun k=>aU k 0) 64 q
theorem Jz {n:Nat} (hn:128≤n) (F:Nat):∀ k,k≤64→QN n F k=dI n (qA F k):=by
 intro k
 induction k with
 | zero=>
  intro _
  rw [QN,Vk hn 64 (Nat.le_refl _)]
  refine fQ fun q hq=>?_
  have e4:decide (24≤q∧q<24 + 0)=false:=by simp
  rw [qA,e4,cond_false]
 | succ k ih=>
  intro hk
  have hk':k<64:=by omega
  have hlow:∀ q,q<24→qA F k q=iQ (fun k=>aU k 0) 64 q:=fun q hq=>by
   have e4:decide (24≤q∧q<24 + k)=false:=by simp;omega
   rw [qA,e4,cond_false]
  have hnext:∀ q,(bif Nat.beq q (24 + k) then (uC F k).word 2 3 else qA F k q)=qA F (k + 1) q:=by
   intro q
   by_cases hq:q=24 + k
   ·subst hq
    have e4:decide (24≤24 + k∧24 + k<24 + (k + 1))=true:=by simp
    rw [Nat.beq_refl,cond_true,qA,e4,cond_true,show 24 + k - 24=k by omega]
   ·have e4:decide (24≤q∧q<24 + (k + 1))=decide (24≤q∧q<24 + k):=by
     rw [Bool.eq_iff_iff,decide_eq_true_eq,decide_eq_true_eq];omega
    rw [gX hq,cond_false,qA,qA,e4]
  have g0:qA F k 0=gW 1:=by rw [hlow 0 be6];rfl
  have g8:qA F k 8=gW 2:=by rw [hlow 8 be6];rfl
  have gm:qA F k (16 + k / 8)=gW (3 + k / 8):=by rw [hlow _ be5,yc be6 be5,show decide (8 * (k / 8)<64)=true by simp;omega];rfl
  rw [QN,ih be5]
  cases h1:decide (k<16) with
  | true=>
   have hd:uC F k=jF 1:=by simp only [uC,h1,cond_true]
   have hb:bD F k=some (jF 1):=by simp only [bD,h1,cond_true]
   rw [hb]
   dsimp only
   rw [QO hn hk' g0 g8 gm,← hd]
   exact fQ fun q _=>hnext q
  | false=>
   cases h2:decide (F≤k) with
   | true=>
    have hd:uC F k=dN:=by simp only [uC,h1,h2,cond_true,cond_false]
    have hb:bD F k=some dN:=by simp only [bD,h1,h2,cond_true,cond_false]
    rw [hb]
    dsimp only
    rw [QO hn hk' g0 g8 gm,← hd]
    exact fQ fun q _=>hnext q
   | false=>
    have hd:uC F k=aU k 0:=by simp only [uC,h1,h2,cond_false]
    have hb:bD F k=none:=by simp only [bD,h1,h2,cond_false]
    rw [hb]
    dsimp only
    refine fQ fun q _=>?_
    rw [← hnext q]
    by_cases hq:q=24 + k
    ·subst hq
     have e4:decide (24≤24 + k∧24 + k<24 + k)=false:=by simp
     rw [Nat.beq_refl,cond_true,hd,qA,e4,cond_false,Vl hk']
    ·rw [gX hq,cond_false]
theorem MC {n:Nat} (hn:128≤n) (F:Nat):QN n F 64=(sK n (uC F) 64).ws:=by
 rw [Jz hn F 64 (Nat.le_refl _),qy hn _ 64 (Nat.le_refl _)]
 refine fQ fun q _=>?_
 rw [qA]
 by_cases hq:24≤q∧q<24 + 64
 ·obtain ⟨j,rfl⟩:∃ j,q=24 + j:=⟨q - 24,by omega⟩
  have e4:decide (24≤24 + j∧24 + j<24 + 64)=true:=by simp;omega
  rw [e4,cond_true,Vl be5,show 24 + j - 24=j by omega]
 ·have e4:decide (24≤q∧q<24 + 64)=false:=by simp;omega
  rw [e4,cond_false]
  simp only [iQ,e4,show decide ((64:Nat)=0)=false from rfl,cond_false]
theorem lu.dI {n:Nat} {g:Nat→Nat} (h:∀ q,g q<18446744073709551616):lu (dI n g):=by
 intro x hx
 obtain ⟨q,_,rfl⟩:=List.mem_map.1 hx
 exact h q
theorem OY (dd:Nat→DsD) (k q:Nat):iQ dd k q<18446744073709551616:=by
 unfold iQ
 refine lD (P:=(·<18446744073709551616)) be6 (lD (P:=(·<18446744073709551616)) (DsD.word_lt _ _ _) (lD (P:=(·<18446744073709551616)) (DsD.word_lt _ _ _) (lD (P:=(·<18446744073709551616)) (DsD.word_lt _ _ _) (lD (P:=(·<18446744073709551616)) (DsD.word_lt _ _ _) be6))))
theorem OZ (F k q:Nat):qA F k q<18446744073709551616:=by
 unfold qA
 exact lD (P:=(·<18446744073709551616)) (DsD.word_lt _ _ _) (OY _ _ _)
section
attribute [local irreducible] Hy St Ops DH dG
theorem fG (n a b:Int) (w:World):Fn Tryz.prog 110 [.int .i64 n,.int .i64 a,.int .i64 b].toArray w [] (fun u _=>u=.bool (PtD.di n a b)):=by
 refine enter Tryz.func110 ?_
 refine aI ?_
 exact fin1 rfl
theorem Hf (w:World):Fn Tryz.prog 273 [].toArray w [] (fun u _=>u=.agg #[.int .i64 0,.int .i64 (-2)]):=by
 refine enter (args:=[]) Tryz.func273 ?_
 refine aI ?_
 intro B
 exact eF rfl
theorem MF (w:World):Fn Tryz.prog 246 [].toArray w [] (fun u _=>u=.agg #[.int .i64 (-1),.int .i64 (-2)]):=by
 refine enter (args:=[]) Tryz.func246 ?_
 refine aI ?_
 intro B
 exact eF rfl
structure fD (w:World) (pv gv ov:Value) (P:PtD):Prop where
 pages:aF w pv 2 (P.pages.map qI)
 aA:∃ vv mv:Nat→Value,aF w gv 5 ((List.range P.aA.length).map fun i=>[.bool (P.gs i).live,.bool (P.gs i).dying,.int .i64 (P.gs i).first,vv i,mv i])∧∀ i,i<P.aA.length→aF w (vv i) 1 ((P.gs i).aN.map dA)∧aF w (mv i) 2 ((P.gs i).maps.map dS)
 on:aF w ov 2 (P.on.map Eh)
 wf:P.Wf
theorem fD.good {w w':World} {hp:Hp} {pv gv ov:Value} {P:PtD} (h:fD w pv gv ov P) (hG:Good w [] hp w'):fD w' pv gv ov P:=by
 obtain ⟨h1,⟨vv,mv,h2,h3⟩,h4,h5⟩:=h
 exact ⟨h1.good hG,⟨vv,mv,h2.good hG,fun i hi=>⟨(h3 i hi).1.good hG,(h3 i hi).2.good hG⟩⟩,h4.good hG,h5⟩
theorem fD.open {w:World} {pv gv ov:Value} {P:PtD} (h:fD w pv gv ov P) (hn:P.Len):∃ L:Iw,pv=L.pv P.pages.length∧gv=L.gv P.aA.length∧ov=L.ov P.on.length∧jm w L P:=by
 obtain ⟨⟨⟨p,pc,e1,hp⟩,_⟩,⟨vv,mv,⟨⟨g,gc,e2,hg⟩,_⟩,h3⟩,⟨⟨o,oc,e4,ho⟩,_⟩,h5⟩:=h
 obtain ⟨a,b,c,d,e⟩:=hn
 obtain ⟨pb,po,rfl,hp2⟩:=hp (by intro h;rw [List.map_eq_nil_iff] at h;rw [h] at a;simp at a)
 obtain ⟨gb,go,rfl,hg2⟩:=hg (by intro h;rw [List.map_eq_nil_iff,List.range_eq_nil] at h;omega)
 obtain ⟨ob,oo,rfl,ho2⟩:=ho (by intro h;rw [List.map_eq_nil_iff] at h;rw [h] at d;simp at d)
 simp only [List.length_map,List.length_range] at e1 e2 e4
 refine ⟨⟨pb,po,pc,gb,go,gc,ob,oo,oc,vv,mv⟩,e1,e2,e4,⟨fun i hi=>?_,fun i hi=>?_,fun i hi=>(h3 i hi).1,fun i hi=>(h3 i hi).2,fun i hi=>?_,h5⟩⟩
 ·refine hp2 i _ ?_
  rw [List.getElem?_map,PtD.pg,List.getD_eq_getElem?_getD,List.getElem?_eq_getElem hi];rfl
 ·exact hg2 i _ (iL _ hi)
 ·refine ho2 i _ ?_
  rw [List.getElem?_map,PtD.st,List.getD_eq_getElem?_getD,List.getElem?_eq_getElem hi];rfl
def fO (frames QS:Nat):PtD:=⟨(List.range frames).map fun f=>⟨bif decide (f<16) then -1 else 0,-2⟩,List.replicate 4 ⟨false,false,0,[],[]⟩,List.replicate QS ⟨0,0⟩⟩
def Bd (frames QS:Int):Bool:=PtD.di frames 24 64 && PtD.di QS 1 3
def Vm (frames QS:Int) (u:Value) (hn:Hp):Prop:=
 bif Bd frames QS then ∃ pv gv ov,u=.tuple #[.agg #[pv,gv,ov],.int .i64 0]∧∀ w,Here hn w→fD w pv gv ov (fO frames.toNat QS.toNat)
 else u=.tuple #[.agg #[.slice none 0 0,.slice none 0 0,.slice none 0 0],.int .i64 1]
theorem av2 {w:World} {F C:Nat} {pv:Value} {ha:Hp} {Bg Bo tg tq:Nat} (hA:Acc 70 2 pv ha ((fO F C).pages.map qI)) (hF:F≤64) (hC:C≤3) (h:Here (⟨Bg,((List.replicate 4 [Value.bool false,.bool false,.int .i64 0,.slice none 0 0,.slice none 0 0]).flatten).toArray,tg⟩::⟨Bo,((List.replicate C [Value.int .i64 0,.int .i64 0]).flatten).toArray,tq⟩::ha) w):
  fD w pv (.slice (some ⟨Bg,0,none⟩) 4 4) (.slice (some ⟨Bo,0,none⟩) C C) (fO F C):=by
 have hnil:∀ sz,aF w (.slice none 0 0) sz []:=fun sz=>⟨⟨none,0,rfl,fun h=>absurd rfl h⟩,by simp⟩
 have hg:∀ i,(fO F C).gs i=⟨false,false,0,[],[]⟩:=fun i=>by
  simp only [fO,PtD.gs,List.getD_eq_getElem?_getD,List.getElem?_replicate]
  split<;>rfl
 refine ⟨hA.lie (h.sub fun e he=>List.mem_cons_of_mem _ (List.mem_cons_of_mem _ he)) (by simp [fO];omega),⟨fun _=>.slice none 0 0,fun _=>.slice none 0 0,?_,fun i _=>by rw [hg i];exact ⟨hnil 1,hnil 2⟩⟩,?_,?_⟩
 ·have:=gV (w:=w) (b:=Bg) (t:=tg) (cap:=4) (sz:=5) (xs:=List.replicate 4 [Value.bool false,.bool false,.int .i64 0,.slice none 0 0,.slice none 0 0]) (h _ (List.mem_cons_self ..)) bg2 be7
  have e:((List.range (fO F C).aA.length).map fun i=>[Value.bool ((fO F C).gs i).live,.bool ((fO F C).gs i).dying,.int .i64 ((fO F C).gs i).first,.slice none 0 0,.slice none 0 0])=List.replicate 4 [Value.bool false,.bool false,.int .i64 0,.slice none 0 0,.slice none 0 0]:=by simp only [hg];rfl
  rw [e]
  simpa using this
 ·have:=gV (w:=w) (b:=Bo) (t:=tq) (cap:=C) (sz:=2) (xs:=List.replicate C [Value.int .i64 0,.int .i64 0]) (h _ (List.mem_cons_of_mem _ (List.mem_cons_self ..))) bg2 bf2
  simpa [fO,Eh] using this
 ·refine ⟨fun f hf=>?_,fun i _=>by rw [hg i];exact ⟨⟨by decide,by decide⟩,by simp,by simp⟩,fun c hc=>?_⟩
  ·simp only [fO,List.length_map,List.length_range] at hf
   simp only [fO,PtD.pg,List.getD_eq_getElem?_getD,List.getElem?_map,List.getElem?_range hf,Option.map_some,Option.getD_some]
   refine ⟨?_,by decide,by decide⟩
   cases decide (f<16)<;>exact ⟨by decide,by decide⟩
  ·simp only [fO,List.length_replicate] at hc
   simp only [fO,PtD.st,List.getD_eq_getElem?_getD,List.getElem?_replicate,hc,if_true,Option.getD_some]
   exact ⟨⟨by decide,by decide⟩,by decide,by decide⟩
theorem YO (F C:Nat) (hF:F≤64) (hF1:1≤F) (hC:C≤3) (w:World):Fn Tryz.prog 19 [.int .i64 (F:Int),.int .i64 (C:Int)].toArray w [] (fun u hn=>∃ pv gv ov,u=.agg #[pv,gv,ov]∧∀ w,Here hn w→fD w pv gv ov (fO F C)):=by
 refine enter Tryz.func19 ?_
 refine run ?_
 intro Rb
 refine drawM 5 [1] [0,2,4] [3] ?_
 refine fU ?_
 refine I7 (m:=4) (sz:=5) (z:=.agg #[.bool false,.bool false,.int .i64 0,.slice none 0 0,.slice none 0 0]) ?_ be5 (hcs:=by exact oM [.bool false,.bool false,.int .i64 0,.slice none 0 0,.slice none 0 0] 4 5 rfl be5)
 refine I7 (m:=C) (sz:=2) (z:=.agg #[.int .i64 0,.int .i64 0]) ?_ be5 (hcs:=by exact oM [.int .i64 0,.int .i64 0] C 2 rfl be5)
 refine qR ?_
 refine jS ?_
 rintro _ _ ⟨Bp,rfl,rfl⟩ _ _ ⟨Bo,rfl,rfl⟩ _ _ ⟨Bg,rfl,rfl⟩
 refine tN ?_
 refine iW ?_
 refine qU ?_
 simp only [List.cons_append,List.nil_append]
 obtain ⟨GC,hGC⟩:∃ G:Array Value,G=((List.replicate 4 [Value.bool false,.bool false,.int .i64 0,.slice none 0 0,.slice none 0 0]).flatten).toArray:=⟨_,rfl⟩
 obtain ⟨OC,hOC⟩:∃ G:Array Value,G=((List.replicate C [Value.int .i64 0,.int .i64 0]).flatten).toArray:=⟨_,rfl⟩
 rw [← hGC,← hOC]
 refine run ?_
 refine aX (σ:=Nat × Value × Hp) (fun s=>[(6,.int .i64 (s.1:Int))]) (fun s=>⟨Bp,#[s.2.1,.slice (some ⟨Bg,0,none⟩) 4 4,.slice (some ⟨Bo,0,none⟩) C C],38⟩::⟨Rb,#[.slice none 0 0,.slice none 0 0,.slice none 0 0],38⟩::⟨Bg,GC,129⟩::⟨Bo,OC,133⟩::s.2.2) (fun s=>s.1≤F∧Acc 70 2 s.2.1 s.2.2 ((fO s.1 C).pages.map qI)) (fun s=>F - s.1) (0,_,[]) ⟨by omega,Acc.nil _ _⟩ ?_
 rintro ⟨k,pv,ha⟩ m hm ⟨hk,hA⟩
 dsimp only at hm hk hA ⊢
 have hpl:(fO k C).pages.length=k:=by simp [fO]
 refine run ?_
 refine ah _ rfl (fun hc=>?_) (fun hc=>?_)
 ·have hlt:k<F:=by simp at hc;omega
  have hstep:∀ (x:sF) (v':Value) (ha':Hp),x=⟨bif decide (k<16) then -1 else 0,-2⟩→Acc 70 2 v' ha' ((fO k C).pages.map qI++[qI x])→Acc 70 2 v' ha' ((fO (k + 1) C).pages.map qI):=by
   rintro x v' ha' rfl h
   simpa [fO,List.range_succ] using h
  refine run ?_
  intro X
  refine ah _ rfl (fun hc2=>?_) (fun hc2=>?_)
  ·have hc2':decide (k<16)=true:=by simp at hc2 ⊢;omega
   refine run ?_
   intro T
   refine OG (c:=qI ⟨-1,-2⟩) [_,_,_,_,_,_] hA (fun v' ha' hA'=>?_) (by simp [hpl];omega) (bQ (m:=2) mh rfl)
   obtain ⟨g,gc,cur,rfl,hha,_⟩:=hA'.open be7
   simp only [List.cons_append,List.nil_append]
   refine run ?_
   refine aK (k + 1,_,ha') ⟨by omega,hstep _ _ _ (by rw [hc2'];rfl) hA'⟩
  ·have hc2':decide (k<16)=false:=by simp at hc2 ⊢;omega
   refine run ?_
   intro T
   refine OG (c:=qI ⟨0,-2⟩) [_,_,_,_,_,_] hA (fun v' ha' hA'=>?_) (by simp [hpl];omega) (bQ (m:=2) mh rfl)
   obtain ⟨g,gc,cur,rfl,hha,_⟩:=hA'.open be7
   simp only [List.cons_append,List.nil_append]
   refine run ?_
   refine aK (k + 1,_,ha') ⟨by omega,hstep _ _ _ (by rw [hc2'];rfl) hA'⟩
 have hge:k=F:=by simp at hc;omega
 subst hge
 subst hGC hOC
 obtain ⟨q,qc,hq,_⟩:∃ q qc,pv=.slice q (fO k C).pages.length qc∧True:=by
  rcases hA.2 with ⟨h,_⟩ | ⟨_,g,cap,cur,rfl,_,_⟩
  ·rw [List.map_eq_nil_iff] at h;rw [h] at hpl;simp at hpl;omega
  ·exact ⟨_,cap,by rw [List.length_map],trivial⟩
 subst hq
 refine run ?_
 refine eF ?_
 refine ⟨_,_,_,rfl,fun w' hw'=>av2 (tg:=129) (tq:=133) hA be5 be5 (hw'.sub ?_)⟩
 intro e he
 simp only [List.mem_cons] at he ⊢
 rcases he with rfl | rfl | he
 ·simp
 ·simp
 ·simp [he]
end
theorem oC {n:Nat} {w0:World} {mu:List Nat} {l:Fm} {hp:Hp} {all:Array Oper} {iv:Fm} {i d:Nat} {ds:List (Nat × Nat)} {D:List Nat} {Y:Fm→Prop} {ty:TypeId} {pos:String} {af:Array Edge} {x:Operand} {v:Value} (h:gJ Tryz.prog n w0 mu all ds l hp Y D ((i,v)::iv)) (ho:all[i]?=some ⟨some d,.assign x,ty,pos,af,none⟩:=by rfl) (hx:ev (aG ds iv af.toList++l) x=some v:=by rfl):gJ Tryz.prog n w0 mu all ds l hp Y (i::D) iv:=BX ho (Ui hx) h
theorem MG {e:Nat} (xs:List (List Value)) (hx:∀ c∈xs,c.length=1∧c.all (·.oneCell')=true) (hl:xs.length<65536):∃ v h,Own e 1 v h xs:=by
 by_cases h0:xs=[]
 ·subst h0;exact ⟨_,_,Own.nil e 1⟩
 ·have hfl:∀ ys:List (List Value),(∀ c∈ys,c.length=1∧c.all (·.oneCell')=true)→ys.flatten.length=ys.length:=by
   intro ys
   induction ys with
   | nil=>intro _;rfl
   | cons y r ih=>intro h;rw [List.flatten_cons,List.length_append,ih (fun c hc=>h c (List.mem_cons_of_mem _ hc)),(h y (List.mem_cons_self ..)).1,List.length_cons];omega
  refine ⟨.slice (some ⟨0,0,none⟩) xs.length xs.length,[⟨0,xs.flatten.toArray,e⟩],hx,.inr ⟨0,xs.length,_,rfl,rfl,⟨by rw [hfl xs hx];omega,Nat.le_refl _,by unfold maxLen;omega,by simp only [List.size_toArray];rw [hfl xs hx];omega,?_⟩⟩⟩
  rw [List.take_of_length_le (by simp only;rw [hfl xs hx];omega)]
theorem YP (r:GV) (h1:r.ws.length<65536) (h2:r.left.length<65536):∃ u hn,QG r u hn:=by
 obtain ⟨v,h,hO⟩:=MG (e:=47) (r.ws.map uV) (fun c hc=>by obtain ⟨x,_,rfl⟩:=List.mem_map.1 hc;exact ⟨rfl,rfl⟩) (by simpa using h1)
 obtain ⟨v2,h3,hO2⟩:=MG (e:=3) (r.left.map dA) (fun c hc=>by obtain ⟨x,_,rfl⟩:=List.mem_map.1 hc;exact ⟨rfl,rfl⟩) (by simpa using h2)
 exact ⟨_,_,v,h,v2,h3,rfl,hO,hO2,aC.refl _⟩
section
attribute [local irreducible] Hy St Ops DH dG
structure iU where
 kind:Int
 aO:Int
 sN:Int
 all:Bool
 page:Int
 level:Int
 frame:Int
 mid:Int
 r:Bool
 w:Bool
 x:Bool
 af:Bool
 ng:Bool
 soft:Int
deriving DecidableEq
instance : Inhabited iU := ⟨⟨0, 0, 0, false, 0, 0, 0, 0, false, false, false, false, false, 0⟩⟩
abbrev kE (e:iU):List Value:=[.int .i64 e.kind,.int .i64 e.aO,.int .i64 e.sN,.bool e.all,.int .i64 e.page,.int .i64 e.level,.int .i64 e.frame,.int .i64 e.mid,.bool e.r,.bool e.w,.bool e.x,.bool e.af,.bool e.ng,.int .i64 e.soft]
structure jZ where
 kind:Int
 aO:Int
 sN:Int
 page:Int
deriving DecidableEq
instance : Inhabited jZ := ⟨⟨0, 0, 0, 0⟩⟩
abbrev rD (i:jZ):List Value:=[.int .i64 i.kind,.int .i64 i.aO,.int .i64 i.sN,.int .i64 i.page]
def iU.nums (e:iU):Bool:=PtD.di e.aO 0 15 && PtD.di e.sN 0 15 && PtD.di e.page 0 4095 && PtD.di e.frame 0 4095 && PtD.di e.mid 0 4095 && decide (e.soft=0)
def iU.bare (e:iU):Bool:=!e.r && !e.w && !e.x && !e.af && !e.ng && decide (e.soft=0)
def MH (level page:Nat):Nat:=page - page % aB level
def iU.may (e:iU):Bool:=e.nums &&
 bif decide (e.kind=1) then decide (e.level=0)
 else bif decide (e.kind=2) then decide (e.sN=0) && e.all && decide (e.level=0) && decide (e.mid=0) && !e.ng
 else bif decide (e.kind=3) then PtD.di e.level 1 3 && decide (MH (e.level.toNat - 1) e.page.toNat=e.page.toNat) && decide (e.mid=0) && e.bare
 else false
def jZ.may (i:jZ):Bool:=PtD.di i.kind 1 6 && PtD.di i.aO 0 15 && PtD.di i.sN 0 15 && PtD.di i.page 0 4095
end
theorem av3 (a b:iU):aW (kE a) (kE b)=decide (a=b):=by
 obtain ⟨a1,a2,a3,a4,a5,a6,a7,a8,a9,a10,a11,a12,a13,a14⟩:=a
 obtain ⟨b1,b2,b3,b4,b5,b6,b7,b8,b9,b10,b11,b12,b13,b14⟩:=b
 rw [Bool.eq_iff_iff,decide_eq_true_eq]
 simp [aW,kF]
def JA (es:List iU) (k:Nat):Bool:=(es.getD k default).may && !(es.take k).any fun t=>decide (t=es.getD k default)
def gq (es:List iU) (ds:List jZ):Bool:=((List.range es.length).all fun k=>JA es k) && ds.all jZ.may && decide (es.length≤8) && decide (ds.length≤8)
theorem Vo {p:Nat→Bool} {n:Nat} (h:∀ j,j<n→p j=true):(List.range n).all p=true:=List.all_eq_true.2 fun j hj=>h j (List.mem_range.1 hj)
theorem YQ {p:Nat→Bool} {n k:Nat} (hk:k<n) (h:p k=false):(List.range n).all p=false:=by
 cases hc:(List.range n).all p with
 | false=>rfl
 | true=>rw [List.all_eq_true.1 hc k (List.mem_range.2 hk)] at h;cases h
theorem YR {es:List iU} {ds:List jZ} {k:Nat} (hk:k<es.length) (h:JA es k=false):gq es ds=false:=by
 unfold gq
 rw [YQ hk h];rfl
section
attribute [local irreducible] Hy St Ops DH dG
structure oU where
 es:List iU
 ds:List jZ
 ep:Option Addr
 ec:Nat
 dp:Option Addr
 dc:Nat
instance : Inhabited oU := ⟨⟨[], [], none, 0, none, 0⟩⟩
abbrev oU.ev (t:oU):Value:=.slice t.ep t.es.length t.ec
abbrev oU.dv (t:oU):Value:=.slice t.dp t.ds.length t.dc
abbrev XA (t:oU):List Value:=[t.ev,t.dv]
structure Vp (w:World) (v:Value) (ts:List oU):Prop where
 rows:aF w v 2 (ts.map XA)
 en:∀ t∈ts,aF w t.ev 14 (t.es.map kE)
 iv:∀ t∈ts,aF w t.dv 4 (t.ds.map rD)
theorem Vp.good {w w':World} {hp:Hp} {v:Value} {ts:List oU} (h:Vp w v ts) (hG:Good w [] hp w'):Vp w' v ts:=⟨h.rows.good hG,fun t ht=>(h.en t ht).good hG,fun t ht=>(h.iv t ht).good hG⟩
theorem getD_mem {α:Type} [Inhabited α] {l:List α} {k:Nat} (h:k<l.length):l.getD k default∈l:=by
 rw [List.getD_eq_getElem?_getD,List.getElem?_eq_getElem h];exact List.getElem_mem h
end
structure pU where
 x0:Nat
 x1:Nat
 x2:Nat
 x3:Nat
 x4:Nat
 x5:Nat
 x6:Nat
 x7:Nat
 pc:Nat
 oD:Nat
 jq:Nat
 oG:Nat
 Be:Nat
 Bf:Nat
 far:Nat
deriving DecidableEq
def dK:pU:=⟨0,0,0,0,0,0,0,0,0,0,0,0,0,0,0⟩
instance : Inhabited pU := ⟨dK⟩
abbrev nT (r:pU):List Value:=[.int .u64 (r.x0:Int),.int .u64 (r.x1:Int),.int .u64 (r.x2:Int),.int .u64 (r.x3:Int),.int .u64 (r.x4:Int),.int .u64 (r.x5:Int),.int .u64 (r.x6:Int),.int .u64 (r.x7:Int),.int .u64 (r.pc:Int),.int .u64 (r.oD:Int),.int .u64 (r.jq:Int),.int .u64 (r.oG:Int),.int .u64 (r.Be:Int),.int .u64 (r.Bf:Int),.int .u64 (r.far:Int)]
theorem Vq (a b:pU):aW (nT a) (nT b)=decide (a=b):=by
 obtain ⟨a0,a1,a2,a3,a4,a5,a6,a7,a8,a9,a10,a11,a12,a13,a14⟩:=a
 obtain ⟨b0,b1,b2,b3,b4,b5,b6,b7,b8,b9,b10,b11,b12,b13,b14⟩:=b
 rw [Bool.eq_iff_iff,decide_eq_true_eq]
 simp [aW,kF,Int.ofNat_inj]
structure Iy where
 r:pU
 on:Int
deriving DecidableEq
instance : Inhabited Iy := ⟨⟨dK, 0⟩⟩
abbrev Fg (c:Iy):List Value:=[.int .u64 (c.r.x0:Int),.int .u64 (c.r.x1:Int),.int .u64 (c.r.x2:Int),.int .u64 (c.r.x3:Int),.int .u64 (c.r.x4:Int),.int .u64 (c.r.x5:Int),.int .u64 (c.r.x6:Int),.int .u64 (c.r.x7:Int),.int .u64 (c.r.pc:Int),.int .u64 (c.r.oD:Int),.int .u64 (c.r.jq:Int),.int .u64 (c.r.oG:Int),.int .u64 (c.r.Be:Int),.int .u64 (c.r.Bf:Int),.int .u64 (c.r.far:Int),.int .i64 c.on]
structure qB where
 r:pU
 vm:Int
 vc:Int
 t:oU
instance : Inhabited qB := ⟨⟨dK, 0, 0, default⟩⟩
abbrev QT (c:qB):List Value:=[.int .u64 (c.r.x0:Int),.int .u64 (c.r.x1:Int),.int .u64 (c.r.x2:Int),.int .u64 (c.r.x3:Int),.int .u64 (c.r.x4:Int),.int .u64 (c.r.x5:Int),.int .u64 (c.r.x6:Int),.int .u64 (c.r.x7:Int),.int .u64 (c.r.pc:Int),.int .u64 (c.r.oD:Int),.int .u64 (c.r.jq:Int),.int .u64 (c.r.oG:Int),.int .u64 (c.r.Be:Int),.int .u64 (c.r.Bf:Int),.int .u64 (c.r.far:Int),.int .i64 c.vm,.int .i64 c.vc,c.t.ev,c.t.dv]
structure MI (w:World) (v:Value) (cs:List qB):Prop where
 rows:aF w v 19 (cs.map QT)
 en:∀ c∈cs,aF w c.t.ev 14 (c.t.es.map kE)
 iv:∀ c∈cs,aF w c.t.dv 4 (c.t.ds.map rD)
theorem MI.good {w w':World} {hp:Hp} {v:Value} {cs:List qB} (h:MI w v cs) (hG:Good w [] hp w'):MI w' v cs:=⟨h.rows.good hG,fun t ht=>(h.en t ht).good hG,fun t ht=>(h.iv t ht).good hG⟩
structure jH where
 live:Bool
 dying:Bool
 aO:Int
 fs:List Int
 fp:Option Addr
 fc:Nat
 fr:List Int
 rp:Option Addr
 rc:Nat
 vs:List Iy
 vp:Option Addr
 vk:Nat
instance : Inhabited jH := ⟨⟨false, false, 0, [], none, 0, [], none, 0, [], none, 0⟩⟩
abbrev jH.fv (m:jH):Value:=.slice m.fp m.fs.length m.fc
abbrev jH.rv (m:jH):Value:=.slice m.rp m.fr.length m.rc
abbrev jH.vv (m:jH):Value:=.slice m.vp m.vs.length m.vk
abbrev zO (m:jH):List Value:=[.bool m.live,.bool m.dying,.int .i64 m.aO,m.fv,m.rv,m.vv]
structure Eo (w:World) (v:Value) (ms:List jH):Prop where
 rows:aF w v 6 (ms.map zO)
 fs:∀ m∈ms,aF w m.fv 1 (m.fs.map dA)
 fr:∀ m∈ms,aF w m.rv 1 (m.fr.map dA)
 vs:∀ m∈ms,aF w m.vv 16 (m.vs.map Fg)
theorem Eo.good {w w':World} {hp:Hp} {v:Value} {cs:List jH} (h:Eo w v cs) (hG:Good w [] hp w'):Eo w' v cs:=⟨h.rows.good hG,fun t ht=>(h.fs t ht).good hG,fun t ht=>(h.fr t ht).good hG,fun t ht=>(h.vs t ht).good hG⟩
structure MJ (w:World) (wv cv vv rv:Value) (ws:List Nat) (cs:List qB) (vs:List jH) (rs:List pU):Prop where
 Jt:lu ws
 ws:aF w wv 1 (ws.map uV)
 cs:MI w cv cs
 vs:Eo w vv vs
 rs:aF w rv 15 (rs.map nT)
theorem MJ.good {w w':World} {hp:Hp} {wv cv vv rv:Value} {ws:List Nat} {cs:List qB} {vs:List jH} {rs:List pU} (h:MJ w wv cv vv rv ws cs vs rs) (hG:Good w [] hp w'):MJ w' wv cv vv rv ws cs vs rs:=⟨h.Jt,h.ws.good hG,h.cs.good hG,h.vs.good hG,h.rs.good hG⟩
def MK:qB:=⟨dK,0,0,⟨[],[],none,0,none,0⟩⟩
def vm0:jH:=⟨false,false,0,[],none,0,[],none,0,[],none,0⟩
theorem qC (w:World) (sz:Nat):aF w (.slice none 0 0) sz []:=⟨⟨none,0,rfl,fun h=>absurd rfl h⟩,by simp⟩
theorem MI.zero {w:World} {b t C:Nat} (h:w.heap[b]?=some (.cells ((List.replicate C (QT MK)).flatten).toArray t (0,0))) (hC:C≤1000):MI w (.slice (some ⟨b,0,none⟩) C C) (List.replicate C MK):=by
 refine ⟨?_,fun c hc=>?_,fun c hc=>?_⟩
 ·have:=gV (w:=w) (b:=b) (t:=t) (cap:=C) (sz:=19) (xs:=List.replicate C (QT MK)) h bg2 bf2
  simpa using this
 ·rw [List.eq_of_mem_replicate hc];exact qC _ _
 ·rw [List.eq_of_mem_replicate hc];exact qC _ _
theorem Eo.zero {w:World} {b t C:Nat} (h:w.heap[b]?=some (.cells ((List.replicate C (zO vm0)).flatten).toArray t (0,0))) (hC:C≤1000):Eo w (.slice (some ⟨b,0,none⟩) C C) (List.replicate C vm0):=by
 refine ⟨?_,fun c hc=>?_,fun c hc=>?_,fun c hc=>?_⟩
 ·have:=gV (w:=w) (b:=b) (t:=t) (cap:=C) (sz:=6) (xs:=List.replicate C (zO vm0)) h bg2 bf2
  simpa using this
 ·rw [List.eq_of_mem_replicate hc];exact qC _ _
 ·rw [List.eq_of_mem_replicate hc];exact qC _ _
 ·rw [List.eq_of_mem_replicate hc];exact qC _ _
theorem YS {w:World} {b t C:Nat} (h:w.heap[b]?=some (.cells ((List.replicate C (nT dK)).flatten).toArray t (0,0))) (hC:C≤1000):aF w (.slice (some ⟨b,0,none⟩) C C) 15 ((List.replicate C dK).map nT):=by
 have:=gV (w:=w) (b:=b) (t:=t) (cap:=C) (sz:=15) (xs:=List.replicate C (nT dK)) h bg2 bf2
 simpa using this
section
attribute [local irreducible] Hy St Ops DH dG je iI gJ DS gY
theorem yf (f soft:Int) (w:World):Fn Tryz.prog 169 [.int .i64 f,.int .i64 soft].toArray w [] (fun u _=>u=sU (aU f soft)):=by
 refine enter Tryz.func169 ?_
 refine run ?_
 intro B C
 refine run ?_
 exact eF (cs:=#[.int .i64 2,.int .i64 f,.bool true,.bool true,.bool true,.bool true,.bool false,.int .i64 soft,.int .i64 0]) rfl
theorem Bi (f soft:Int) (w:World):Fn Tryz.prog 65 [.int .i64 f,.int .i64 soft].toArray w [] (fun u _=>u=sU (aU f soft)):=by
 refine enter Tryz.func65 ?_
 refine run ?_
 intro B
 refine run ?_
 exact eF (cs:=#[.int .i64 2,.int .i64 f,.bool true,.bool true,.bool true,.bool true,.bool false,.int .i64 soft,.int .i64 0]) rfl
theorem ai9 (own ry f:Int) (ho:own≤1000) (h1:-1≤own) (w:World):Fn Tryz.prog 66 [.agg #[.int .i64 own,.int .i64 ry],.int .i64 f].toArray w [] (fun u _=>u=sU (lN own ry f)):=by
 refine enter Tryz.func66 ?_
 refine run ?_
 intro B C
 refine aI ?_
 refine ah _ rfl (fun hc=>?_) (fun hc=>?_)
 ·refine run ?_
  refine ak (fun wc hG=>Bi f 0 wc) ?_
  refine run ?_
  rw [show lN own ry f=aU f 0 by unfold lN;rw [hc,cond_true]]
  exact eF (cs:=#[.int .i64 (aU f 0).kind,.int .i64 (aU f 0).frame,.bool (aU f 0).r,.bool (aU f 0).w,.bool (aU f 0).x,.bool (aU f 0).af,.bool (aU f 0).ng,.int .i64 (aU f 0).soft,.int .i64 (aU f 0).note]) rfl
 refine run ?_
 refine ah _ rfl (fun hc2=>?_) (fun hc2=>?_)
 ·refine run ?_
  refine ak (fun wc hG=>Bi f 1 wc) ?_
  refine run ?_
  rw [show lN own ry f=aU f 1 by unfold lN;rw [hc,cond_false,hc2,cond_true]]
  exact eF (cs:=#[.int .i64 (aU f 1).kind,.int .i64 (aU f 1).frame,.bool (aU f 1).r,.bool (aU f 1).w,.bool (aU f 1).x,.bool (aU f 1).af,.bool (aU f 1).ng,.int .i64 (aU f 1).soft,.int .i64 (aU f 1).note]) rfl
 refine run ?_
 refine ah _ rfl (fun hc3=>?_) (fun hc3=>?_)
 ·refine run ?_
  refine ak (fun wc hG=>Bi f 2 wc) ?_
  refine run ?_
  rw [show lN own ry f=aU f 2 by unfold lN;rw [hc,cond_false,hc2,cond_false,hc3,cond_true]]
  exact eF (cs:=#[.int .i64 (aU f 2).kind,.int .i64 (aU f 2).frame,.bool (aU f 2).r,.bool (aU f 2).w,.bool (aU f 2).x,.bool (aU f 2).af,.bool (aU f 2).ng,.int .i64 (aU f 2).soft,.int .i64 (aU f 2).note]) rfl
 refine run ?_
 refine ah _ rfl (fun hc4=>?_) (fun hc4=>?_)
 ·refine run ?_
  rw [show lN own ry f=jF 1 by unfold lN;rw [hc,cond_false,hc2,cond_false,hc3,cond_false,hc4,cond_true]]
  exact eF (cs:=#[.int .i64 0,.int .i64 0,.bool false,.bool false,.bool false,.bool false,.bool false,.int .i64 0,.int .i64 1]) rfl
 refine run ?_
 rw [show lN own ry f=jF (1 + own) by unfold lN;rw [hc,cond_false,hc2,cond_false,hc3,cond_false,hc4,cond_false]]
 exact eF (cs:=#[.int .i64 0,.int .i64 0,.bool false,.bool false,.bool false,.bool false,.bool false,.int .i64 0,.int .i64 (1 + own)]) rfl
def dW (pages:List sF) (k:Nat):DsD:=bif decide (k<pages.length) then lN (pages.getD k default).own (pages.getD k default).wit k else dN
theorem yg {k:Nat} (hk:k<64) {s:Int} (h0:0≤s) (h1:s≤15):(aU (k:Int) s).may 2 3=true:=by
 simp [DsD.may,aU,PtD.di,h0,h1,aB,pq,Nat.mod_one]
 apply decide_eq_true
 show (k:Int)≤4095
 omega
theorem JB {own ry:Int} {k:Nat} (hk:k<64) (h0:-1≤own) (h1:own≤14):(lN own ry k).may 2 3=true:=by
 unfold lN
 refine lD (P:=fun d=>DsD.may 2 3 d=true) (yg hk be6 be6) (lD (P:=fun d=>DsD.may 2 3 d=true) (yg hk be6 be6) (lD (P:=fun d=>DsD.may 2 3 d=true) (yg hk be6 be6) (lD (P:=fun d=>DsD.may 2 3 d=true) be6 (EY be5 be5))))
theorem ML {pages:List sF} (zN:∀ a∈pages,-1≤a.own∧a.own≤14) {k:Nat} (hk:k<64):(dW pages k).may 2 3=true:=by
 unfold dW
 cases h:decide (k<pages.length) with
 | false=>exact uA 2 3
 | true=>
  have:=zN _ (getD_mem (by simpa using h))
  exact JB hk this.1 this.2
theorem QU (F:Nat) (hF1:16≤F) (hF:F≤64) (pages:List sF) (zN:∀ a∈pages,-1≤a.own∧a.own≤14) {w:World} {pv:Value} (h:aF w pv 2 (pages.map qI)):Fn Tryz.prog 33 [.int .i64 (F:Int),pv].toArray w [] (fun u hn=>YH (sK (F * 8) (dW pages) 64).ws u hn):=by
 obtain ⟨q,cap,rfl,hne,hle⟩:=h.opened
 refine enter Tryz.func33 ?_
 refine run ?_
 intro R
 rw [show (F:Int) * 8=((F * 8:Nat):Int) by omega]
 refine make (m:=F * 8) (fun Z=>?_) be5
 refine run ?_
 intro M A
 refine run ?_
 have Vr:128≤F * 8:=by omega
 have hM0:Own 47 1 (.slice (some ⟨Z,0,none⟩) (F * 8) (F * 8)) [⟨Z,madeCells (Value.int .u64 0).cells (F * 8 * 1),47⟩] ((dI (F * 8) (iQ (dW pages) 0)).map uV):=by
  have:=Vg Z (F * 8) be5
  rw [zk] at this
  exact this
 have hL0:Own 3 1 (.slice (some ⟨A,0,none⟩) 15 15) [⟨A,#[.int .i64 1,.int .i64 2,.int .i64 3,.int .i64 4,.int .i64 5,.int .i64 6,.int .i64 7,.int .i64 8,.int .i64 9,.int .i64 10,.int .i64 11,.int .i64 12,.int .i64 13,.int .i64 14,.int .i64 15],3⟩] ((leftB 0).map dA):=GX A 15 _ rfl rfl bg7
 refine aX (σ:=Nat × Option Addr × Nat × Hp × Option Addr × Nat × Hp) (fun s=>[(7,.int .i64 (s.1:Int)),(6,.slice s.2.2.2.2.1 (leftB s.1).length s.2.2.2.2.2.1)]) (fun s=>⟨M,#[.slice s.2.1 (F * 8) s.2.2.1],24⟩::⟨R,#[.slice none 0 0],24⟩::(s.2.2.2.2.2.2++s.2.2.2.1)) (fun s=>s.1≤64∧Own 47 1 (.slice s.2.1 (F * 8) s.2.2.1) s.2.2.2.1 ((dI (F * 8) (iQ (dW pages) s.1)).map uV)∧Own 3 1 (.slice s.2.2.2.2.1 (leftB s.1).length s.2.2.2.2.2.1) s.2.2.2.2.2.2 ((leftB s.1).map dA)) (fun s=>64 - s.1) (0,some ⟨Z,0,none⟩,F * 8,_,some ⟨A,0,none⟩,15,_) ⟨(by decide:0≤64),hM0,hL0⟩ ?_ (hh:=by (exact aj))
 rintro ⟨k,mq,mc,hm,fq,fc,hf⟩ m hmm ⟨hk,hM,hL⟩
 dsimp only at hmm hk hM hL ⊢
 refine run ?_
 refine ah _ rfl (fun hc=>?_) (fun hc=>?_)
 ·have hlt:k<64:=by simp at hc;omega
  have hn:(dI (F * 8) (iQ (dW pages) k)).length=F * 8:=eu _ _
  have hw64:lu (dI (F * 8) (iQ (dW pages) k)):=lu.dI (OY _ _)
  refine run ?_
  have hll:(leftB k).length<1000:=by
   have:∀ k,k<65→(leftB k).length<1000:=by decide +kernel
   exact this k be5
  obtain ⟨q',c',eq',hcl,hq'⟩:=hL.OV
  injection eq' with e1 e2 e3
  subst e1 e3
  have hstep:=qy Vr (dW pages) (k + 1) be5
  rw [sK,qy Vr (dW pages) k be5] at hstep
  dsimp only at hstep
  have hTk:=OW hw64 0 (leftB k) k (aU k 0)
  refine wC 11 [0,1,2,3,4] [5,10] [6,7,8,9] [12,13] [11] ?_
  refine fU ?_
  refine G6 (fun wc hx hG=>Bi k 0 wc) ?_
  refine fU ?_
  refine jB (R:=fun u hn=>QG (qj (dI (F * 8) (iQ (dW pages) k)) 0 (leftB k) k (aU k 0)) u hn) (fun wc hG=>ai0 _ hw64 (hM.lie (fun b hb=>hG.here b bi7) (by simp [hn];omega)) _ (hL.lie (fun b hb=>hG.here b bi7) bf2) ⟨_,_,rfl,hcl⟩ 0 k be5 (aU k 0) (yg hlt be6 be6) (by rw [hn];omega) be5) (YP _ (by have:=hTk.2.1;omega) (by have:=hTk.2.2;omega)) ?_
  refine qR ?_
  refine jS ?_
  generalize qj (dI (F * 8) (iQ (dW pages) k)) 0 (leftB k) k (aU k 0)=T at hTk hstep
  obtain ⟨tw,tl,te⟩:=T
  obtain ⟨av4,hTl,hTf⟩:=hTk
  dsimp only at av4 hTl hTf hstep
  rw [GV.mk.injEq] at hstep
  obtain ⟨hs1,hs2,_⟩:=hstep
  rintro _ _ ⟨X,rfl,rfl⟩ u hn2 ⟨v2,h2,vl2,hl2,rfl,hO2,hL2,hle2⟩
  dsimp only at hO2 hL2
  obtain ⟨q2',c2',e2⟩:=hO2.opened
  rw [List.length_map] at e2
  subst e2
  refine xJ ?_
  refine dY ?_
  refine dY ?_
  refine dY ?_
  refine iW ?_
  refine oC ?_
  refine oC ?_
  refine iW ?_
  simp only [DN,List.cons_append,List.nil_append,List.append_nil]
  refine Qx ?_
  refine dw ?_
  refine lg ?_
  refine aP (⟨X,#[.slice q2' tw.length c2'],24⟩::⟨M,#[.slice mq (F * 8) mc],24⟩::⟨R,#[.slice none 0 0],24⟩::(h2++hl2)) (cnt1 hle2) ?_
  refine run ?_
  intro D
  refine Gg (σ:=DsD) (fun _=>[]) (fun d=>⟨D,#[.int .i64 (d).kind,.int .i64 (d).frame,.bool (d).r,.bool (d).w,.bool (d).x,.bool (d).af,.bool (d).ng,.int .i64 (d).soft,.int .i64 (d).note],124⟩::⟨X,#[.slice q2' tw.length c2'],24⟩::⟨M,#[.slice mq (F * 8) mc],24⟩::⟨R,#[.slice none 0 0],24⟩::(h2++hl2)) (fun d=>d=dW pages k) ?_ ?_
  ·refine ah _ rfl (fun hc2=>?_) (fun hc2=>?_)
   ·have hlp:k<pages.length:=by simpa using hc2
    obtain ⟨b3,o3,rfl⟩:=hne (by intro e;rw [e] at hlp;simp at hlp)
    have hr:=h.row hlp
    have hpk:=zN _ (getD_mem hlp)
    have hd:dW pages k=lN (pages.getD k default).own (pages.getD k default).wit k:=by simp only [dW,hlp,decide_true,cond_true]
    generalize pages.getD k default=a at hr hpk hd
    refine run ?_
    refine ak (fun wc hG=>ai9 a.own a.wit k be5 hpk.1 wc) ?_
    refine run ?_
    exact Cj _ hd.symm
   ·have hlp:decide (k<pages.length)=false:=by simpa using hc2
    have hd:dW pages k=dN:=by simp only [dW,hlp,cond_false]
    refine run ?_
    exact Cj dN hd.symm
  rintro d hd
  have hdm:d.may 2 3=true:=by rw [hd];exact ML zN hlt
  rw [← hd] at hs1
  clear hd
  refine run ?_
  refine dJ (fun wc hG=>ah' tw av4 (hO2.lie (fun b hb=>hG.here b bi7) be9) 0 k be5 3 be6 d hdm be5) ?_
  rintro u hn3 ⟨v3,h3,rfl,hO3,hle3⟩
  rw [hs1] at hO3
  obtain ⟨q3,c3,e3⟩:=hO3.opened
  rw [List.length_map,eu] at e3
  subst e3
  rw [hs2] at hL2
  obtain ⟨q4,c4,e4⟩:=hL2.opened
  rw [List.length_map] at e4
  subst e4
  refine aP (⟨D,#[.int .i64 (d).kind,.int .i64 (d).frame,.bool (d).r,.bool (d).w,.bool (d).x,.bool (d).af,.bool (d).ng,.int .i64 (d).soft,.int .i64 (d).note],124⟩::⟨X,#[.slice q2' tw.length c2'],24⟩::⟨M,#[.slice mq (F * 8) mc],24⟩::⟨R,#[.slice none 0 0],24⟩::(h3++hl2)) (cnt1 hle3) ?_
  refine run ?_
  refine aK (k + 1,q3,c3,h3,q4,c4,hl2) ⟨hlt,hO3,hL2⟩ (hm:=by dsimp only;omega) (h2:=by (exact aj))
 have aE7:k=64:=by simp at hc;omega
 subst aE7
 refine run ?_
 rw [qy Vr (dW pages) 64 (Nat.le_refl _)]
 exact eF (cs:=#[.slice mq (F * 8) mc]) ⟨_,hm,rfl,hM,by (exact aj)⟩
theorem MM {F C:Nat} (hF1:16≤F) (k:Nat):dW (fO F C).pages k=uC F k:=by
 unfold dW uC
 have hl:(fO F C).pages.length=F:=by simp [fO]
 rw [hl]
 by_cases hF:k<F
 ·have e1:decide (k<F)=true:=by simpa using hF
  have e2:decide (F≤k)=false:=by simp;omega
  have e3:(fO F C).pages.getD k default=⟨bif decide (k<16) then -1 else 0,-2⟩:=by
   simp [fO,List.getD_eq_getElem?_getD,List.getElem?_range hF]
  rw [e1,e2,e3,cond_true,cond_false]
  cases decide (k<16)<;>rfl
 ·have e1:decide (k<F)=false:=by simpa using hF
  have e2:decide (F≤k)=true:=by simp;omega
  have e3:decide (k<16)=false:=by simp;omega
  rw [e1,e2,e3,cond_false,cond_true,cond_false]
theorem MN {n:Nat} {dd dd':Nat→DsD} (h:∀ k,dd k=dd' k):∀ j,sK n dd j=sK n dd' j:=by
 intro j
 induction j with
 | zero=>rfl
 | succ j ih=>rw [sK,sK,ih,h j]
theorem JC {F C:Nat} (hF1:16≤F):(sK (F * 8) (dW (fO F C).pages) 64).ws=dI (F * 8) (qA F 64):=by
 rw [MN (MM hF1),← MC be5 F,Jz be5 F 64 (Nat.le_refl _)]
theorem Vs {F C:Nat}:∀ a∈(fO F C).pages,-1≤a.own∧a.own≤14:=by
 intro a ha
 obtain ⟨k,_,rfl⟩:=List.mem_map.1 ha
 dsimp only
 cases decide (k<16)<;>decide
end
section
section
variable {n : Nat} {w0 : World} {mu : List Nat} {l : Fm} {hp : Hp} {ty : TypeId} {pos : String} {af : Array Edge} {dd : Option Nat} {gg : Option (Nat × Bool)}
theorem Vt {t e m s:Nat} {ps:List (Nat × Operand)} {vs:List (Nat × Value)} {z:Value} {out out':Array Value} (ht:lk Tb.ar t=some (m,e,s)) (hz:lk Tb.zs t=some z) (hv:Ee l ps=some vs) (hf:Instr.fill (fun i=>some (i * s,s)) z.cells vs=some out) (hn:out=out'):Hy Tryz.prog n w0 mu l hp ⟨dd,.build t ps.toArray,ty,pos,af,gg⟩ (.agg out'):=by
 subst hn
 obtain ⟨hu,hs⟩:=ay.gar ht
 exact bF fun a w hk _=>by
  have e:(ps.toArray.map fun x=>(x.1,a.eval x.2))=vs.toArray:=by rw [← hk.Ee hv];simp
  simp only [execOp,Instr.build,Sem.run_bind,mM (ay.IE hz) w,Result.andThen_ok,run_underlying hu w,run_sizeOf hs w,e]
  simp [hf]
theorem Dj {t e m:Nat} {x y:Operand} {cs:Array Value} {k:IntKind} {i:Int} {v:Value} (ht:lk Tb.ar t=some (m,e,1)) (hsc:mem Tb.sc e=true) (hx:ev l x=some (.agg cs)) (hy:ev l y=some (.int k i)) (h0:0≤i) (h1:i<m) (hn:cs[i.toNat]?=some v) {ty2:TypeId}:Hy Tryz.prog n w0 mu l hp ⟨dd,.index t x y,ty2,pos,af,gg⟩ v:=by
 obtain ⟨hu,hs⟩:=ay.gar ht
 have hg:=ay.gsc hsc
 exact bF fun a w hk _=>by
  simp only [execOp,hk.ev hx,hk.ev hy]
  simp [Instr.index,run_underlying hu w,asIntOf,h0,h1,run_sizeOf hs w,part,nU hg w,hn]
end
end
section
attribute [local irreducible] Hy St Ops DH dG je iI gJ DS gY mP
theorem JD (w:World):Fn Tryz.prog 75 [].toArray w [] (fun u _=>u=.agg #[.int .i64 1,.int .i64 1,.int .i64 1,.int .i64 8]):=by
 refine enter Tryz.func75 ?_
 refine run ?_
 intro B
 refine run ?_
 refine ja be8 (Vt (out:=#[.int .i64 1,.int .i64 1,.int .i64 1,.int .i64 8]) rfl rfl rfl be8 rfl) ?_
 refine run ?_
 exact eF (cs:=#[.int .i64 1,.int .i64 1,.int .i64 1,.int .i64 8]) rfl
theorem Vu:∀ k:Nat,k<4→(#[.int .i64 1,.int .i64 1,.int .i64 1,.int .i64 8]:Array Value)[k]?=some (.int .i64 (if k=3 then 8 else 1)):=by
 intro k hk
 have:k=0∨k=1∨k=2∨k=3:=by omega
 rcases this with rfl | rfl | rfl | rfl<;>rfl
theorem ai' (f own ry:Int) (h1:-1≤own) (h2:own≤1000) (w:World):Fn Tryz.prog 164 [.int .i64 f,.agg #[.int .i64 own,.int .i64 ry]].toArray w [] (fun u _=>u=sU (lN own ry f)):=by
 refine enter Tryz.func164 ?_
 refine run ?_
 intro B C
 refine aI ?_
 refine ah _ rfl (fun hc=>?_) (fun hc=>?_)
 ·refine run ?_
  refine ak (fun wc hG=>yf f 0 wc) ?_
  refine run ?_
  rw [show lN own ry f=aU f 0 by unfold lN;rw [hc,cond_true]]
  exact eF (cs:=#[.int .i64 (aU f 0).kind,.int .i64 (aU f 0).frame,.bool (aU f 0).r,.bool (aU f 0).w,.bool (aU f 0).x,.bool (aU f 0).af,.bool (aU f 0).ng,.int .i64 (aU f 0).soft,.int .i64 (aU f 0).note]) rfl
 refine run ?_
 refine ah _ rfl (fun hc2=>?_) (fun hc2=>?_)
 ·refine run ?_
  refine ak (fun wc hG=>yf f 1 wc) ?_
  refine run ?_
  rw [show lN own ry f=aU f 1 by unfold lN;rw [hc,cond_false,hc2,cond_true]]
  exact eF (cs:=#[.int .i64 (aU f 1).kind,.int .i64 (aU f 1).frame,.bool (aU f 1).r,.bool (aU f 1).w,.bool (aU f 1).x,.bool (aU f 1).af,.bool (aU f 1).ng,.int .i64 (aU f 1).soft,.int .i64 (aU f 1).note]) rfl
 refine run ?_
 refine ah _ rfl (fun hc3=>?_) (fun hc3=>?_)
 ·refine run ?_
  refine ak (fun wc hG=>yf f 2 wc) ?_
  refine run ?_
  rw [show lN own ry f=aU f 2 by unfold lN;rw [hc,cond_false,hc2,cond_false,hc3,cond_true]]
  exact eF (cs:=#[.int .i64 (aU f 2).kind,.int .i64 (aU f 2).frame,.bool (aU f 2).r,.bool (aU f 2).w,.bool (aU f 2).x,.bool (aU f 2).af,.bool (aU f 2).ng,.int .i64 (aU f 2).soft,.int .i64 (aU f 2).note]) rfl
 have hne:=of_decide_eq_false hc2
 refine run ?_
 refine ah _ rfl (fun hc4=>?_) (fun hc4=>?_)
 ·have hp:0<own:=of_decide_eq_true hc4
  refine run ?_
  rw [show lN own ry f=jF (1 + own) by unfold lN;rw [hc,cond_false,hc2,cond_false,hc3,cond_false,decide_eq_false be5,cond_false]]
  exact eF (cs:=#[.int .i64 0,.int .i64 0,.bool false,.bool false,.bool false,.bool false,.bool false,.int .i64 0,.int .i64 (1 + own)]) rfl
 have hp:¬ 0<own:=of_decide_eq_false hc4
 refine run ?_
 rw [show lN own ry f=jF 1 by unfold lN;rw [hc,cond_false,hc2,cond_false,hc3,cond_false,decide_eq_true be5,cond_true]]
 exact eF (cs:=#[.int .i64 0,.int .i64 0,.bool false,.bool false,.bool false,.bool false,.bool false,.int .i64 0,.int .i64 1]) rfl
def jI (pages:List sF) (lv tb at_:Nat):DsD:=
 bif decide (lv=3) then dW pages (tb * 8 + at_) else bif decide (lv=2) then lq (3 + (at_:Int)) else bif decide (at_=0) then lq ((lv:Int) + 1) else dN
theorem QV {w:World} (X:Nat) {pv gv ov:Value} (pages:List sF) (h:aF w pv 2 (pages.map qI)) (zN:∀ a∈pages,-1≤a.own∧a.own≤14) (lv tb at_:Nat) (hl:lv<4) (ht:tb<8) (ha:at_<8):Fn Tryz.prog 77 [.pointer (some ⟨X,0,none⟩),.agg #[pv,gv,ov],.int .i64 (lv:Int),.int .i64 (tb:Int),.int .i64 (at_:Int)].toArray w [] (fun u _=>u=sU (jI pages lv tb at_)):=by
 have h':=h
 obtain ⟨q,cap,rfl,hne,hle⟩:=h.opened
 refine enter Tryz.func77 ?_
 refine run ?_
 intro P D
 refine ah _ rfl (fun hc=>?_) (fun hc=>?_)
 ·have hl3:lv<3:=by simp at hc;omega
  refine run ?_
  refine ak (fun wc hG=>JD wc) ?_
  refine run ?_
  refine aX (σ:=Nat) (fun k=>[(18,.int .i64 (k:Int)),(11,.int .i64 ((min k (lv + 1):Nat):Int))]) (fun _=>⟨D,#[.int .i64 0,.int .i64 0,.bool false,.bool false,.bool false,.bool false,.bool false,.int .i64 0,.int .i64 0],124⟩::[⟨P,#[.slice q pages.length cap,gv,ov],38⟩]) (fun k=>k≤4) (fun k=>4 - k) 0 (Nat.zero_le _) ?_
  rintro k m hm hk
  refine run ?_
  refine ah _ rfl (fun hc2=>?_) (fun hc2=>?_)
  ·have hk3:k<4:=by simp at hc2;omega
   refine run ?_
   refine ja be8 (Dj rfl rfl rfl rfl be5 be5 (Vu k hk3)) ?_
   refine run ?_
   refine ah _ rfl (fun hc3=>?_) (fun hc3=>?_)
   ·have hkl:k≤lv:=by simp at hc3;omega
    rw [if_neg (by omega:¬ k=3),show min k (lv + 1)=k by omega]
    refine run ?_
    exact aK (k + 1) hk3 (h1:=by rw [show min (k + 1) (lv + 1)=k + 1 by omega];(repeat (first | exact True.intro | (refine And.intro bf3 ?_))))
   ·have hkl:lv<k:=by simp at hc3;omega
    refine run ?_
    exact aK (k + 1) hk3 (h1:=by rw [show min (k + 1) (lv + 1)=min k (lv + 1) by omega];(repeat (first | exact True.intro | (refine And.intro bf3 ?_))))
  ·have hk4:k=4:=by simp at hc2;omega
   subst hk4
   rw [show min 4 (lv + 1)=lv + 1 by omega]
   refine run ?_
   refine ah _ rfl (fun hc3=>?_) (fun hc3=>?_)
   ·have h2:lv=2:=by simp at hc3;omega
    subst h2
    rw [show ((2 + 1:Nat):Int)=3 from rfl]
    refine run ?_
    exact eF (cs:=#[.int .i64 1,.int .i64 (3 + (at_:Int)),.bool false,.bool false,.bool false,.bool false,.bool false,.int .i64 0,.int .i64 0]) rfl
   ·have h2:lv ≠ 2:=by simp at hc3;omega
    refine run ?_
    refine ah _ rfl (fun hc4=>?_) (fun hc4=>?_)
    ·have h0:at_=0:=by simp at hc4;omega
     have hfd:jI pages lv tb at_=lq ((lv + 1:Nat):Int):=by unfold jI;rw [decide_eq_false be5,decide_eq_false h2,decide_eq_true h0];simp [lq]
     rw [hfd]
     refine run ?_
     exact eF (cs:=#[.int .i64 1,.int .i64 ((lv + 1:Nat):Int),.bool false,.bool false,.bool false,.bool false,.bool false,.int .i64 0,.int .i64 0]) rfl
    ·have h0:at_ ≠ 0:=by simp at hc4;omega
     have hfd:jI pages lv tb at_=dN:=by unfold jI;rw [decide_eq_false be5,decide_eq_false h2,decide_eq_false h0];rfl
     rw [hfd]
     refine run ?_
     exact eF (cs:=#[.int .i64 0,.int .i64 0,.bool false,.bool false,.bool false,.bool false,.bool false,.int .i64 0,.int .i64 0]) rfl
 have hl3:lv=3:=by simp at hc;omega
 subst hl3
 refine run ?_
 refine ah _ rfl (fun hc2=>?_) (fun hc2=>?_)
 ·have hfd:jI pages 3 tb at_=dN:=by
   have:¬ tb * 8 + at_<pages.length:=by simp at hc2;omega
   unfold jI dW;rw [decide_eq_false this];rfl
  rw [hfd]
  refine run ?_
  exact eF (cs:=#[.int .i64 0,.int .i64 0,.bool false,.bool false,.bool false,.bool false,.bool false,.int .i64 0,.int .i64 0]) rfl
 have hlt:tb * 8 + at_<pages.length:=by simp at hc2;omega
 obtain ⟨b,o,rfl⟩:=hne bj3
 have hr:=h.row hlt
 have hpp:=zN _ (getD_mem hlt)
 have hfd:jI pages 3 tb at_=lN (pages.getD (tb * 8 + at_) default).own (pages.getD (tb * 8 + at_) default).wit ((tb * 8 + at_:Nat):Int):=by
  unfold jI dW;rw [decide_eq_true hlt];rfl
 rw [hfd]
 generalize pages.getD (tb * 8 + at_) default=pg at hr hpp ⊢
 rw [show (tb:Int) * 8 + (at_:Int)=((tb * 8 + at_:Nat):Int) by omega]
 refine run ?_
 refine ak (fun wc hG=>ai' _ pg.own pg.wit hpp.1 be5 wc) ?_
 refine run ?_
 generalize lN pg.own pg.wit ((tb * 8 + at_:Nat):Int)=d
 exact eF (cs:=#[.int .i64 d.kind,.int .i64 d.frame,.bool d.r,.bool d.w,.bool d.x,.bool d.af,.bool d.ng,.int .i64 d.soft,.int .i64 d.note]) rfl
abbrev abL (wv cv vv rv:Value):List Value:=[wv,cv,vv,rv,.slice none 0 0,.slice none 0 0,.slice none 0 0,.slice none 0 0]
end
section
def EoC (P:Program) (n:Nat) (w0:World) (mu:List Nat) (all:Array Oper) (lf:Fm) (hp:Hp) (o:Oper) (R:RT):Prop:=
 (∀ a,Knows n lf a→Region.wanted o (yielded all a.tmps)=true)∧∀ a w,Knows n lf a→Good w0 mu hp w→∀ (K:Act→World→Prop) (Q:Exit→Act→World→Prop),(∀ v h' w',R v h'→Good w0 mu h' w'→K (a.put o.dst v) w')→o.wp P a w K Q
def Iz (P:Program) (n:Nat) (w0:World) (mu:List Nat) (all:Array Oper) (ds:List (Nat × Nat)) (l:Fm) (h0 hb:Hp) (t0:Nat) (X:Fm→Fm→Hp→Prop):List (Nat × Bool)→Fm→Fm→Hp→Prop
 | [],aH,aS,h=>X aH aS h
 | (i,false)::r,aH,aS,h=>∃ o,all[i]?=some o∧((o.dst.isSome=true∧∃ R:RT,zI P n w0 mu all (aG ds (aS++aH) o.after.toList++l) h o R∧∀ v hn,R v hn→Iz P n w0 mu all ds l h0 hb t0 X r aH ((i,v)::aS) (hn++h)) ∨
   (o.dst=none∧∃ h',HyS P n w0 mu (aG ds (aS++aH) o.after.toList++l) h o h'∧aC h0 h'∧Iz P n w0 mu all ds l h0 hb t0 X r aH aS h') ∨
   (o.dst.isSome=true∧∃ R:RT,EoC P n w0 mu all (aG ds (aS++aH) o.after.toList++l) h o R∧∀ v h',R v h'→aC h0 h'∧((i=t0∨Region.waitsFor .any all i t0=true)∨aC hb h')∧Iz P n w0 mu all ds l h0 hb t0 X r aH ((i,v)::aS) h'))
 | (i,true)::r,aH,aS,h=>∃ o v,all[i]?=some o∧zY P n w0 mu (aG ds (aS++aH) o.after.toList++l) [] o v∧Iz P n w0 mu all ds l h0 hb t0 X r ((i,v)::aH) aS h
def Vw (all:Array Oper):List Nat→List Nat→Bool
 | _,[]=>true
 | seen,x::r=>seen.any (fun y=>Region.waitsFor .any all x y) && Vw all (x::seen) r
def Dk (all:Array Oper):List (Nat × Bool)→Bool
 | []=>true
 | (c,d)::r=>(d || Vw all [c] (r.map (·.1))) && Dk all r
theorem QW {all:Array Oper}:∀ {r seen:List Nat},Vw all seen r=true→∀ x∈r,∃ y,(y∈seen∨y∈r)∧Region.waitsFor .any all x y=true:=by
 intro r
 induction r with
 | nil=>intro seen _ x hx;cases hx
 | cons z r ih=>
  intro seen h x hx
  simp only [Vw,Bool.and_eq_true] at h
  rcases List.mem_cons.1 hx with rfl | hx
  ·obtain ⟨y,hy,h2⟩:=List.any_eq_true.1 h.1
   exact ⟨y,.inl hy,h2⟩
  ·obtain ⟨y,hy,h2⟩:=ih h.2 x hx
   rcases hy with hy | hy
   ·rcases List.mem_cons.1 hy with rfl | hy
    ·exact ⟨_,.inr (List.mem_cons_self ..),h2⟩
    ·exact ⟨y,.inl hy,h2⟩
   ·exact ⟨y,.inr (List.mem_cons_of_mem _ hy),h2⟩
theorem Vx {all:Array Oper} {c:Nat} {r:List (Nat × Bool)} (h:Vw all [c] (r.map (·.1))=true):∀ x∈r.map (·.1),∃ y,(y∈[c]∨y∈r.map (·.1))∧Region.waitsFor .any all x y=true:=QW h
theorem Fh {k:Nat} {listed:Array Bool} {all:Array Oper} (h:leftOf k listed=0) {i:Nat} (hi:i<k) (inv:HeadInv .any all k listed) (hk:k≤all.size):listed.getD i true=true:=by
 cases hc:listed.getD i true with
 | true=>rfl
 | false=>
  exfalso
  have:i∈(List.range k).filter fun i=>!listed.getD i true:=List.mem_filter.2 ⟨List.mem_range.2 hi,by simp only [hc,Bool.not_false]⟩
  have h2:=List.length_pos_of_mem this
  unfold leftOf at h
  omega
section
variable {P : Program} {n : Nat} {w0 : World} {mu : List Nat} {l : Fm} {h0 hp : Hp} {Q : Exit → Fm → Hp → Prop} {all : Array Oper} {k t0 : Nat} {ds : List (Nat × Nat)}
structure SOk (P:Program) (n:Nat) (w0:World) (mu:List Nat) (all:Array Oper) (ds:List (Nat × Nat)) (l:Fm) (h0 hp:Hp) (t0 k:Nat) (aH aS:Fm):Prop where
 so:∀ i v,lk aH i=some v→i<k∧∃ o bK,all[i]?=some o∧(∀ j u,look bK j=some u→lk aS j=some u∨lk aH j=some u)∧∀ hx,sQ P n w0 mu all (aG ds bK o.after.toList++l) (bif Region.waitsFor .any all t0 i then hx++hp else hx++h0) o v
 uq:Uq aH
theorem ab3 {aH aS:Fm} {i:Nat} {v:Value} (hne:∀ u,(i,u) ∉ aS) (h:SOk P n w0 mu all ds l h0 hp t0 k aH aS):SOk P n w0 mu all ds l h0 hp t0 k aH ((i,v)::aS):=⟨fun j u hu=>by
 obtain ⟨h1,o,bK,h2,h3,h4⟩:=h.1 j u hu
 exact ⟨h1,o,bK,h2,fun a b hab=>(h3 a b hab).imp (fun h=>by rw [bT,if_neg (fun e=>by subst e;exact hne _ (iK h))];exact h) id,h4⟩,h.2⟩
theorem Vy {aH aS:Fm} {i:Nat} {v:Value} {o:Oper} (h:SOk P n w0 mu all ds l h0 hp t0 k aH aS) (hi:i<k) (hn:lk aH i=none) (ho:all[i]?=some o) (hy:zY P n w0 mu (aG ds (aS++aH) o.after.toList++l) [] o v):SOk P n w0 mu all ds l h0 hp t0 k ((i,v)::aH) aS:=by
 have hmo:∀ j u,lk aH j=some u→lk ((i,v)::aH) j=some u:=fun j u hu=>by
  rw [bT,if_neg (fun e=>by subst e;rw [hn] at hu;cases hu)];exact hu
 refine ⟨fun j u hu=>?_,fun j u hu=>?_⟩
 ·rw [bT] at hu
  by_cases hij:i=j
  ·subst hij
   rw [if_pos rfl] at hu
   cases hu
   refine ⟨hi,o,aS++aH,ho,fun a b hab=>?_,fun hx=>Jg hy⟩
   rw [fM,Gy] at hab
   cases hE:lk aS a with
   | some x=>rw [hE] at hab;cases hab;exact .inl rfl
   | none=>rw [hE] at hab;exact .inr (hmo _ _ hab)
  ·rw [if_neg hij] at hu
   obtain ⟨h1,o',bK,h2,h3,h4⟩:=h.1 j u hu
   exact ⟨h1,o',bK,h2,fun a b hab=>(h3 a b hab).imp id (hmo a b),h4⟩
 ·rcases List.mem_cons.1 hu with hu | hu
  ·cases hu;rw [bT,if_pos rfl]
  ·exact hmo _ _ (h.2 j u hu)
theorem QX {aH aS:Fm} {i:Nat} {v:Value} {h:Hp} {listed:Array Bool} {a:Act} {w:World} (hm:qX n w0 mu all l aH aS h listed a w) (hun:listed.getD i true=false) (hn:lk aH i=none):qX n w0 mu all l ((i,v)::aH) aS h listed a w:=
 ⟨hm.size,hm.defers,hm.has,hm.good,fun j u hj hl d hd=>by
  by_cases hij:i=j
  ·subst hij;rw [getD_both hun] at hl;cases hl
  ·rw [bT,if_neg hij] at hj;exact hm.rV j u hj hl d hd,hm.mX⟩
def Hg (ops:Array Oper) (n k t0:Nat) (S:List Nat) (C:List (Nat × Bool)):Bool:=
 uk ops k n && nR ops && qW k S (C.map (·.1)) && Dk ops C && rU ops k && (List.range k).all fun i=>(aY ops i).isSome || Nat.beq i t0 || Region.waitsFor .any ops i t0
theorem MO (hds : ∀ k d, lk ds k = some d → aY all k = some d) {g : Nat} {Q' : Exit → Act → World → Prop} {X : Fm → Fm → Hp → Prop} (hk : k ≤ all.size) (hd : uk all k n = true) (hf : bI l (dstsOf all k) = true) (hback : nR all = true) (hle0 : aC h0 hp)
    (wB : ∀ i, i < k → aY all i = none → i = t0 ∨ Region.waitsFor .any all i t0 = true)
    (htail : ∀ aH aS h listed, HeadInv .any all k listed → (∀ i, i < k → listed.getD i true = true) → X aH aS h → ∀ a w, qX n w0 mu all l aH aS h listed a w → (∀ i v, (i, v) ∈ aS → i < k) → (∀ i v, lk aH i = some v → i < k) → Uq aH → wpAny P .any all Q' g listed a w)
    (lQ : ∀ listed, HeadInv .any all k listed → ∀ i, i < k → listed.getD i true = false → ∀ t, k ≤ t → t ∉ Region.ready .any all listed) :
    ∀ f r aH aS h listed a w, leftOf k listed = f → HeadInv .any all k listed → qX n w0 mu all l aH aS h listed a w → SOk P n w0 mu all ds l h0 hp t0 k aH aS → (∀ i v, (i, v) ∈ aS → i < k) → (∀ i ∈ r.map (·.1), i < k ∧ listed.getD i true = false ∧ lk aH i = none) → (r.map (·.1)).Nodup → Dk all r = true → (∀ i, i < k → listed.getD i true = false → (∃ v, lk aH i = some v) ∨ i ∈ r.map (·.1)) →
      aC h0 h → (listed.getD t0 false = false → aC hp h) → Iz P n w0 mu all ds l h0 hp t0 X r aH aS h → wpAny P .any all Q' (f + g) listed a w := by
  intro f
  induction f with
  | zero =>
    intro r
    induction r with
    | nil =>
      intro aH aS h listed a w hlf inv hm hS hEk hr hnd dH hcov hle pR hD
      rw [Nat.zero_add]
      exact htail aH aS h listed inv (fun i hi => Fh hlf hi inv hk) hD a w hm hEk (fun i v hv => (hS.1 i v hv).1) hS.2
    | cons p r ihr =>
      intro aH aS h listed a w hlf inv hm hS hEk hr hnd dH hcov hle pR hD
      have h1 := hr p.1 (List.mem_cons_self ..)
      rw [Fh hlf h1.1 inv hk] at h1
      exact absurd h1.2.1 be6
  | succ f ih =>
    have STEP : ∀ r aH aS h listed a w, leftOf k listed = f + 1 → HeadInv .any all k listed → qX n w0 mu all l aH aS h listed a w → SOk P n w0 mu all ds l h0 hp t0 k aH aS → (∀ i v, (i, v) ∈ aS → i < k) → (∀ i ∈ r.map (·.1), i < k ∧ listed.getD i true = false ∧ lk aH i = none) → (r.map (·.1)).Nodup → Dk all r = true → (∀ i, i < k → listed.getD i true = false → (∃ v, lk aH i = some v) ∨ i ∈ r.map (·.1)) →
      aC h0 h → (listed.getD t0 false = false → aC hp h) → Iz P n w0 mu all ds l h0 hp t0 X r aH aS h → (∀ p r', r = p :: r' → p.2 = false) → wpAny P .any all Q' (f + 1 + g) listed a w := by
     intro r aH aS h listed a w hlf inv hm hS hEk hr hnd dH hcov hle pR hD aE8
     rw [show f + 1 + g = (f + g) + 1 by omega]
     have hex : ∃ i, i < k ∧ listed.getD i true = false := by
       have h2 : 0 < leftOf k listed := by omega
       obtain ⟨i, hi⟩ := List.exists_mem_of_length_pos h2
       rw [List.mem_filter] at hi
       exact ⟨i, List.mem_range.1 hi.1, by simpa using hi.2⟩
     obtain ⟨i0, nG, hi0⟩ := hex
     refine ⟨fun hnil => ?_, fun i hi => ?_⟩
     · exfalso
       obtain ⟨i, ⟨hik, hil⟩, hmin⟩ := exists_least (p := fun i => i < k ∧ listed.getD i true = false) ⟨i0, nG, hi0⟩
       have hr : i ∈ Region.ready .any all listed := by
         rw [mem_ready]
         have hs : i < all.size := by omega
         refine ⟨hil, all[i], by simp [hs], fun e he hb => ?_⟩
         have hb2 := List.all_eq_true.1 hback i (List.mem_range.2 hs)
         simp only [Array.getElem?_eq_getElem hs] at hb2
         have hb3 := (Array.all_eq_true_iff_forall_mem.1 hb2) e he
         simp only [hb, Bool.not_true, Bool.false_or, Nat.blt_eq] at hb3
         cases hc : listed.getD e.on false with
         | true => rfl
         | false =>
           have h5 := hmin e.on ⟨by omega, getD_in (by rw [inv.size]; omega) hc⟩
           omega
       rw [hnil] at hr; cases hr
     · have hik : i < k := by
         rcases Nat.lt_or_ge i k with h | h
         · exact h
         · exact absurd hi (lQ listed inv i0 nG hi0 i h)
       obtain ⟨hun, o, ho, hall⟩ := mem_ready.1 hi
       have hsz : i < listed.size := by rw [inv.size]; omega
       have pM : listed.getD i false = false := getD_both hun
       have hleft : leftOf k (listed.setIfInBounds i true) = f := by have := kT hik (by rw [inv.size]; omega) hun; omega
       have hwl : ∀ t, Region.waitsFor .any all i t = true → listed.getD t false = true := fun t ht => by
         obtain ⟨oj, h6, e, he, hb, heq⟩ := Region.waitsFor_spec ht
         rw [ho] at h6; cases h6
         rw [← heq]; exact hall e he hb
       unfold wpOp
       simp only [ho]
       cases vK : lk aH i with
       | some v =>
         obtain ⟨_, o', bK, ho', hmo, hy⟩ := hS.1 i v vK
         rw [ho] at ho'; cases ho'
         have hkn := jD (o := o) hds hm (bK := bK) hmo hall
         have hir : i ∉ r.map (·.1) := fun hm' => by rw [(hr i hm').2.2] at vK; cases vK
         have hnext : ∀ w', Good w0 mu h w' → wpAny P .any all Q' (f + g) (listed.setIfInBounds i true) (a.put o.dst v) w' := fun w' hG' => by
           refine ih r aH aS h _ _ _ hleft (inv.set hi hik) (kZ hm ho hik hun hsz hd hf hG' (fun j u hu => (hS.1 j u hu).1) hEk (.inl ⟨vK, rfl⟩)) hS hEk (fun j hj => ?_) hnd dH (fun j hj hl => ?_) hle (fun ht => ?_) hD
           · have hji : i ≠ j := fun e => hir (e ▸ hj)
             exact ⟨(hr j hj).1, by rw [getD_set_ne true hji]; exact (hr j hj).2.1, (hr j hj).2.2⟩
           · refine hcov j hj ?_
             by_cases hji : i = j
             · subst hji; simp [hsz] at hl
             · rwa [getD_set_ne true hji] at hl
           · refine pR ?_
             by_cases hji : i = t0
             · subst hji; exact pM
             · rwa [getD_set_ne false hji] at ht
         obtain ⟨hx, h3, jh⟩ : ∃ hx, sQ P n w0 mu all (aG ds bK o.after.toList ++ l) hx o v ∧ hx.Perm h := by
           cases hwt : Region.waitsFor .any all t0 i with
           | true =>
             have ht0 : listed.getD t0 false = false := by
               cases hc : listed.getD t0 false with
               | false => rfl
               | true =>
                 obtain ⟨oj, h6, e, he, hb, heq⟩ := Region.waitsFor_spec hwt
                 have := inv.closed t0 oj h6 hc e he hb
                 rw [heq, pM] at this; cases this
             obtain ⟨x, hxp⟩ := (pR ht0).perm
             have h4 := hy x
             rw [hwt] at h4
             exact ⟨x ++ hp, h4, List.perm_append_comm.trans hxp⟩
           | false =>
             obtain ⟨x, hxp⟩ := hle.perm
             have h4 := hy x
             rw [hwt] at h4
             exact ⟨x ++ h0, h4, List.perm_append_comm.trans hxp⟩
         have hgd : Good w0 mu hx w := hm.good.perm jh
         replace hnext : ∀ w', Good w0 mu hx w' → wpAny P .any all Q' (f + g) (listed.setIfInBounds i true) (a.put o.dst v) w' := fun w' hG' => hnext w' (hG'.perm jh.symm)
         unfold sQ at h3
         cases hg : o.guard with
         | none =>
           rw [hg] at h3
           rw [if_pos (by simp [Region.wanted, hg])]
           exact .inl (h3 a w hkn hgd _ _ hnext)
         | some jw =>
           obtain ⟨j, want⟩ := jw
           rw [hg] at h3
           obtain ⟨dj, c0, b, u, hj, hb, hdj, hy, hvv⟩ := h3
           have hw := iJ hkn hg hj hb hdj
           cases hc : (c0 && iH b want) with
           | true =>
             rw [hc] at hw hvv
             rw [if_pos hw]
             rw [Bool.and_eq_true] at hc
             rw [show v = u from hvv] at hnext
             exact .inl (hy hc.1 hc.2 a w hkn hgd _ _ hnext)
           | false =>
             rw [hc] at hw hvv
             rw [if_neg (by rw [hw]; decide)]
             rw [show v = undef from hvv] at hnext
             exact hnext w hgd
       | none =>
         have hir : i ∈ r.map (·.1) := by
           rcases hcov i hik hun with ⟨v, hv⟩ | h
           · rw [vK] at hv; cases hv
           · exact h
         cases r with
         | nil => cases hir
         | cons c r =>
           obtain ⟨c, cb⟩ := c
           obtain rfl : cb = false := aE8 _ _ rfl
           simp only [Dk, Bool.false_or, Bool.and_eq_true] at dH
           have hic : i = c := by
             rcases List.mem_cons.1 hir with h | h
             · exact h
             · exfalso
               obtain ⟨p, h1, h3⟩ := Vx dH.1 i h
               have h1' : p ∈ (((c, false) :: r).map (·.1)) := by
                 rcases h1 with h1 | h1
                 · rw [List.mem_singleton.1 h1]; exact List.mem_cons_self ..
                 · exact List.mem_cons_of_mem _ h1
               have := (hr p h1').2.1; have h5 := hwl p h3
               rw [getD_both this] at h5; cases h5
           subst hic
           rw [List.map_cons, List.nodup_cons] at hnd
           have qY : Dk all r = true := dH.2
           have hr' : ∀ j ∈ r.map (·.1), j < k ∧ (listed.setIfInBounds i true).getD j true = false ∧ lk aH j = none := fun j hj => by
             have h1 := hr j (List.mem_cons_of_mem _ hj)
             have hji : i ≠ j := fun e => hnd.1 (e ▸ hj)
             exact ⟨h1.1, by rw [getD_set_ne true hji]; exact h1.2.1, h1.2.2⟩
           have oQ : ∀ j, j < k → (listed.setIfInBounds i true).getD j true = false → (∃ v, lk aH j = some v) ∨ j ∈ r.map (·.1) := fun j hj hl => by
             by_cases hji : i = j
             · subst hji; simp [hsz] at hl
             · rw [getD_set_ne true hji] at hl
               rcases hcov j hj hl with h | h
               · exact .inl h
               · exact .inr ((List.mem_cons.1 h).resolve_left (Ne.symm hji))
           have hkn := jD (o := o) hds hm (bK := aS ++ aH) (fun j u hu => by
             rw [fM, Gy] at hu
             cases hE : lk aS j with
             | some v => rw [hE] at hu; exact .inl hu
             | none => rw [hE] at hu; exact .inr hu) hall
           unfold Iz at hD
           obtain ⟨o', ho', hD⟩ := hD
           rw [ho] at ho'; cases ho'
           rcases hD with ⟨hds', R, ⟨hg, hE⟩, hD⟩ | ⟨hdn, h', ⟨hg, _, hSt⟩, hle', hD⟩ | ⟨hds', R, ⟨hg, hE⟩, hD⟩
           · rw [if_pos (hg _ hkn)]
             refine .inl (hE a w [] hkn (by simpa using hm.good) _ _ fun v hn w' hR hG' => ?_)
             rw [List.nil_append] at hG'
             have hlen : ∀ x : Hp, aC x h → aC x (hn ++ h) := fun x hx => bu fun b => by have := hx.cnt b; rw [bV]; omega
             refine ih r aH ((i, v) :: aS) (hn ++ h) _ _ _ hleft (inv.set hi hik) (kZ hm ho hik hun hsz hd hf hG' (fun j u hu => (hS.1 j u hu).1) hEk (.inr ⟨vK, rfl⟩)) (ab3 (fun u hu => by have := (hm.mX i u hu).1; rw [pM] at this; cases this) hS) (fun j u hu => ?_) hr' hnd.2 qY oQ (hlen _ hle) (fun ht => hlen _ (pR ?_)) (hD v hn hR)
             · rcases List.mem_cons.1 hu with hu | hu
               · cases hu; exact hik
               · exact hEk j u hu
             · by_cases hji : i = t0
               · subst hji; exact pM
               · rwa [getD_set_ne false hji] at ht
           · rw [if_pos (by simp [Region.wanted, hg])]
             refine .inl (hSt a w hkn hm.good _ _ fun w' hG' => ?_)
             have hmc : qX n w0 mu all l aH aS h' (listed.setIfInBounds i true) a w' := by
               refine ⟨hm.size, hm.defers, hm.has, hG', fun j u hj hl d hdj => ?_, fun j u hj => ⟨getD_set_true (hm.mX j u hj).1, (hm.mX j u hj).2⟩⟩
               have hji : i ≠ j := fun e => by subst e; rw [vK] at hj; cases hj
               exact hm.rV j u hj bj2 d hdj
             refine ih r aH aS h' _ _ _ hleft (inv.set hi hik) hmc hS hEk hr' hnd.2 qY oQ hle' (fun ht => ?_) hD
             exfalso
             rcases wB i hik (by simp [aY, ho, hdn]) with e | e
             · subst e
               rw [show (listed.setIfInBounds i true).getD i false = true by simp [hsz]] at ht; cases ht
             · have := getD_set_true (i := i) (hwl t0 e)
               rw [this] at ht; cases ht
           · rw [if_pos (hg _ hkn)]
             refine .inl (hE a w hkn hm.good _ _ fun v h' w' hR hG' => ?_)
             obtain ⟨hle', hit, hD'⟩ := hD v h' hR
             refine ih r aH ((i, v) :: aS) h' _ _ _ hleft (inv.set hi hik) (kZ hm ho hik hun hsz hd hf hG' (fun j u hu => (hS.1 j u hu).1) hEk (.inr ⟨vK, rfl⟩)) (ab3 (fun u hu => by have := (hm.mX i u hu).1; rw [pM] at this; cases this) hS) (fun j u hu => ?_) hr' hnd.2 qY oQ hle' (fun ht => ?_) hD'
             · rcases List.mem_cons.1 hu with hu | hu
               · cases hu; exact hik
               · exact hEk j u hu
             · rcases hit with (e | e) | e
               · exfalso
                 subst e
                 rw [show (listed.setIfInBounds i true).getD i false = true by simp [hsz]] at ht; cases ht
               · exfalso
                 have := getD_set_true (i := i) (hwl t0 e)
                 rw [this] at ht; cases ht
               · exact e
    intro r0
    induction r0 with
    | cons p r0 ihr =>
      obtain ⟨i, db⟩ := p
      cases db with
      | true =>
        intro aH aS h listed a w hlf inv hm hS hEk hr hnd dH hcov hle pR hD
        obtain ⟨o, v, ho, hy, hD⟩ := hD
        have hri := hr i (List.mem_cons_self ..)
        have hnd' := List.nodup_cons.1 hnd
        exact ihr ((i, v) :: aH) aS h listed a w hlf inv (QX hm hri.2.1 hri.2.2) (Vy hS hri.1 hri.2.2 ho hy) hEk (fun j hj => by
          have h1 := hr j (List.mem_cons_of_mem _ hj)
          have hji : i ≠ j := fun e => hnd'.1 (e ▸ hj)
          exact ⟨h1.1, h1.2.1, by rw [bT, if_neg hji]; exact h1.2.2⟩) hnd'.2 (by simpa [Dk] using dH) (fun j hj hl => by
          by_cases hji : i = j
          · subst hji; exact .inl ⟨v, by rw [bT, if_pos rfl]⟩
          · rcases hcov j hj hl with ⟨u, hu⟩ | h
            · exact .inl ⟨u, by rw [bT, if_neg hji]; exact hu⟩
            · exact .inr ((List.mem_cons.1 h).resolve_left (Ne.symm hji))) hle pR hD
      | false =>
        intro aH aS h listed a w hlf inv hm hS hEk hr hnd dH hcov hle pR hD
        exact STEP ((i, false) :: r0) aH aS h listed a w hlf inv hm hS hEk hr hnd dH hcov hle pR hD (fun p r e => by cases e; rfl)
    | nil =>
      intro aH aS h listed a w hlf inv hm hS hEk hr hnd dH hcov hle pR hD
      exact STEP [] aH aS h listed a w hlf inv hm hS hEk hr hnd dH hcov hle pR hD (fun p r e => by cases e)
theorem QY {ops:List Oper} (k t0:Nat) (S:List Nat) (C:List (Nat × Bool)) (h0:Hp) (hB:Hg ops.toArray n k t0 S C=true) (hf:bI l (dstsOf ops.toArray k)=true) (hle0:aC h0 hp) (hds:bY ops 0=ds)
  (h:DS P n w0 mu ops.toArray ds l h0 hp t0 (fun aj0=>Iz P n w0 mu ops.toArray ds l h0 hp t0 (fun aH aS hc=>Ops P n w0 mu ops.toArray (ops.drop k) (bC ds (aS++aH)++l) hc Q) C aj0 [] hp) S []):jV P n w0 mu ops.toArray l hp Q:=by
 intro a w hk hG
 simp only [Hg,Bool.and_eq_true] at hB
 obtain ⟨⟨⟨⟨⟨hd,hback⟩,um⟩,dH⟩,iO⟩,wB⟩:=hB
 simp only [qW,Bool.and_eq_true,decide_eq_true_eq] at um
 obtain ⟨⟨hnd,hlt⟩,hcov⟩:=um
 have hlt':∀ i∈S++C.map (·.1),i<k:=fun i hi=>by have:=List.all_eq_true.1 hlt i hi;simpa using this
 rw [List.nodup_append] at hnd
 obtain ⟨BP,Gz,hSC⟩:=hnd
 obtain ⟨aH,hX,Qa,sS,hsS⟩:=LJ S [] BP (fun _ _=>rfl) (fun _ _ h=>by cases h) h (fun i v hv=>by cases hv)
 simp only [lk,reduceCtorEq,exists_false,or_false] at sS
 have hks:k≤ops.toArray.size:=by
  simp only [rU,Bool.or_eq_true,Bool.and_eq_true,decide_eq_true_eq] at iO
  rcases iO with h | h<;>omega
 have nI:∀ i d,lk ds i=some d→aY ops.toArray i=some d:=fun i d h=>by rw [← hds] at h;have:=(jJ ops 0 i d h).2;simpa [aY] using this
 have inv0:HeadInv .any ops.toArray k (Array.replicate ops.toArray.size false):=
  ⟨by simp,fun j oj _ hl=>bf0,fun t _ ht=>getD_in bi4 (getD_replicate_false _ _)⟩
 have GG:∀ i,i<k→(Array.replicate ops.toArray.size false).getD i true=false:=fun i hi=>getD_in bj0 (getD_replicate_false _ _)
 have hleft:leftOf k (Array.replicate ops.toArray.size false)=k:=by
  unfold leftOf
  rw [List.filter_eq_self.2]
  ·simp
  ·intro i hi
   simp only [GG i bh7,Bool.not_false]
 have key:=MO nI (P:=P) (n:=n) (w0:=w0) (mu:=mu) (l:=l) (hp:=hp) (h0:=h0) (all:=ops.toArray) (k:=k) (t0:=t0) (g:=ops.toArray.size - k) (Q':=QQ n w0 mu Q) (X:=fun aH aS hc=>Ops P n w0 mu ops.toArray (ops.drop k) (bC ds (aS++aH)++l) hc Q) hks hd hf hback hle0
  (fun i hi hdn=>by
   have:=List.all_eq_true.1 wB i (List.mem_range.2 hi)
   rw [hdn] at this
   simp only [Option.isSome_none,Bool.false_or,Bool.or_eq_true] at this
   rcases this with h | h
   ·exact .inl (Nat.eq_of_beq_eq_true h)
   ·exact .inr h)
  (fun aH aS h listed inv hall hX a w hmid hEk hSk Qa=>by
   have qZ:Knows n (bC ds (aS++aH)++l) a:=by
    refine ⟨hmid.size,hmid.defers,fun t v ht=>?_⟩
    rcases eX ht with ht | ⟨_,ht⟩
    ·obtain ⟨j,h1,h2⟩:=iV (gK ht)
     rcases List.mem_append.1 h1 with h1 | h1
     ·exact (hmid.mX j v h1).2 t (nI _ _ h2)
     ·have hj:=Qa j v h1
      have hjk:=hSk j v hj
      refine hmid.rV j v hj ?_ t (nI _ _ h2)
      have h5:=hall j hjk
      cases hcc:listed.getD j false with
      | true=>rfl
      | false=>rw [getD_in bf1 hcc] at h5;cases h5
    ·exact hmid.has t v ht
   have hfin:=hX a w qZ hmid.good
   simp only [rU,Bool.or_eq_true,Bool.and_eq_true,decide_eq_true_eq] at iO
   rcases iO with Je | ⟨⟨⟨vY,hs⟩,hc⟩,hseq⟩
   ·have e0:ops.drop k=[]:=List.drop_eq_nil_of_le (by simp at Je;omega)
    rw [e0] at hfin
    rw [show ops.toArray.size - k=0 by omega]
    refine ⟨?_,hfin⟩
    rw [List.eq_nil_iff_forall_not_mem]
    intro i hi
    obtain ⟨hun,o,ho,_⟩:=mem_ready.1 hi
    have hi':i<k:=by rw [Je];exact (Array.getElem?_eq_some_iff.1 ho).1
    rw [hall i hi'] at hun;cases hun
   ·have hl:listed=(Array.replicate k true)++(Array.replicate (ops.toArray.size - k) false):=by
     apply Array.ext
     ·simp [inv.size];simp at vY;omega
     ·intro i h1 h2
      by_cases hi:i<k
      ·have:=hall i hi
       simp [h1] at this
       rw [Array.getElem_append_left bh7]
       simpa using this
      ·have h3:=inv.tail i be5 bh4
       simp [h1] at h3
       rw [Array.getElem_append_right bf2]
       simpa using h3
    have hdl:(ops.drop k).length=ops.toArray.size - k:=by simp
    rw [← hdl]
    exact wpAny_of_seq (ops.drop k) k listed a w (fun j=>by simp) bi2 hfin)
  (fun listed inv i hi hun t ht=>by
   simp only [rU,Bool.or_eq_true,Bool.and_eq_true,decide_eq_true_eq] at iO
   rcases iO with h | ⟨⟨⟨vY,hs⟩,hc⟩,hseq⟩
   ·intro hr
    obtain ⟨_,o,ho,_⟩:=mem_ready.1 hr
    have:=(Array.getElem?_eq_some_iff.1 ho).1
    omega
   ·exact tail_waits hs hc vY inv _ i rfl hi hun t ht)
  k C aH [] hp _ a { w with drawn:=w.drawn + 1 } hleft inv0 ⟨hk.size,hk.defers,hk.has,hG.drawn _,fun i v _ hl=>bf0,fun i v hv=>by cases hv⟩ ⟨fun i v hv=>⟨hlt' i (List.mem_append_left _ ((sS i).1 ⟨v,hv⟩)),by
   obtain ⟨o,bK,h1,h2,h3⟩:=hsS i v hv
   exact ⟨o,bK,h1,fun j u hu=>.inr (h2 j u bf9),h3⟩⟩,Qa⟩ (fun i v hv=>by cases hv)
  (fun i hi=>⟨hlt' i (List.mem_append_right _ hi),GG i (hlt' i (List.mem_append_right _ hi)),by
   cases hv:lk aH i with
   | none=>rfl
   | some v=>exact absurd rfl (hSC i ((sS i).1 ⟨v,hv⟩) i hi)⟩) Gz dH
  (fun i hi _=>by
   have:=dQ (List.all_eq_true.1 hcov i (List.mem_range.2 hi))
   rcases List.mem_append.1 this with h | h
   ·exact .inl ((sS i).2 h)
   ·exact .inr h) hle0 (fun _=>aC.refl _) hX
 have e:k + (ops.toArray.size - k)=ops.toArray.size:=by omega
 rw [e] at key
 exact key
end
section
variable {n : Nat} {w0 : World} {mu : List Nat} {l : Fm} {h0 hp hc : Hp} {Q : Exit → Fm → Hp → Prop} {all : Array Oper} {aH iv aS : Fm} {k t0 i d : Nat} {ds : List (Nat × Nat)} {r : List (Nat × Bool)} {Y : Fm → Fm → Hp → Prop} {op : Op} {ty : TypeId} {pos : String} {af : Array Edge} {v : Value}
theorem zn {id:Nat} {ops tl:List Oper} (k t0:Nat) (S:List Nat) (C:List (Nat × Bool)) (h0:Hp) (h:DS Tryz.prog n w0 mu ops.toArray ds l h0 hp t0 (fun aj0=>Iz Tryz.prog n w0 mu ops.toArray ds l h0 hp t0 (fun aH aS hc=>Ops Tryz.prog n w0 mu ops.toArray tl (bC ds (aS++aH)++l) hc Q) C aj0 [] hp) S [])
  (hle0:aC h0 hp:=by (exact aj)) (hds:bY ops 0=ds:=by (simp only [bY,Nat.reduceAdd,Nat.zero_add];rfl)) (htl:ops.drop k=tl:=by (simp only [List.drop_succ_cons,List.drop_zero,List.drop_nil];rfl)) (hm:Tryz.prog.follows .mixedOrders=true:=by kernel_rfl) (hB:Hg ops.toArray n k t0 S C=true:=by decide +kernel) (hf:bI l (dstsOf ops.toArray k)=true:=by rfl):St Tryz.prog n w0 mu (.region id ops.toArray true) l hp Q:=
 vX hm (QY k t0 S C h0 hB hf hle0 hds bj6)
theorem QZ (h:Y aH aS hc):Iz Tryz.prog n w0 mu all ds l h0 hp t0 Y [] aH aS hc:=h
theorem xC (h:gY Tryz.prog n w0 mu all ds l h0 aH (fun Qu hc'=>Iz Tryz.prog n w0 mu all ds l h0 hp t0 Y r aH Qu hc') [i] aS hc):Iz Tryz.prog n w0 mu all ds l h0 hp t0 Y ((i,false)::r) aH aS hc:=by
 obtain ⟨o,ho,h⟩:=h
 refine ⟨o,ho,?_⟩
 rcases h with ⟨h1,R,h2,h3⟩ | ⟨h1,h',h2,h3,h4⟩
 ·exact .inl ⟨h1,R,h2,h3⟩
 ·exact .inr (.inl ⟨h1,h',h2,h3,h4⟩)
theorem xD (h:gJ Tryz.prog n w0 mu all ds l [] (fun lJ=>∃ v,lJ=(i,v)::(aS++aH)∧Iz Tryz.prog n w0 mu all ds l h0 hp t0 Y r ((i,v)::aH) aS hc) [i] (aS++aH)):Iz Tryz.prog n w0 mu all ds l h0 hp t0 Y ((i,true)::r) aH aS hc:=by
 obtain ⟨o,v,ho,hy,v',e,h⟩:=h
 cases e
 exact ⟨o,v,ho,hy,h⟩
end
section
variable {P : Program} {T : Tab} {n : Nat} {w0 : World} {mu : List Nat} {l : Fm} {hp : Hp} {ty : TypeId} {pos : String} {af : Array Edge} {Q : Exit → Fm → Hp → Prop} {all : Array Oper} {rest : List Oper}
theorem Dl (ok:aZ P T) {t d e sz iE m c a o:Nat} {x y:Operand} {z:Value} {news:List Value} (hx:ev l x=some (.slice none 0 0)) (hy:ev l y=some (.slice (some ⟨a,o,none⟩) m c)) (ht:lk T.sl t=some (e,sz))
  (hz:lk T.zs e=some z) (hzs:z.cells.size=sz) (hb:lk T.eb e=some iE) (hm:0<m) (hl:news.length=m * sz) (hnews:jR w0 mu hp a o news) (h63:m≤1048576) (h48:m * iE≤281474976710656):EoC P n w0 mu all l hp ⟨some d,.call { callee:=.builtin .append,args:=#[x,y],argTypes:=#[t,t] },ty,pos,af,none⟩ (fun v h'=>∃ g cap cur,Row g cap cur sz m news∧v=.slice (some ⟨g,0,none⟩) m cap∧h'=⟨g,cur,e⟩::hp):=by
 refine ⟨fun a _=>by simp [Region.wanted],fun ac w hk hG K Q' hK=>?_⟩
 obtain ⟨hu,hsz⟩:=ok.wW ht
 have hbb:=List.all_eq_true.1 ok.eb _ (iK hb)
 simp only [beq_iff_eq] at hbb
 obtain ⟨i,hi,hiz,his,hib⟩:=qM hsz hbb (ok.IE hz)
 subst his hib
 have hr:=run_append_nil (P:=P) w t ty e i z hu hi hiz ⟨a,o,none⟩ m c news hl (fun j u hj=>by rw [Addr.add_mid];exact hnews w hG j u hj) hm be5 h48
 unfold Oper.wp execOp
 simp only [resolve,invoke,builtin,Sem.run_bind,Sem.run_pure,Result.andThen_ok,List.map_toArray,List.map_cons,List.map_nil,hk.ev hx,hk.ev hy,hr]
 have hrow:=AQ (w:=w) (z:=z) (sz:=i.size) (k:=0) (m:=m) (old:=0) (e:=e) (xs:=[]) (news:=news) hzs be7 hl bh9
 simp only [Nat.zero_add,List.nil_append,Array.empty_append] at hrow
 have hG':=(hG.drawn (w.drawn + 1)).alloc (news.toArray++Builtin.zeroCells z.cells (grownCap w m 0 e - m)) e
 exact hK _ _ _ ⟨_,_,_,hrow,rfl,rfl⟩ hG'
theorem Dp (ok:aZ P T) {t d e sz iE k m c a o g cap:Nat} {cur:Array Value} {x y:Operand} {z:Value} {xs news:List Value} {hp':Hp} (hx:ev l x=some (.slice (some ⟨g,0,none⟩) k cap)) (hy:ev l y=some (.slice (some ⟨a,o,none⟩) m c)) (ht:lk T.sl t=some (e,sz))
  (hz:lk T.zs e=some z) (hzs:z.cells.size=sz) (hb:lk T.eb e=some iE) (hperm:(⟨g,cur,e⟩::hp').Perm hp) (hown:Row g cap cur sz k xs) (hl:news.length=m * sz) (hnews:jR w0 mu hp a o news) (h1:news.all (·.oneCell')=true) (h63:k + m≤1048576) (h48:(k + m + (k + m) / 4 + 192) * iE≤281474976710656):EoC P n w0 mu all l hp ⟨some d,.call { callee:=.builtin .append,args:=#[x,y],argTypes:=#[t,t] },ty,pos,af,none⟩ (fun v h'=>∃ g cap cur,Row g cap cur sz (k + m) (xs++news)∧v=.slice (some ⟨g,0,none⟩) (k + m) cap∧h'=⟨g,cur,e⟩::hp'):=by
 refine ⟨fun a _=>by simp [Region.wanted],fun ac w hk hG K Q' hK=>?_⟩
 obtain ⟨hu,hsz⟩:=ok.wW ht
 have hbb:=List.all_eq_true.1 ok.eb _ (iK hb)
 simp only [beq_iff_eq] at hbb
 obtain ⟨i,hi,hiz,his,hib⟩:=qM hsz hbb (ok.IE hz)
 subst his hib
 have hG':=hG.perm hperm
 have hg:=hG'.here _ (List.mem_cons_self ..)
 have hn:∀ j u,news[j]?=some u→w.cell? ((⟨a,o,none⟩:Addr).add j)=some u:=fun j u hj=>by rw [Addr.add_mid];exact hnews w hG j u hj
 by_cases hroom:k + m≤cap
 ·have hfit:k * i.size + news.length≤cur.size:=by rw [hl,hown.size,← Nat.add_mul];exact Nat.mul_le_mul_right _ hroom
  have hr:=run_append_room (P:=P) w t ty e i hu hi g k cap cur hg ⟨a,o,none⟩ m c news hl hn (fun u hu=>List.all_eq_true.1 h1 u hu) hroom hfit
  unfold Oper.wp execOp
  simp only [resolve,invoke,builtin,Sem.run_bind,Sem.run_pure,Result.andThen_ok,List.map_toArray,List.map_cons,List.map_nil,hk.ev hx,hk.ev hy,hr]
  refine hK _ _ _ ⟨_,_,_,⟨?_,hroom,hown.max,?_,?_⟩,rfl,rfl⟩ (hG'.row _)
  ·rw [List.length_append,hown.len,hl,Nat.add_mul]
  ·have:=hown.size
   simp only [List.size_toArray,List.length_append,List.length_take,List.length_drop,Array.length_toList]
   omega
  ·rw [hown.take,show (k + m) * i.size=(xs++news).length by rw [List.length_append,hown.len,hl,Nat.add_mul]]
   exact List.take_left
 ·have holds:∀ j u,xs[j]?=some u→w.cell? ((⟨g,0,none⟩:Addr).add j)=some u:=by
   intro j u hj
   rw [Addr.add_mid,cell_of_block hg]
   rw [← hown.take,List.getElem?_take] at hj
   split at hj
   ·simpa using hj
   ·cases hj
  have hr:=run_append_grow (P:=P) w t ty e i z hu hi hiz ⟨g,0,none⟩ k cap xs hown.len holds ⟨a,o,none⟩ m c news hl hn be5 be5 (growslice_fits_wide be5 h48)
  unfold Oper.wp execOp
  simp only [resolve,invoke,builtin,Sem.run_bind,Sem.run_pure,Result.andThen_ok,List.map_toArray,List.map_cons,List.map_nil,hk.ev hx,hk.ev hy,hr]
  have hG2:=((hG'.sub (hp':=hp') (List.sublist_cons_self _ _)).drawn (w.drawn + 1)).alloc (xs.toArray++news.toArray++Builtin.zeroCells z.cells (grownCap w (k + m) cap e - (k + m))) e
  have hrow:=AQ (w:=w) (k:=k) (m:=m) (old:=cap) (e:=e) hzs hown.len hl bh9
  exact hK _ _ _ ⟨_,_,_,hrow,rfl,rfl⟩ hG2
end
theorem O0 {P:Program} {n:Nat} {w0:World} {mu:List Nat} {all:Array Oper} {l:Fm} {hp:Hp} {o:Oper} {R R':RT} (h:EoC P n w0 mu all l hp o R) (hr:∀ v h',R v h'→∃ h2,R' v h2∧h2.Perm h'):EoC P n w0 mu all l hp o R':=
 ⟨h.1,fun a w hk hG K Q hK=>h.2 a w hk hG K Q fun v h' w' hR hG'=>by
  obtain ⟨h2,h3,h4⟩:=hr v h' hR
  exact hK v h2 w' h3 (hG'.perm h4)⟩
section
variable {n : Nat} {w0 : World} {mu : List Nat} {l : Fm} {h0 hp hc : Hp} {all : Array Oper} {ds : List (Nat × Nat)} {t0 : Nat} {aH aS : Fm} {Y : Fm → Fm → Hp → Prop} {i d : Nat} {r : List (Nat × Bool)} {ty : TypeId} {pos : String} {af : Array Edge}
theorem aj1 {t e sz iE cc a:Nat} {x y:Operand} {z v:Value} {c:List Value} {ha hp':Hp} {xs:List (List Value)} (hA:Acc e sz v ha xs) (hnews:jR w0 mu hc a 0 c) (h63:xs.length<1000000) (hperm:(ha++hp').Perm hc) (hle:aC h0 hp')
  (h:∀ v' ha',Acc e sz v' ha' (xs++[c])→Iz Tryz.prog n w0 mu all ds l h0 hp t0 Y r aH ((i,v')::aS) (ha'++hp')) (ho:all[i]?=some ⟨some d,.call { callee:=.builtin .append,args:=#[x,y],argTypes:=#[t,t] },ty,pos,af,none⟩:=by rfl) (hit:(i=t0∨Region.waitsFor .any all i t0=true)∨aC hp hp':=by exact .inl (.inl rfl))
  (hx:ev (aG ds (aS++aH) af.toList++l) x=some v:=by rfl) (hy:ev (aG ds (aS++aH) af.toList++l) y=some (.slice (some ⟨a,0,none⟩) 1 cc):=by rfl) (ht:lk Tb.sl t=some (e,sz):=by rfl)
  (hz:lk Tb.zs e=some z:=by rfl) (hzs:z.cells.size=sz:=by rfl) (hb:lk Tb.eb e=some iE:=by rfl) (hby:Nat.ble iE 4096=true:=by rfl) (hl:c.length=sz:=by rfl) (h1:c.all (·.oneCell')=true:=by rfl):Iz Tryz.prog n w0 mu all ds l h0 hp t0 Y ((i,false)::r) aH aS hc:=by
 have sD:iE≤4096:=Nat.le_of_ble_eq_true hby
 have hall:∀ c'∈xs++[c],c'.length=sz∧c'.all (·.oneCell')=true:=by
  intro c' hc'
  rcases List.mem_append.1 hc' with hc' | hc'
  ·exact hA.1 c' hc'
  ·obtain rfl:=List.mem_singleton.1 hc';exact ⟨hl,h1⟩
 rcases hA.2 with ⟨rfl,rfl,rfl⟩ | ⟨hne,g,cap,cur,rfl,rfl,hrow⟩
 ·refine ⟨_,ho,.inr (.inr ⟨rfl,fun v h'=>∃ g cap cur,Row g cap cur sz 1 c∧v=.slice (some ⟨g,0,none⟩) 1 cap∧h'=⟨g,cur,e⟩::hp',O0 (Dl ay hx hy ht hz hzs hb be5 bg8 hnews be5 be5) ?_,?_⟩)⟩
  ·rintro _ _ ⟨g,cap,cur,hr,rfl,rfl⟩
   exact ⟨_,⟨g,cap,cur,hr,rfl,rfl⟩,(hperm.cons _:(⟨g,cur,e⟩::([]++hp')).Perm (⟨g,cur,e⟩::hc))⟩
  rintro _ _ ⟨g,cap,cur,hr,rfl,rfl⟩
  refine ⟨?_,hit.imp id fun h2=>bu fun b=>?_,?_⟩
  ·refine bu fun b=>?_
   have:=hle.cnt b
   rw [aV]
   omega
  ·have:=h2.cnt b
   show _≤lM b (⟨g,cur,e⟩::hp')
   rw [aV]
   omega
  ·exact h (.slice (some ⟨g,0,none⟩) 1 cap) [⟨g,cur,e⟩] ⟨hall,.inr ⟨by simp,g,cap,cur,rfl,rfl,by simpa using hr⟩⟩
 ·refine ⟨_,ho,.inr (.inr ⟨rfl,_,Dp ay hx hy ht hz hzs hb hperm hrow bg8 hnews h1 be5 ?_,?_⟩)⟩
  ·have h2:(xs.length + 1 + (xs.length + 1) / 4 + 192)≤2000000:=by omega
   calc _≤2000000 * iE:=Nat.mul_le_mul_right _ h2
    _≤2000000 * 4096:=Nat.mul_le_mul_left _ sD
    _≤_:=by decide
  rintro _ _ ⟨g,cap,cur,hr,rfl,rfl⟩
  refine ⟨?_,hit.imp id fun h2=>bu fun b=>?_,?_⟩
  ·refine bu fun b=>?_
   have:=hle.cnt b
   show _≤lM b (⟨g,cur,e⟩::hp')
   rw [aV]
   omega
  ·have:=h2.cnt b
   show _≤lM b (⟨g,cur,e⟩::hp')
   rw [aV]
   omega
  ·exact h (.slice (some ⟨g,0,none⟩) (xs.length + 1) cap) [⟨g,cur,e⟩] ⟨hall,.inr ⟨by simp,g,cap,cur,by simp,rfl,by simpa using hr⟩⟩
end
end
section
attribute [local irreducible] Hy St Ops DH dG je iI gJ DS gY mP
structure aj2 (w:World) (X:Nat) (wv cv vv rv:Value) (ws:List Nat) (C:Nat):Prop where
 x:w.rangeAt X 0 (abL wv cv vv rv)
 h:MJ w wv cv vv rv ws (List.replicate C MK) (List.replicate 4 vm0) (List.replicate C dK)
 m:fK ws.length=true
 c:C≤3
theorem aj2.good {w w':World} {hp:Hp} {X:Nat} {wv cv vv rv:Value} {ws:List Nat} {C:Nat} (h:aj2 w X wv cv vv rv ws C) (hG:Good w [] hp w'):aj2 w' X wv cv vv rv ws C:=⟨hG.range h.x List.not_mem_nil,h.h.good hG,h.m,h.c⟩
def qE (ws:List Nat) (pages:List sF) (lv tb at_:Nat):Bool:=decide (ws.getD ((lv + tb) * 8 + at_) 0=(jI pages lv tb at_).word 2 lv)
def jP (lv:Nat):Nat:=if lv=3 then 8 else 1
def Dq (ws:List Nat) (pages:List sF):Bool:=(List.range 4).all fun lv=>(List.range (jP lv)).all fun tb=>(List.range 8).all fun at_=>qE ws pages lv tb at_
theorem Dt {ws:List Nat} {pages:List sF} (h:∀ lv,lv<4→∀ tb,tb<jP lv→∀ a,a<8→qE ws pages lv tb a=true):Dq ws pages=true:=
 List.all_eq_true.2 fun lv hl=>List.all_eq_true.2 fun tb ht=>List.all_eq_true.2 fun a ha=>h lv (List.mem_range.1 hl) tb (List.mem_range.1 ht) a (List.mem_range.1 ha)
theorem JE {ws:List Nat} {pages:List sF} (h:Dq ws pages=true) {lv tb a:Nat} (hl:lv<4) (ht:tb<jP lv) (ha:a<8):qE ws pages lv tb a=true:=
 List.all_eq_true.1 (List.all_eq_true.1 (List.all_eq_true.1 h lv (List.mem_range.2 hl)) tb (List.mem_range.2 ht)) a (List.mem_range.2 ha)
theorem JF {ws:List Nat} {pages:List sF} {lv tb a:Nat} (hl:lv<4) (ht:tb<jP lv) (ha:a<8) (h:qE ws pages lv tb a=false):Dq ws pages=false:=by
 cases hh:Dq ws pages with
 | false=>rfl
 | true=>have:=JE hh hl ht ha;rw [h] at this;cases this
theorem MP {pages:List sF} (zN:∀ a∈pages,-1≤a.own∧a.own≤14) {lv tb at_:Nat} (hl:lv<4) (ht:tb<8) (ha:at_<8):(jI pages lv tb at_).may 2 lv=true:=by
 unfold jI
 by_cases e3:lv=3
 ·subst e3
  simp only [decide_true,cond_true]
  unfold dW
  cases hd:decide (tb * 8 + at_<pages.length) with
  | false=>exact uA _ _
  | true=>
   have:=zN _ (getD_mem (of_decide_eq_true hd))
   exact JB be5 this.1 this.2
 ·rw [decide_eq_false e3,cond_false]
  by_cases e2:lv=2
  ·rw [decide_eq_true e2,cond_true]
   exact xW be5 be5 be5
  ·rw [decide_eq_false e2,cond_false]
   cases decide (at_=0) with
   | true=>exact xW be5 be5 be5
   | false=>exact uA _ _
theorem Vz {w:World} {X:Nat} {wv:Value} {ws:List Nat} (h0:w.rangeAt X 0 [wv]) (hs:aF w wv 1 (ws.map uV)) (hF:16≤ws.length / 8) {pv gv ov:Value} (pages:List sF) (hp:aF w pv 2 (pages.map qI)) (zN:∀ a∈pages,-1≤a.own∧a.own≤14):Fn Tryz.prog 40 [.pointer (some ⟨X,0,none⟩),.agg #[pv,gv,ov]].toArray w [] (fun u _=>u=.bool (Dq ws pages)):=by
 have h0':=au h0
 obtain ⟨q,cap,rfl,hne,_⟩:=hs.opened
 obtain ⟨b,o,rfl⟩:=hne (by intro e;rw [e] at hF;simp at hF)
 refine enter Tryz.func40 ?_
 refine run ?_
 intro Q
 refine ak (fun wc hG=>JD wc) ?_
 refine run ?_
 refine aX (σ:=Nat) (fun k=>[(13,.int .i64 (k:Int)),(5,.int .i64 ((if k=4 then 11 else k:Nat):Int))]) (fun _=>[⟨Q,#[pv,gv,ov],38⟩]) (fun k=>k≤4∧∀ lv,lv<k→∀ tb,tb<jP lv→∀ a,a<8→qE ws pages lv tb a=true) (fun k=>4 - k) 0 ⟨Nat.zero_le _,fun lv hl=>absurd hl (Nat.not_lt_zero _)⟩ ?_
 rintro k m hm ⟨hk,hK⟩
 refine run ?_
 refine ah _ rfl (fun hc=>?_) (fun hc=>?_)
 rotate_left
 ·have hk4:k=4:=by simp at hc;omega
  subst hk4
  refine run ?_
  refine fin1 ?_
  rw [Dt hK]
 have hk3:k<4:=by simp at hc;omega
 rw [if_neg (by omega:¬ k=4)]
 refine run ?_
 refine ja be8 (Dj rfl rfl rfl rfl be5 be5 (Vu k hk3)) ?_
 rw [show (if k=3 then (8:Int) else 1)=((jP k:Nat):Int) by unfold jP;split<;>rfl]
 have hN8:jP k≤8:=by unfold jP;split<;>decide
 refine run ?_
 refine aX (σ:=Nat) (fun t=>[(18,.int .i64 (t:Int)),(5,.int .i64 ((k + t:Nat):Int))]) (fun _=>[⟨Q,#[pv,gv,ov],38⟩]) (fun t=>t≤jP k∧∀ tb,tb<t→∀ a,a<8→qE ws pages k tb a=true) (fun t=>jP k - t) 0 ⟨Nat.zero_le _,fun tb ht=>absurd ht (Nat.not_lt_zero _)⟩ ?_
 rintro t m2 hm2 ⟨ht,hT⟩
 refine run ?_
 refine ah _ rfl (fun hc2=>?_) (fun hc2=>?_)
 rotate_left
 ·have hte:t=jP k:=by simp at hc2;omega
  subst hte
  refine run ?_
  refine aK (k + 1) ⟨hk3,fun lv hl=>?_⟩ (h1:=?_)
  ·by_cases e:lv=k
   ·subst e;exact hT
   ·exact hK lv be5
  ·rw [show (if k + 1=4 then 11 else k + 1)=k + jP k by unfold jP;split<;>split<;>omega]
   (repeat (first | exact True.intro | (refine And.intro bf3 ?_)))
 have ht8:t<jP k:=by simp at hc2;omega
 refine run ?_
 refine aX (σ:=Nat) (fun a=>[(21,.int .i64 (a:Int))]) (fun _=>[⟨Q,#[pv,gv,ov],38⟩]) (fun a=>a≤8∧∀ a',a'<a→qE ws pages k t a'=true) (fun a=>8 - a) 0 ⟨Nat.zero_le _,fun a ha=>absurd ha (Nat.not_lt_zero _)⟩ ?_
 rintro a m3 hm3 ⟨ha,hA⟩
 refine run ?_
 refine ah _ rfl (fun hc3=>?_) (fun hc3=>?_)
 rotate_left
 ·have hae:a=8:=by simp at hc3;omega
  subst hae
  refine run ?_
  refine aK (t + 1) ⟨ht8,fun tb hl=>?_⟩
  by_cases e:tb=t
  ·subst e;exact hA
  ·exact hT tb be5
 have ha8:a<8:=by simp at hc3;omega
 have hkt:k + t≤10:=by unfold jP at ht8;split at ht8<;>omega
 have hlt:(k + t) * 8 + a<ws.length:=by omega
 have hr:=au (hs.row hlt)
 simp only [Nat.mul_one] at hr
 have hmay:=MP (lv:=k) (tb:=t) (at_:=a) zN hk3 be5 ha8
 refine run ?_
 refine ak (fun wc hG=>QV X pages (hp.good hG) zN k t a hk3 be5 ha8) ?_
 refine run ?_
 refine ak (fun wc hG=>GY 2 (.inr rfl) k hk3 (jI pages k t a) wc) ?_
 rw [hmay,cond_true,cond_true]
 refine run ?_
 have hWe:qE ws pages k t a=decide (((ws.getD ((k + t) * 8 + a) default:Nat):Int)=(((jI pages k t a).word 2 k:Nat):Int)):=by
  unfold qE
  rw [Bool.eq_iff_iff]
  simp only [decide_eq_true_eq]
  exact Int.ofNat_inj.symm
 refine ah _ rfl (fun hc4=>?_) (fun hc4=>?_)
 ·rw [← hWe] at hc4
  have hf:qE ws pages k t a=false:=by simpa using hc4
  rw [JF hk3 ht8 ha8 hf]
  refine run ?_
  exact fin1 rfl
 ·rw [← hWe] at hc4
  have hf:qE ws pages k t a=true:=by simpa using hc4
  refine run ?_
  refine aK (a + 1) ⟨ha8,fun a' hl=>?_⟩
  by_cases e:a'=a
  ·subst e;exact hf
  ·exact hA a' be5
end
section
open Go.ChangeShapes Go.WideShapes Go.ChangeAt Go.RowKit
section
variable {H : Type} {enc : TypeId × Value → H} {w : World} {base : Nat} {spare : Nat → Bool} {held : Bool}
theorem open_any {t e:TypeId} {fuel:Nat} {cs:List Value} {x:DataW H × List MemPlace} (ht:Tryz.prog.underlying t=some (.slice e)) (h:DataW.trod enc Tryz.prog w base spare held fuel t cs=some x):∃ p n c,cs=[.slice p n c]:=by
 rcases Go.Deep.open_slice ht h with ⟨hc,_⟩ | ⟨a,len,cap,m,k,D,Pl,hc,_⟩
 ·exact ⟨_,_,_,hc⟩
 ·exact ⟨_,_,_,hc⟩
end
end
def nC (ws:List Nat) (root:Int) (q:Nat):Option (List jv):=
 let W:=bz ws root q 3
 bif !W.ok then none else bif decide (W.d.kind=2) then some [⟨(q:Int),W.d.frame + ((q % aB W.lv:Nat):Int)⟩] else some []
def eH (ws:List Nat) (root:Int) (q:Nat):Nat→Option (List jv)
 | 0=>some []
 | n + 1=>match eH ws root q n with
  | none=>none
  | some xs=>match nC ws root (q + n) with
   | none=>none
   | some ys=>some (xs++ys)
theorem yh (ws:List Nat) (root:Int) (q m:Nat):∀ n,eH ws root q (m + n)=match eH ws root q m with
  | none=>none
  | some xs=>match eH ws root (q + m) n with
   | none=>none
   | some ys=>some (xs++ys):=by
 intro n
 induction n with
 | zero=>
  rw [Nat.add_zero]
  cases eH ws root q m with
  | none=>rfl
  | some xs=>simp [eH]
 | succ n ih=>
  rw [← Nat.add_assoc,eH,ih,eH]
  cases eH ws root q m with
  | none=>rfl
  | some xs=>
   dsimp only
   cases eH ws root (q + m) n with
   | none=>rfl
   | some ys=>
    dsimp only
    rw [← Nat.add_assoc]
    cases nC ws root (q + m + n) with
    | none=>rfl
    | some zs=>simp
theorem VA {ws:List Nat} {root:Int} {q n k:Nat} (h:nC ws root (q + k)=none) (hk:k<n):eH ws root q n=none:=by
 have e:n=k + (1 + (n - k - 1)):=by omega
 rw [e,yh]
 cases eH ws root q k with
 | none=>rfl
 | some xs=>
  dsimp only
  rw [yh]
  have:eH ws root (q + k) 1=none:=by rw [eH,eH,Nat.add_zero,h]
  rw [this]
def Ac (q:Nat) (f:Int):Nat→List jv
 | 0=>[]
 | n + 1=>Ac q f n++[⟨((q + n:Nat):Int),f + (n:Int)⟩]
theorem JG (q:Nat) (f:Int) (n:Nat):(Ac q f n).length=n:=by
 induction n with
 | zero=>rfl
 | succ n ih=>rw [Ac,List.length_append,ih];rfl
theorem VB {ws:List Nat} {root:Int} {q:Nat} {W:uB} (hok:W.ok=true) (hk:W.d.kind=2) (hq:q % aB W.lv=0):∀ n,n≤aB W.lv→(∀ j,j<n→bz ws root (q + j) 3=W)→eH ws root q n=some (Ac q W.d.frame n):=by
 intro n
 induction n with
 | zero=>intro _ _;rfl
 | succ n ih=>
  intro hn h
  rw [eH,ih be5 (fun j hj=>h j be5)]
  have hp:nC ws root (q + n)=some [⟨((q + n:Nat):Int),W.d.frame + (n:Int)⟩]:=by
   unfold nC
   rw [h n be5]
   have hm:(q + n) % aB W.lv=n:=by
    rw [Nat.add_mod,hq,Nat.zero_add,Nat.mod_mod,Nat.mod_eq_of_lt be5]
   simp only [hok,hk,decide_true,Bool.not_true,cond_false,cond_true,hm]
  rw [hp]
  rfl
theorem aj3 {ws:List Nat} {root:Int} {q:Nat} {W:uB} (hok:W.ok=true) (hk:W.d.kind ≠ 2):∀ n,(∀ j,j<n→bz ws root (q + j) 3=W)→eH ws root q n=some []:=by
 intro n
 induction n with
 | zero=>intro _;rfl
 | succ n ih=>
  intro h
  rw [eH,ih (fun j hj=>h j be5)]
  have hp:nC ws root (q + n)=some []:=by
   unfold nC
   rw [h n be5]
   simp [hok,hk]
  rw [hp]
  rfl
def Fj (ws:List Nat) (root f:Int) (level page:Nat):Prop:=
 ∃ fs d,fs.length=level∧∀ j,j<8 * aB level→bz ws root (page + j) 3=fZ ws (page + j) 3 (4 - level) level f fs d
theorem MQ {level page i j:Nat} (hl:level<4) (hp:page % (8 * aB level)=0) (hi:i<8) (hj:j<aB level):ru level (page + (i * aB level + j))=i:=by
 have hc:=jc hl
 unfold ru
 rw [Nat.shiftRight_eq_div_pow]
 have e:2 ^ pq level=aB level:=by unfold aB;rw [Nat.one_shiftLeft]
 rw [e]
 generalize aB level=c at hc hp hj
 obtain ⟨m,hm⟩:=Nat.dvd_of_mod_eq_zero hp
 have h0:8 * c * m=c * (8 * m):=by rw [Nat.mul_comm 8 c,Nat.mul_assoc]
 have h2:page + (i * c + j)=j + c * (8 * m + i):=by
  rw [hm,h0,Nat.mul_add,Nat.mul_comm i c]
  generalize c * (8 * m)=u
  generalize c * i=v
  omega
 have h1:(page + (i * c + j)) / c=8 * m + i:=by
  rw [h2,Nat.add_mul_div_left _ _ be5,Nat.div_eq_of_lt hj,Nat.zero_add]
 rw [h1]
 omega
theorem JH {ws:List Nat} {root f:Int} {level page i:Nat} {fs:List Int} {d0:DsD} (hl:level<4) (hp:page % (8 * aB level)=0) (hi:i<8) (hf:dm ws.length f=true)
  (h:∀ j,j<8 * aB level→bz ws root (page + j) 3=fZ ws (page + j) 3 (4 - level) level f fs d0) {j:Nat} (hj:j<aB level):
  bz ws root (page + i * aB level + j) 3=bif !decide ((kS ws (f.toNat * 8 + i) level).kind=1) || decide (level=3) then ⟨fs++[f],kS ws (f.toNat * 8 + i) level,true⟩
   else fZ ws (page + i * aB level + j) 3 (3 - level) (level + 1) (kS ws (f.toNat * 8 + i) level).frame (fs++[f]) (kS ws (f.toNat * 8 + i) level):=by
 have hij:i * aB level + j<8 * aB level:=by
  have:i * aB level≤7 * aB level:=Nat.mul_le_mul_right _ be5
  omega
 have h1:=h (i * aB level + j) hij
 have hx:=MQ hl hp hi hj
 rw [show 4 - level=(3 - level) + 1 by omega,fZ,hf,cond_true] at h1
 unfold sH at h1
 rw [hx] at h1
 rw [Nat.add_assoc]
 exact h1
theorem uD {level:Nat} (h:level<3):aB level=8 * aB (level + 1):=by
 obtain rfl | rfl | rfl:level=0∨level=1∨level=2:=by omega
 all_goals decide
theorem MR {ws:List Nat} {root f:Int} {level page i:Nat} (hl:level<3) (hp:page % (8 * aB level)=0) (hi:i<8) (hf:dm ws.length f=true) (h:Fj ws root f level page) (hk:(kS ws (f.toNat * 8 + i) level).kind=1):Fj ws root (kS ws (f.toNat * 8 + i) level).frame (level + 1) (page + i * aB level):=by
 obtain ⟨fs,d0,hfs,h⟩:=h
 refine ⟨fs++[f],kS ws (f.toNat * 8 + i) level,by simp [hfs],fun j hj=>?_⟩
 rw [← uD hl] at hj
 rw [JH be5 hp hi hf h hj]
 have h3:decide (level=3)=false:=decide_eq_false be5
 simp only [hk,h3,decide_true,Bool.not_true,Bool.or_false,cond_false]
 rw [show 4 - (level + 1)=3 - level by omega]
theorem Q3 {ws:List Nat} {root f:Int} {level page i:Nat} (hl:level<4) (hp:page % (8 * aB level)=0) (hi:i<8) (hf:dm ws.length f=true) (h:Fj ws root f level page):
  ((kS ws (f.toNat * 8 + i) level).kind=2→eH ws root (page + i * aB level) (aB level)=some (Ac (page + i * aB level) (kS ws (f.toNat * 8 + i) level).frame (aB level))) ∧
  ((kS ws (f.toNat * 8 + i) level).kind=0→eH ws root (page + i * aB level) (aB level)=some []):=by
 obtain ⟨fs,d0,hfs,h⟩:=h
 have hlv:(⟨fs++[f],kS ws (f.toNat * 8 + i) level,true⟩:uB).lv=level:=by simp [uB.lv,hfs]
 have hw:(kS ws (f.toNat * 8 + i) level).kind ≠ 1→∀ j,j<aB level→bz ws root (page + i * aB level + j) 3=⟨fs++[f],kS ws (f.toNat * 8 + i) level,true⟩:=fun hk j hj=>by
  rw [JH hl hp hi hf h hj]
  simp [hk]
 refine ⟨fun hk=>?_,fun hk=>?_⟩
 ·refine VB (W:=⟨fs++[f],kS ws (f.toNat * 8 + i) level,true⟩) rfl hk ?_ (aB level) (by rw [hlv];exact Nat.le_refl _) (hw (by rw [hk];decide))
  rw [hlv]
  have h8:page % aB level=0:=Nat.mod_eq_zero_of_dvd (Nat.dvd_trans ⟨8,Nat.mul_comm _ _⟩ (Nat.dvd_of_mod_eq_zero hp))
  rw [Nat.add_mod,h8,Nat.mul_mod_left];rfl
 ·exact aj3 (W:=⟨fs++[f],kS ws (f.toNat * 8 + i) level,true⟩) rfl (by show (kS ws (f.toNat * 8 + i) level).kind ≠ 2;rw [hk];decide) (aB level) (hw (by rw [hk];decide))
theorem MS (ws:List Nat) (root:Int):Fj ws root root 0 0:=⟨[],dN,rfl,fun j _=>rfl⟩
theorem MV {ws:List Nat} {root f:Int} {level page:Nat} (hl:level<4) (h:Fj ws root f level page) (hf:dm ws.length f=false):eH ws root page (8 * aB level)=none:=by
 obtain ⟨fs,d0,hfs,h⟩:=h
 have hc:=jc hl
 refine VA (k:=0) ?_ be5
 unfold nC
 rw [h 0 be5,show 4 - level=(3 - level) + 1 by omega,fZ,hf]
 rfl
section
structure qJ where
 r:pU
 vm:Int
 vc:Int
 es:List iU
 ds:List jZ
deriving Inhabited
structure qK where
 live:Bool
 dying:Bool
 aO:Int
 fs:List Int
 fr:List Int
 vs:List Iy
deriving Inhabited
structure HyD where
 ws:List Nat
 cs:List qJ
 vs:List qK
 rs:List pU
deriving Inhabited
def qB.u (c:qB):qJ:=⟨c.r,c.vm,c.vc,c.t.es,c.t.ds⟩
def jH.u (m:jH):qK:=⟨m.live,m.dying,m.aO,m.fs,m.fr,m.vs⟩
def Du (ws:List Nat) (root mid:Int):Int:=(kJ ws root mid.toNat).d.soft
structure XB where
 mid:Int
 gU:Int
 soft:Int
deriving Inhabited
abbrev O1 (m:XB):List Value:=[.int .i64 m.mid,.int .i64 m.gU,.int .i64 m.soft]
def qK.root (v:qK):Int:=v.fs.getD 0 0
def qK.has (v:qK):Bool:=v.live && decide (0<v.fs.length)
namespace HyD
variable (H : HyD)
def cu (c:Nat):qJ:=H.cs.getD c default
def vu (i:Nat):qK:=H.vs.getD i default
def JI (i:Nat):List jv:=bif (H.vu i).has then ((eH H.ws (H.vu i).root 0 4096).getD []).filter (fun m=>decide (m.mid≤15)) else []
def msA (i:Nat):List XB:=(H.JI i).map fun m=>⟨m.mid,m.gU,Du H.ws (H.vu i).root m.mid⟩
def ry (f s:Int):Int:=match PtD.idx (fun i=>(H.msA i).any fun m=>decide (m.gU=f) && decide (m.soft=s)) [0,1,2,3] 0 with
 | some i=>(i:Int) + 1
 | none=>0
def kP (f:Nat):sF:=
 let g:=kJ H.ws 0 f
 bif !decide (g.e=0) then ⟨-1,-2⟩ else bif decide (g.d.kind=2) && decide (g.d.soft=0) then ⟨0,-2⟩
 else bif decide (g.d.kind=2) && decide (g.d.soft=1) then (bif decide (0<H.ry f 2) then ⟨0,H.ry f 2⟩ else ⟨0,-1⟩)
 else bif decide (g.d.kind=2) && decide (g.d.soft=2) then (bif decide (0<H.ry f 1) then ⟨H.ry f 1,0⟩ else ⟨-1,-2⟩)
 else bif decide (g.d.kind=0) && decide (1<g.d.note) && decide (g.d.note≤5) then ⟨g.d.note - 1,-2⟩ else ⟨-1,-2⟩
def bW (i:Nat):Yr:=bif (H.vu i).live then ⟨true,(H.vu i).dying,bif decide (0<(H.vu i).fs.length) then (H.vu i).root else 0,(H.vu i).vs.map Iy.on,H.JI i⟩ else ⟨false,(H.vu i).dying,0,[],[]⟩
def aQ:PtD:=⟨(List.range (H.ws.length / 8)).map H.kP,(List.range 4).map H.bW,H.cs.map fun c=>⟨c.vm,c.vc⟩⟩
def kK:Bool:=fK H.ws.length && decide (24≤H.ws.length / 8) && (decide (1≤H.cs.length) && decide (H.cs.length≤3)) && decide (H.rs.length=H.cs.length) && decide (H.vs.length=4)
def XC (c:Iy):Bool:=decide (c.on=-1) || decide (c.r=dK)
def vmQ (i:Nat):Bool:=
 bif (H.vu i).live then (H.vu i).vs.all XC && PtD.di (H.vu i).aO 1 15 && !(H.vs.take i).any fun o=>o.live && decide (o.aO=(H.vu i).aO)
 else decide ((H.vu i).vs=[]) && decide ((H.vu i).fs=[]) && decide ((H.vu i).fr=[]) && decide ((H.vu i).aO=0)
def cpQ (c:Nat):Bool:=!decide ((H.cu c).vm=0) || decide (H.rs.getD c default=dK)
def quiet:Bool:=allB H.cs.length H.cpQ && allB 4 H.vmQ
end HyD
def VD (P:PtD) (n:Int) (f:Nat):Int:=bif !decide ((P.pg f).own=n) then 2 else bif decide ((P.pg f).wit=0) then 1 else 0
def Dv (P:PtD) (n:Int) (mid:Nat) (d:DsD):Bool:=
 decide (d.frame<(P.pages.length:Int)) && (decide (d=aU d.frame (VD P n d.frame.toNat)) && (P.gs (n - 1).toNat).maps.any fun m=>decide (m.mid=(mid:Int)) && decide (m.gU=d.frame))
def Fp (ws:List Nat) (may:Nat→DsD→Bool) (go:List Int→Int→Nat→Option (List Int)) (f:Int) (level page:Nat) (k:Nat) (seen:List Int):Option (List Int):=
 let d:=kS ws (f.toNat * 8 + k) level
 bif decide (d.kind=1) then (bif decide (15<page + k * aB level) then none else go seen d.frame (page + k * aB level))
 else bif !decide (ws.getD (f.toNat * 8 + k) 0=0) && (!decide (d.kind=2) || !decide (level=3) || !may (page + k) d) then none else some seen
def ji (ws:List Nat) (may:Nat→DsD→Bool) (go:List Int→Int→Nat→Option (List Int)) (f:Int) (level page:Nat):Nat→List Int→Option (List Int)
 | 0,seen=>some seen
 | k + 1,seen=>match ji ws may go f level page k seen with
  | none=>none
  | some s=>Fp ws may go f level page k s
def iZ (ws:List Nat) (may:Nat→DsD→Bool):Nat→List Int→Int→Nat→Nat→Option (List Int)
 | 0,_,_,_,_=>none
 | k + 1,seen,f,level,page=>bif !dm ws.length f || seen.any (fun t=>decide (t=f)) then none
  else ji ws may (fun s f' p=>iZ ws may k s f' (level + 1) p) f level page 8 (seen++[f])
def O3 (ws:List Nat) (f:Int):Bool:=allB 8 fun k=>decide (ws.getD (f.toNat * 8 + k) 0=0)
def Dw (ws:List Nat) (fs seen fr:List Int) (k:Nat):Bool:=
 fs.any (fun t=>decide (t=fr.getD k 0)) && !seen.any (fun t=>decide (t=fr.getD k 0)) && (decide (k=0) || decide (fr.getD (k - 1) 0<fr.getD k 0)) && O3 ws (fr.getD k 0)
namespace HyD
variable (H : HyD)
def MW (i:Nat) (page:Nat) (d:DsD):Bool:=decide (page≤15) && Dv H.aQ ((i:Int) + 1) page d
def rY (i:Nat):Bool:=
 bif !(H.vu i).live then true else
 decide ((H.vu i).fs.length=5) && allB 5 (fun k=>decide ((H.vu i).fs.getD k 0=(H.vu i).root + (k:Int))) &&
 match iZ H.ws (H.MW i) 4 [] (H.vu i).root 0 0 with
 | none=>false
 | some seen=>decide (seen.length + (H.vu i).fr.length=5) && allB (H.vu i).fr.length (Dw H.ws (H.vu i).fs seen (H.vu i).fr) && seen.all fun f=>(H.vu i).fs.any fun t=>decide (t=f)
def Dx (aO:Int):Option Int:=bif decide (aO=0) then some 0 else match PtD.idx (fun v:qK=>v.live && decide (v.aO=aO)) H.vs 0 with
 | some i=>some (H.vu i).root
 | none=>none
def iR (root:Int) (page:Int):DsD × Bool:=((kJ H.ws root page.toNat).d,decide ((kJ H.ws root page.toNat).e=0) && decide ((kJ H.ws root page.toNat).d.kind=2) && decide ((kJ H.ws root page.toNat).level=3))
def nM (e:iU):Bool:=match H.Dx e.aO with
 | none=>false
 | some root=>
  bif decide (e.kind=2) then (H.iR root e.page).2 && decide ((H.iR root e.page).1.frame=e.frame) && (decide ((H.iR root e.page).1.r=e.r) && decide ((H.iR root e.page).1.w=e.w) && decide ((H.iR root e.page).1.x=e.x) && decide ((H.iR root e.page).1.af=e.af) && decide ((H.iR root e.page).1.ng=e.ng) && decide (0=e.soft))
  else bif decide (e.kind=1) then (H.iR root e.mid).2 && decide ((H.iR root e.mid).1.frame=e.frame) && ((!e.r || (H.iR root e.mid).1.r) && (!e.w || (H.iR root e.mid).1.w) && (!e.x || (H.iR root e.mid).1.x))
  else ((eH H.ws root 0 4096).getD []).any fun m=>(H.iR root m.mid).2 && decide (m.gU=e.frame) && (H.iR root m.mid).1.r
def sound (c:Nat):Bool:=gq (H.cu c).es (H.cu c).ds && (H.cu c).es.all H.nM
def ok:Bool:=H.kK && (H.aQ.may && Dq H.ws H.aQ.pages && H.quiet) && allB 4 H.rY && allB H.cs.length H.sound
end HyD
structure HyD.Fit (H:HyD):Prop where
 l:H.ws.length<100000∧H.cs.length<100000∧H.vs.length<100000∧H.rs.length<100000
 c:∀ c∈H.cs,c.es.length<100000∧c.ds.length<100000∧I64 c.vm∧I64 c.vc
 v:∀ v∈H.vs,v.fs.length<100000∧v.fr.length<100000∧v.vs.length<100000∧(∀ x∈v.fs,I64 x)∧(∀ x∈v.fr,I64 x)∧(∀ c∈v.vs,I64 c.on)
structure MX (w:World) (wv cv vv rv:Value) (H:HyD):Prop where
 fit:H.Fit
 cap:∃ q c,vv=.slice q H.vs.length c∧H.vs.length≤c
 JJ:∃ q c,wv=.slice q H.ws.length c∧H.ws.length≤c
 ex:∃ cs vs,cs.map qB.u=H.cs∧vs.map jH.u=H.vs∧(∀ c∈cs,c.t.es.length≤c.t.ec)∧MJ w wv cv vv rv H.ws cs vs H.rs
theorem MX.good {w w':World} {hp:Hp} {wv cv vv rv:Value} {H:HyD} (h:MX w wv cv vv rv H) (hG:Good w [] hp w'):MX w' wv cv vv rv H:=by
 obtain ⟨cs,vs,e1,e2,e3,h5⟩:=h.ex
 exact ⟨h.fit,h.cap,h.JJ,cs,vs,e1,e2,e3,h5.good hG⟩
theorem yj {cs:List qB} {us:List qJ} (h:cs.map qB.u=us) (k:Nat):(cs.getD k default).u=us.getD k default:=by
 rw [← h,List.getD_eq_getElem?_getD,List.getD_eq_getElem?_getD,List.getElem?_map]
 cases cs[k]?<;>rfl
theorem Dy {cs:List jH} {us:List qK} (h:cs.map jH.u=us) (k:Nat):(cs.getD k default).u=us.getD k default:=by
 rw [← h,List.getD_eq_getElem?_getD,List.getD_eq_getElem?_getD,List.getElem?_map]
 cases cs[k]?<;>rfl
theorem yl (ws:List Nat) (root:Int) (q:Nat):∀ n xs,eH ws root q n=some xs→xs.length≤n:=by
 intro n
 induction n with
 | zero=>intro xs h;cases h;exact Nat.le_refl _
 | succ n ih=>
  intro xs h
  rw [eH] at h
  cases h1:eH ws root q n with
  | none=>rw [h1] at h;cases h
  | some a=>
   rw [h1] at h
   dsimp only at h
   unfold nC at h
   dsimp only at h
   have:=ih a h1
   cases h2:(!(bz ws root (q + n) 3).ok) with
   | true=>rw [h2] at h;cases h
   | false=>
    rw [h2,cond_false] at h
    cases h3:decide ((bz ws root (q + n) 3).d.kind=2) with
    | true=>rw [h3] at h;cases h;simp;omega
    | false=>rw [h3] at h;cases h;simp;omega
theorem Hl (H:HyD) (i:Nat):(H.JI i).length≤4096:=by
 unfold HyD.JI
 cases (H.vu i).has with
 | false=>exact Nat.zero_le _
 | true=>
  rw [cond_true]
  refine Nat.le_trans (List.length_filter_le _ _) ?_
  cases h:eH H.ws (H.vu i).root 0 4096 with
  | none=>exact Nat.zero_le _
  | some a=>exact yl _ _ _ _ _ h
end
abbrev rE (w w':World):Prop:=∃ hp,Good w [] hp w'
section
attribute [local irreducible] Hy St Ops DH dG
theorem JK {w:World} {F:Nat} {us:List Value} (p:Int→Bool) (xs:List (Int)) (v:Value) (h:aF w v 1 (xs.map dA)) (hF:∀ x,x∈xs→∀ w',rE w w'→Fn Tryz.prog F ([]++[Value.int .i64 x]++us).toArray w' [] (fun u _=>u=.bool (p x))) (bH:mem iF F=true:=by rfl):
  Fn Tryz.prog 173 [v,.func (.func F) [].toArray us.toArray].toArray w [] (fun u _=>u=.int .i64 (jb p xs)):=by
 obtain ⟨q,cap,rfl,hne,hle⟩:=h.opened
 refine enter Tryz.func173 ?_
 refine run ?_
 refine aX (σ:=Nat) (fun k=>[(8,.int .i64 (k:Int))]) (fun _=>[]) (fun k=>k≤xs.length∧∀ j,j<k→p (xs.getD j default)=false) (fun k=>xs.length - k) 0 ⟨Nat.zero_le _,fun j hj=>absurd hj be5⟩ ?_
 rintro k m rfl ⟨hk,hno⟩
 refine run ?_
 refine ah _ rfl (fun hc=>?_) (fun hc=>?_)
 ·have hlt:k<xs.length:=by simpa using hc
  obtain ⟨b,o,rfl⟩:=hne be'
  have hr:=au (h.row hlt)
  simp only [Nat.mul_one] at hr
  refine run ?_
  refine jM (fun wc hG=>hF (xs.getD k default) (getD_mem hlt) wc ⟨_,hG⟩) (bH:=bH) ?_
  refine run ?_
  refine ah _ rfl (fun hp=>?_) (fun hp=>?_)
  ·refine run ?_
   refine fin1 ?_
   rw [fB hlt hp hno]
  ·refine run ?_
   refine aK (k + 1) ⟨hlt,fun j hj=>?_⟩
   rcases Nat.lt_succ_iff_lt_or_eq.1 hj with hj | rfl
   ·exact hno j hj
   ·exact hp
 ·have hge:k=xs.length:=by simp at hc;omega
  subst hge
  refine run ?_
  refine fin1 ?_
  rw [dF hno]
theorem MZ {w:World} {F:Nat} {us:List Value} (p:jZ→Bool) (xs:List (jZ)) (v:Value) (h:aF w v 4 (xs.map rD)) (hF:∀ x,x∈xs→∀ w',rE w w'→Fn Tryz.prog F ([]++[Value.agg (rD x).toArray]++us).toArray w' [] (fun u _=>u=.bool (p x))) (bH:mem iF F=true:=by rfl):
  Fn Tryz.prog 258 [v,.func (.func F) [].toArray us.toArray].toArray w [] (fun u _=>u=.int .i64 (jb p xs)):=by
 obtain ⟨q,cap,rfl,hne,hle⟩:=h.opened
 refine enter Tryz.func258 ?_
 refine run ?_
 refine aX (σ:=Nat) (fun k=>[(8,.int .i64 (k:Int))]) (fun _=>[]) (fun k=>k≤xs.length∧∀ j,j<k→p (xs.getD j default)=false) (fun k=>xs.length - k) 0 ⟨Nat.zero_le _,fun j hj=>absurd hj be5⟩ ?_
 rintro k m rfl ⟨hk,hno⟩
 refine run ?_
 refine ah _ rfl (fun hc=>?_) (fun hc=>?_)
 ·have hlt:k<xs.length:=by simpa using hc
  obtain ⟨b,o,rfl⟩:=hne be'
  have hr:=h.row hlt
  refine run ?_
  refine jM (fun wc hG=>hF (xs.getD k default) (getD_mem hlt) wc ⟨_,hG⟩) (bH:=bH) ?_
  refine run ?_
  refine ah _ rfl (fun hp=>?_) (fun hp=>?_)
  ·refine run ?_
   refine fin1 ?_
   rw [fB hlt hp hno]
  ·refine run ?_
   refine aK (k + 1) ⟨hlt,fun j hj=>?_⟩
   rcases Nat.lt_succ_iff_lt_or_eq.1 hj with hj | rfl
   ·exact hno j hj
   ·exact hp
 ·have hge:k=xs.length:=by simp at hc;omega
  subst hge
  refine run ?_
  refine fin1 ?_
  rw [dF hno]
theorem Dz {w:World} {F:Nat} {us:List Value} (p:iU→Bool) (xs:List (iU)) (v:Value) (h:aF w v 14 (xs.map kE)) (hF:∀ x,x∈xs→∀ w',rE w w'→Fn Tryz.prog F ([]++[Value.agg (kE x).toArray]++us).toArray w' [] (fun u _=>u=.bool (p x))) (bH:mem iF F=true:=by rfl):
  Fn Tryz.prog 179 [v,.func (.func F) [].toArray us.toArray].toArray w [] (fun u _=>u=.int .i64 (jb p xs)):=by
 obtain ⟨q,cap,rfl,hne,hle⟩:=h.opened
 refine enter Tryz.func179 ?_
 refine run ?_
 refine aX (σ:=Nat) (fun k=>[(8,.int .i64 (k:Int))]) (fun _=>[]) (fun k=>k≤xs.length∧∀ j,j<k→p (xs.getD j default)=false) (fun k=>xs.length - k) 0 ⟨Nat.zero_le _,fun j hj=>absurd hj be5⟩ ?_
 rintro k m rfl ⟨hk,hno⟩
 refine run ?_
 refine ah _ rfl (fun hc=>?_) (fun hc=>?_)
 ·have hlt:k<xs.length:=by simpa using hc
  obtain ⟨b,o,rfl⟩:=hne be'
  have hr:=h.row hlt
  refine run ?_
  refine jM (fun wc hG=>hF (xs.getD k default) (getD_mem hlt) wc ⟨_,hG⟩) (bH:=bH) ?_
  refine run ?_
  refine ah _ rfl (fun hp=>?_) (fun hp=>?_)
  ·refine run ?_
   refine fin1 ?_
   rw [fB hlt hp hno]
  ·refine run ?_
   refine aK (k + 1) ⟨hlt,fun j hj=>?_⟩
   rcases Nat.lt_succ_iff_lt_or_eq.1 hj with hj | rfl
   ·exact hno j hj
   ·exact hp
 ·have hge:k=xs.length:=by simp at hc;omega
  subst hge
  refine run ?_
  refine fin1 ?_
  rw [dF hno]
theorem oV {w:World} {F:Nat} {us:List Value} (p:Int→Bool) (xs:List (Int)) (v:Value) (h:aF w v 1 (xs.map dA)) (hF:∀ x,x∈xs→∀ w',rE w w'→Fn Tryz.prog F ([]++[Value.int .i64 x]++us).toArray w' [] (fun u _=>u=.bool (p x))) (bH:mem iF F=true:=by rfl):
  Fn Tryz.prog 88 [v,.func (.func F) [].toArray us.toArray].toArray w [] (fun u _=>u=.bool (xs.any p)):=by
 refine enter Tryz.func88 ?_
 refine run ?_
 refine ak (fun wc hG=>JK p xs v (h.good hG) (fun x hx w' ha=>hF x hx w' ?_) bH) ?_
 ·obtain ⟨hp,hg⟩:=ha
  exact ⟨_,hG.trans hg⟩
 refine run ?_
 refine fin1 ?_
 rw [← iY]
theorem pV {w:World} {F:Nat} {us:List Value} (p:jZ→Bool) (xs:List (jZ)) (v:Value) (h:aF w v 4 (xs.map rD)) (hF:∀ x,x∈xs→∀ w',rE w w'→Fn Tryz.prog F ([]++[Value.agg (rD x).toArray]++us).toArray w' [] (fun u _=>u=.bool (p x))) (bH:mem iF F=true:=by rfl):
  Fn Tryz.prog 176 [v,.func (.func F) [].toArray us.toArray].toArray w [] (fun u _=>u=.bool (xs.any p)):=by
 refine enter Tryz.func176 ?_
 refine run ?_
 refine ak (fun wc hG=>MZ p xs v (h.good hG) (fun x hx w' ha=>hF x hx w' ?_) bH) ?_
 ·obtain ⟨hp,hg⟩:=ha
  exact ⟨_,hG.trans hg⟩
 refine run ?_
 refine fin1 ?_
 rw [← iY]
theorem uF {w:World} (v:Value) (xs:List (List Value)) (h:aF w v 14 xs) (hall:∀ c∈xs,c.length=14∧c.all (·.oneCell')=true) (hl:xs.length<1000000):Fn Tryz.prog 209 [v].toArray w [] (fun u hn=>Own 51 14 u hn xs):=by
 obtain ⟨⟨q,cap,rfl,hne⟩,_⟩:=h
 refine enter Tryz.func209 ?_
 refine run ?_
 refine ja be8 (lW ay rfl rfl) ?_
 refine run ?_
 refine ah _ rfl (fun hp=>?_) (fun hp=>?_)
 ·obtain rfl:xs=[]:=by
   rcases Classical.em (xs=[]) with h | h
   ·exact h
   ·obtain ⟨b,o,rfl,_⟩:=hne h;cases hp
  refine run ?_
  refine fin1 ?_
  exact ⟨by simp,.inl ⟨rfl,rfl,rfl⟩⟩
 refine run ?_
 refine gI ay be8 be8 (fun g=>?_)
 refine run ?_
 rcases Classical.em (xs=[]) with rfl | hx
 ·cases q with
  | none=>cases hp
  | some q=>
  refine ja be8 (gG ay (iE:=0) rfl rfl rfl (Nat.le_refl _)) ?_
  refine run ?_
  refine fin1 ?_
  exact ⟨by simp,.inr ⟨g,0,#[],rfl,rfl,⟨rfl,Nat.le_refl _,by decide,rfl,rfl⟩⟩⟩
 ·obtain ⟨b,o,rfl,hr⟩:=hne hx
  refine dZ ay be8 rfl ⟨rfl,Nat.le_refl _,by decide,rfl,rfl⟩ rfl rfl rfl rfl rfl rfl (.refl _) rfl hall hr be7 hl (fun v' ha' hA=>?_)
  refine run ?_
  refine fin1 ?_
  rw [List.append_nil]
  exact hA
theorem vM {w:World} (v:Value) (xs:List (List Value)) (h:aF w v 4 xs) (hall:∀ c∈xs,c.length=4∧c.all (·.oneCell')=true) (hl:xs.length<1000000):Fn Tryz.prog 210 [v].toArray w [] (fun u hn=>Own 194 4 u hn xs):=by
 obtain ⟨⟨q,cap,rfl,hne⟩,_⟩:=h
 refine enter Tryz.func210 ?_
 refine run ?_
 refine ja be8 (lW ay rfl rfl) ?_
 refine run ?_
 refine ah _ rfl (fun hp=>?_) (fun hp=>?_)
 ·obtain rfl:xs=[]:=by
   rcases Classical.em (xs=[]) with h | h
   ·exact h
   ·obtain ⟨b,o,rfl,_⟩:=hne h;cases hp
  refine run ?_
  refine fin1 ?_
  exact ⟨by simp,.inl ⟨rfl,rfl,rfl⟩⟩
 refine run ?_
 refine gI ay be8 be8 (fun g=>?_)
 refine run ?_
 rcases Classical.em (xs=[]) with rfl | hx
 ·cases q with
  | none=>cases hp
  | some q=>
  refine ja be8 (gG ay (iE:=0) rfl rfl rfl (Nat.le_refl _)) ?_
  refine run ?_
  refine fin1 ?_
  exact ⟨by simp,.inr ⟨g,0,#[],rfl,rfl,⟨rfl,Nat.le_refl _,by decide,rfl,rfl⟩⟩⟩
 ·obtain ⟨b,o,rfl,hr⟩:=hne hx
  refine dZ ay be8 rfl ⟨rfl,Nat.le_refl _,by decide,rfl,rfl⟩ rfl rfl rfl rfl rfl rfl (.refl _) rfl hall hr be7 hl (fun v' ha' hA=>?_)
  refine run ?_
  refine fin1 ?_
  rw [List.append_nil]
  exact hA
theorem Q4 {w:World} (a:iU) (xs:List iU) (v:Value) (h:aF w v 14 (xs.map kE)):
  Fn Tryz.prog 257 [v,.agg (kE a).toArray].toArray w [] (fun u _=>u=.int .i64 (jb (fun t=>decide (t=a)) xs)):=by
 obtain ⟨q,cap,rfl,hne,hle⟩:=h.opened
 refine enter Tryz.func257 ?_
 refine run ?_
 intro B
 refine run ?_
 refine aX (σ:=Nat) (fun k=>[(8,.int .i64 (k:Int))]) (fun _=>[⟨B,(kE a).toArray,51⟩]) (fun k=>k≤xs.length∧∀ j,j<k→decide (xs.getD j default=a)=false) (fun k=>xs.length - k) 0 ⟨Nat.zero_le _,fun j hj=>absurd hj be5⟩ ?_
 rintro k m rfl ⟨hk,hno⟩
 refine run ?_
 refine ah _ rfl (fun hc=>?_) (fun hc=>?_)
 ·have hlt:k<xs.length:=by simpa using hc
  obtain ⟨b,o,rfl⟩:=hne be'
  have hr:=h.row hlt
  refine run ?_
  refine kC ?_
  refine bZ ?_
  refine run ?_
  have hq:∀ x:iU,aW (kE a) (kE x)=decide (x=a):=fun x=>by rw [av3,Bool.eq_iff_iff,decide_eq_true_eq,decide_eq_true_eq];exact eq_comm
  try rw [hq]
  try rw [av3]
  refine ah _ rfl (fun hp=>?_) (fun hp=>?_)
  ·refine run ?_
   refine fin1 ?_
   rw [fB hlt hp hno]
  ·refine run ?_
   refine aK (k + 1) ⟨hlt,fun j hj=>?_⟩
   rcases Nat.lt_succ_iff_lt_or_eq.1 hj with hj | rfl
   ·exact hno j hj
   ·exact hp
 ·have hge:k=xs.length:=by simp at hc;omega
  subst hge
  refine run ?_
  refine fin1 ?_
  rw [dF hno]
theorem Ho {w:World} (a:iU) (xs:List iU) (v:Value) (h:aF w v 14 (xs.map kE)):
  Fn Tryz.prog 175 [v,.agg (kE a).toArray].toArray w [] (fun u _=>u=.bool (xs.any fun t=>decide (t=a))):=by
 refine enter Tryz.func175 ?_
 refine run ?_
 intro B
 refine run ?_
 refine ak (fun wc hG=>Q4 a xs v (h.good hG)) ?_
 refine run ?_
 refine fin1 ?_
 rw [← iY]
end
end Go.Proofs.YtiaelhhmlbfkmaaGreat
