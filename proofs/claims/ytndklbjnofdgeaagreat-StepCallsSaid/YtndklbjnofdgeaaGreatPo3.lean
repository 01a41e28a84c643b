/- Texts of one's own, merged: the engine, what the functions do, plain laws. -/
import Derived.Test.YtndklbjnofdgeaaGreatPo2
namespace Go.Proofs.YtndklbjnofdgeaaGreat
open Go.RowKit
set_option linter.unusedVariables false
set_option linter.unusedSimpArgs false
set_option maxRecDepth 20000
structure aC where
 x0:Nat
 x1:Nat
 x2:Nat
 x3:Nat
 x4:Nat
 x5:Nat
 x6:Nat
 x7:Nat
 pc:Nat
 gp:Nat
 dm:Nat
 jd:Nat
 qw:Nat
 mJ:Nat
 far:Nat
deriving DecidableEq
def kM:aC:=⟨0,0,0,0,0,0,0,0,0,0,0,0,0,0,0⟩
instance : Inhabited aC := ⟨kM⟩
abbrev dD (r:aC):List Value:=[.int .u64 (r.x0:Int),.int .u64 (r.x1:Int),.int .u64 (r.x2:Int),.int .u64 (r.x3:Int),.int .u64 (r.x4:Int),.int .u64 (r.x5:Int),.int .u64 (r.x6:Int),.int .u64 (r.x7:Int),.int .u64 (r.pc:Int),.int .u64 (r.gp:Int),.int .u64 (r.dm:Int),.int .u64 (r.jd:Int),.int .u64 (r.qw:Int),.int .u64 (r.mJ:Int),.int .u64 (r.far:Int)]
theorem ae2 (a b:aC):bF (dD a) (dD b)=decide (a=b):=by
 obtain ⟨a0,a1,a2,a3,a4,a5,a6,a7,a8,a9,a10,a11,a12,Zc,a14⟩:=a
 obtain ⟨b0,b1,b2,b3,b4,b5,b6,b7,b8,b9,b10,b11,b12,b13,b14⟩:=b
 rw [Bool.eq_iff_iff,decide_eq_true_eq]
 simp [bF,nH,Int.ofNat_inj]
structure VcD where
 r:aC
 on:Int
deriving DecidableEq
instance : Inhabited VcD := ⟨⟨kM, 0⟩⟩
abbrev vcV (c:VcD):List Value:=[.int .u64 (c.r.x0:Int),.int .u64 (c.r.x1:Int),.int .u64 (c.r.x2:Int),.int .u64 (c.r.x3:Int),.int .u64 (c.r.x4:Int),.int .u64 (c.r.x5:Int),.int .u64 (c.r.x6:Int),.int .u64 (c.r.x7:Int),.int .u64 (c.r.pc:Int),.int .u64 (c.r.gp:Int),.int .u64 (c.r.dm:Int),.int .u64 (c.r.jd:Int),.int .u64 (c.r.qw:Int),.int .u64 (c.r.mJ:Int),.int .u64 (c.r.far:Int),.int .i64 c.on]
structure Xh where
 r:aC
 vm:Int
 vc:Int
 t:dM
instance : Inhabited Xh := ⟨⟨kM, 0, 0, default⟩⟩
abbrev cpV (c:Xh):List Value:=[.int .u64 (c.r.x0:Int),.int .u64 (c.r.x1:Int),.int .u64 (c.r.x2:Int),.int .u64 (c.r.x3:Int),.int .u64 (c.r.x4:Int),.int .u64 (c.r.x5:Int),.int .u64 (c.r.x6:Int),.int .u64 (c.r.x7:Int),.int .u64 (c.r.pc:Int),.int .u64 (c.r.gp:Int),.int .u64 (c.r.dm:Int),.int .u64 (c.r.jd:Int),.int .u64 (c.r.qw:Int),.int .u64 (c.r.mJ:Int),.int .u64 (c.r.far:Int),.int .i64 c.vm,.int .i64 c.vc,c.t.ev,c.t.dv]
structure MO (w:World) (v:Value) (cs:List Xh):Prop where
 rows:aB w v 19 (cs.map cpV)
 en:∀ c∈cs,aB w c.t.ev 14 (c.t.es.map bI)
 iv:∀ c∈cs,aB w c.t.dv 4 (c.t.ds.map dJ)
theorem MO.good {w w':World} {hp:Hp} {v:Value} {cs:List Xh} (h:MO w v cs) (hG:Good w [] hp w'):MO w' v cs:=⟨h.rows.good hG,fun t ht=>(h.en t ht).good hG,fun t ht=>(h.iv t ht).good hG⟩
structure MP where
 live:Bool
 dying:Bool
 jm:Int
 fs:List Int
 fp:Option Addr
 fc:Nat
 fr:List Int
 rp:Option Addr
 rc:Nat
 vs:List VcD
 vp:Option Addr
 vk:Nat
instance : Inhabited MP := ⟨⟨false, false, 0, [], none, 0, [], none, 0, [], none, 0⟩⟩
abbrev MP.fv (m:MP):Value:=.slice m.fp m.fs.length m.fc
abbrev MP.rv (m:MP):Value:=.slice m.rp m.fr.length m.rc
abbrev MP.vv (m:MP):Value:=.slice m.vp m.vs.length m.vk
abbrev vmV (m:MP):List Value:=[.bool m.live,.bool m.dying,.int .i64 m.jm,m.fv,m.rv,m.vv]
structure MQ (w:World) (v:Value) (ms:List MP):Prop where
 rows:aB w v 6 (ms.map vmV)
 fs:∀ m∈ms,aB w m.fv 1 (m.fs.map dH)
 fr:∀ m∈ms,aB w m.rv 1 (m.fr.map dH)
 vs:∀ m∈ms,aB w m.vv 16 (m.vs.map vcV)
theorem MQ.good {w w':World} {hp:Hp} {v:Value} {cs:List MP} (h:MQ w v cs) (hG:Good w [] hp w'):MQ w' v cs:=⟨h.rows.good hG,fun t ht=>(h.fs t ht).good hG,fun t ht=>(h.fr t ht).good hG,fun t ht=>(h.vs t ht).good hG⟩
structure Xi (w:World) (wv cv vv rv:Value) (ws:List Nat) (cs:List Xh) (vs:List MP) (rs:List aC):Prop where
 uZ:tu ws
 ws:aB w wv 1 (ws.map uV)
 cs:MO w cv cs
 vs:MQ w vv vs
 rs:aB w rv 15 (rs.map dD)
theorem Xi.good {w w':World} {hp:Hp} {wv cv vv rv:Value} {ws:List Nat} {cs:List Xh} {vs:List MP} {rs:List aC} (h:Xi w wv cv vv rv ws cs vs rs) (hG:Good w [] hp w'):Xi w' wv cv vv rv ws cs vs rs:=⟨h.uZ,h.ws.good hG,h.cs.good hG,h.vs.good hG,h.rs.good hG⟩
def Xj:Xh:=⟨kM,0,0,⟨[],[],none,0,none,0⟩⟩
def vm0:MP:=⟨false,false,0,[],none,0,[],none,0,[],none,0⟩
theorem iC (w:World) (sz:Nat):aB w (.slice none 0 0) sz []:=⟨⟨none,0,rfl,fun h=>absurd rfl h⟩,by simp⟩
theorem MO.zero {w:World} {b t C:Nat} (h:w.heap[b]?=some (.cells ((List.replicate C (cpV Xj)).flatten).toArray t (0,0))) (hC:C≤1000):MO w (.slice (some ⟨b,0,none⟩) C C) (List.replicate C Xj):=by
 refine ⟨?_,fun c hc=>?_,fun c hc=>?_⟩
 ·have:=dL (w:=w) (b:=b) (t:=t) (cap:=C) (sz:=19) (xs:=List.replicate C (cpV Xj)) h (by intro c hc;rw [List.eq_of_mem_replicate hc];rfl) aw0
  simpa using this
 ·rw [List.eq_of_mem_replicate hc];exact iC _ _
 ·rw [List.eq_of_mem_replicate hc];exact iC _ _
theorem MQ.zero {w:World} {b t C:Nat} (h:w.heap[b]?=some (.cells ((List.replicate C (vmV vm0)).flatten).toArray t (0,0))) (hC:C≤1000):MQ w (.slice (some ⟨b,0,none⟩) C C) (List.replicate C vm0):=by
 refine ⟨?_,fun c hc=>?_,fun c hc=>?_,fun c hc=>?_⟩
 ·have:=dL (w:=w) (b:=b) (t:=t) (cap:=C) (sz:=6) (xs:=List.replicate C (vmV vm0)) h (by intro c hc;rw [List.eq_of_mem_replicate hc];rfl) aw0
  simpa using this
 ·rw [List.eq_of_mem_replicate hc];exact iC _ _
 ·rw [List.eq_of_mem_replicate hc];exact iC _ _
 ·rw [List.eq_of_mem_replicate hc];exact iC _ _
theorem MR {α β:Type} [Inhabited α] {f:α→β} {xs ys:List α} (h:xs.map f=ys.map f) {k:Nat} (hk:k<xs.length):f (xs.getD k default)=f (ys.getD k default):=by
 have hl:xs.length=ys.length:=by simpa using congrArg List.length h
 have h5:=congrArg (fun l=>l[k]?) h
 simp only [List.getElem?_map,List.getElem?_eq_getElem hk,List.getElem?_eq_getElem (show k<ys.length by omega),Option.map_some,Option.some.injEq] at h5
 simp only [List.getD_eq_getElem?_getD,List.getElem?_eq_getElem hk,List.getElem?_eq_getElem (show k<ys.length by omega),Option.getD_some]
 exact h5
section
attribute [local irreducible] Hy St Ops DH gB iH iq fK DS fA
theorem Jp {w:World} (xs:List dB) (u v:Value) (hu:aB w u 4 (xs.map dJ)) (hv:aB w v 4 (xs.map dJ)):Fn Tryz.prog 93 [u,v].toArray w [] (fun r _=>r=.bool true):=by
 obtain ⟨q,cap,rfl,hne,hle⟩:=hu.opened
 obtain ⟨q2,cap2,rfl,hne2,_⟩:=hv.opened
 refine enter Tryz.func93 ?_
 refine run ?_
 refine aj _ rfl (fun hc=>absurd hc av4) (fun hc=>?_)
 refine run ?_
 refine cO (σ:=Nat) (fun k=>[(5,.int .i64 (k:Int))]) (fun _=>[]) (fun k=>k≤xs.length) (fun k=>xs.length - k) 0 (Nat.zero_le _) ?_
 rintro k m hm hk
 refine run ?_
 refine aj _ rfl (fun hc=>?_) (fun hc=>?_)
 ·have hlt:k<xs.length:=by simp at hc;omega
  obtain ⟨b,o,rfl⟩:=hne av5
  obtain ⟨b2,o2,rfl⟩:=hne2 av5
  have h1:=hu.row hlt
  have h2:=hv.row hlt
  refine run ?_
  refine eU ?_
  refine cu ?_
  refine run ?_
  rw [ae1]
  refine aj _ rfl (fun hp=>?_) (fun hp=>?_)
  ·simp at hp
  ·refine run ?_
   exact bH (k + 1) hlt
 ·refine run ?_
  exact fin1 rfl
theorem GZ {w:World} (xs:List bg) (u v:Value) (hu:aB w u 14 (xs.map bI)) (hv:aB w v 14 (xs.map bI)):Fn Tryz.prog 92 [u,v].toArray w [] (fun r _=>r=.bool true):=by
 obtain ⟨q,cap,rfl,hne,hle⟩:=hu.opened
 obtain ⟨q2,cap2,rfl,hne2,_⟩:=hv.opened
 refine enter Tryz.func92 ?_
 refine run ?_
 refine aj _ rfl (fun hc=>absurd hc av4) (fun hc=>?_)
 refine run ?_
 refine cO (σ:=Nat) (fun k=>[(5,.int .i64 (k:Int))]) (fun _=>[]) (fun k=>k≤xs.length) (fun k=>xs.length - k) 0 (Nat.zero_le _) ?_
 rintro k m hm hk
 refine run ?_
 refine aj _ rfl (fun hc=>?_) (fun hc=>?_)
 ·have hlt:k<xs.length:=by simp at hc;omega
  obtain ⟨b,o,rfl⟩:=hne av5
  obtain ⟨b2,o2,rfl⟩:=hne2 av5
  have h1:=hu.row hlt
  have h2:=hv.row hlt
  refine run ?_
  refine eU ?_
  refine cu ?_
  refine run ?_
  rw [TZ]
  refine aj _ rfl (fun hp=>?_) (fun hp=>?_)
  ·simp at hp
  ·refine run ?_
   exact bH (k + 1) hlt
 ·refine run ?_
  exact fin1 rfl
theorem Ud {w:World} (a b:dM) (he:a.es=b.es) (hd:a.ds=b.ds) (h1:aB w a.ev 14 (a.es.map bI)) (h2:aB w a.dv 4 (a.ds.map dJ)) (h3:aB w b.ev 14 (b.es.map bI)) (h4:aB w b.dv 4 (b.ds.map dJ)):Fn Tryz.prog 49 [.agg (lC a).toArray,.agg (lC b).toArray].toArray w [] (fun r _=>r=.bool true):=by
 obtain ⟨es,ds,ep,ec,dp,dc⟩:=a
 obtain ⟨es2,ds2,ep2,ec2,dp2,dc2⟩:=b
 dsimp only at he hd
 subst he hd
 refine enter Tryz.func49 ?_
 refine run ?_
 intro B C
 refine az ?_
 refine ax (fun wc hG=>GZ es _ _ (h1.good hG) (h3.good hG)) ?_
 refine az ?_
 refine aZ (fun _ wc hG=>Jp ds _ _ (h2.good hG) (h4.good hG)) ?_
 refine az ?_
 exact fin1 rfl
end
section
theorem Qi {P:Program} {n:Nat} {w0:World} {mu:List Nat} {all:Array Oper} {lf:Fm} {hp hp':Hp} {o:Oper} {v:Value} (h:pz P n w0 mu all lf hp o v) (hp2:hp.Perm hp'):pz P n w0 mu all lf hp' o v:=by
 have go:∀ {u:Value},Hy P n w0 mu lf hp o u→Hy P n w0 mu lf hp' o u:=fun hy a w hk hG K Q hK=>hy a w hk (hG.perm hp2) K Q fun w' hG'=>hK w' (hG'.perm hp2.symm)
 unfold pz at h ⊢
 cases hg:o.guard with
 | none=>rw [hg] at h;exact go h
 | some jw=>
  obtain ⟨j,want⟩:=jw
  rw [hg] at h
  obtain ⟨dj,c0,b,u,h1,h2,h3,h4,h5⟩:=h
  exact ⟨dj,c0,b,u,h1,h2,h3,fun a b=>go (h4 a b),h5⟩
def EoW (P:Program) (n:Nat) (w0:World) (mu:List Nat) (all:Array Oper) (lf:Fm) (hi rest:Hp) (o:Oper) (R:RT):Prop:=
 (∀ a,Knows n lf a→Region.wanted o (yielded all a.tmps)=true)∧∀ a w hx,Knows n lf a→Good w0 mu (hx++(hi++rest)) w→∀ (K:Act→World→Prop) (Q:Exit→Act→World→Prop),(∀ v hn w',R v hn→Good w0 mu (hn++(hx++rest)) w'→K (a.put o.dst v) w')→o.wp P a w K Q
def hbW (i0:Nat) (hi rest:Hp) (listed:Array Bool):Hp:=bif listed.getD i0 false then rest else hi++rest
def xX (P:Program) (n:Nat) (w0:World) (mu:List Nat) (all:Array Oper) (ds:List (Nat × Nat)) (l:Fm) (i0:Nat) (hi rest:Hp) (iv:Fm) (X:List (Nat × RT)→Prop):List Nat→List (Nat × RT)→Prop
 | [],Rs=>X Rs
 | i::E,Rs=>∃ o R,all[i]?=some o∧((i ≠ i0→wL P n w0 mu all (aA ds iv o.after.toList++l) rest o R)∧(i=i0→EoW P n w0 mu all (aA ds iv o.after.toList++l) hi rest o R))∧(∃ v hn,R v hn)∧xX P n w0 mu all ds l i0 hi rest iv X E ((i,R)::Rs)
section
variable {P : Program} {n : Nat} {w0 : World} {mu : List Nat} {l : Fm} {hi rest : Hp} {i0 : Nat} {Q : Exit → Fm → Hp → Prop} {all : Array Oper} {kd : Nat → Kd} {val : Ch → Nat → Value} {k : Nat} {ds : List (Nat × Nat)}
theorem MS {iv:Fm} {X Y:List (Nat × RT)→Prop}:∀ (E:List Nat) (Rs:List (Nat × RT)) (Ir:∀ zQ,zQ.map (·.1)=E.reverse++Rs.map (·.1)→X zQ→Y zQ),xX P n w0 mu all ds l i0 hi rest iv X E Rs→xX P n w0 mu all ds l i0 hi rest iv Y E Rs:=by
 intro E
 induction E with
 | nil=>intro Rs Ir h;exact Ir Rs av4 h
 | cons i E ih=>
  rintro Rs Ir ⟨o,R,ho,hy,hn,h⟩
  exact ⟨o,R,ho,hy,hn,ih _ (fun zQ e=>Ir zQ (by rw [e];simp)) h⟩
theorem Qj {iv:Fm} {X:List (Nat × RT)→Prop}:∀ (E:List Nat) (Rs:List (Nat × RT)),E.Nodup→(∀ i∈E,lk Rs i=none)→xX P n w0 mu all ds l i0 hi rest iv X E Rs →
  (∀ i R,(i,R)∈Rs→lk Rs i=some R∧∃ o,all[i]?=some o∧((i ≠ i0→wL P n w0 mu all (aA ds iv o.after.toList++l) rest o R)∧(i=i0→EoW P n w0 mu all (aA ds iv o.after.toList++l) hi rest o R))∧∃ v hn,R v hn) →
  ∃ RE,X RE∧(∀ i,(∃ R,lk RE i=some R)↔i∈E∨∃ R,lk Rs i=some R)∧∀ i R,(i,R)∈RE→lk RE i=some R∧∃ o,all[i]?=some o∧((i ≠ i0→wL P n w0 mu all (aA ds iv o.after.toList++l) rest o R)∧(i=i0→EoW P n w0 mu all (aA ds iv o.after.toList++l) hi rest o R))∧∃ v hn,R v hn:=by
 intro E
 induction E with
 | nil=>intro Rs _ _ h hs;exact ⟨Rs,h,fun i=>by simp,hs⟩
 | cons i E ih=>
  rintro Rs hnd hno ⟨o,R,ho,hy,yG,h⟩ hs
  rw [List.nodup_cons] at hnd
  have hi:=hno i (List.mem_cons_self ..)
  obtain ⟨RE,hX,hk,hs2⟩:=ih ((i,R)::Rs) hnd.2 (fun j hj=>by rw [bM,if_neg ay3];exact hno j (List.mem_cons_of_mem _ hj)) h (fun j R' hj=>by
   rcases List.mem_cons.1 hj with hj | hj
   ·cases hj
    exact ⟨by rw [bM,if_pos rfl],o,ho,hy,yG⟩
   ·obtain ⟨h1,h2⟩:=hs j R' hj
    refine ⟨?_,h2⟩
    rw [bM]
    by_cases hij:i=j
    ·subst hij;rw [hi] at h1;cases h1
    ·rw [if_neg hij];exact h1)
  refine ⟨RE,hX,fun j=>?_,hs2⟩
  rw [hk,List.mem_cons,bM]
  by_cases hij:i=j
  ·subst hij;simp
  ·rw [if_neg hij];simp [Ne.symm hij]
theorem Jq {ds:List (Nat × Nat)} (hds:∀ k d,lk ds k=some d→aQ all k=some d) {g:Nat} {Q':Exit→Act→World→Prop} (hk:k≤all.size) (hd:vz all k n=true) (hf:bu l (dstsOf all k)=true) (hback:lH all=true)
  (jF:i0<k) (Qk:qO (kd i0)=true)
  (hS:∀ i o v,i<k→all[i]?=some o→kd i=.s v→(∀ c,val c i=v)∧∃ bC,(∀ j u,look bC j=some u→j<k∧∀ c,val c j=u)∧∀ hx,pz P n w0 mu all (aA ds bC o.after.toList++l) (hx++(hi++rest)) o v)
  (ae7:∀ listed,HeadInv .any all k listed→listed.getD i0 false=true→∀ i v,i<k→kd i=.s v→listed.getD i false=true)
  (hE:∀ i o R,i<k→all[i]?=some o→kd i=.e R→(∀ c,val c i=(c i).1)∧∃ bC,(∀ j u,look bC j=some u→j<k∧∀ c,val c j=u)∧(i ≠ i0→wL P n w0 mu all (aA ds bC o.after.toList++l) rest o R)∧(i=i0→EoW P n w0 mu all (aA ds bC o.after.toList++l) hi rest o R))
  (hD:∀ c,Valid kd k c→∀ i o,i<k→all[i]?=some o→kd i=.d→∃ bC,(∀ j u,look bC j=some u→j<k∧val c j=u)∧zh P n w0 mu (aA ds bC o.after.toList++l) [] o (val c i))
  (htail:∀ f c listed,leftOf k listed=f→HeadInv .any all k listed→(∀ i,i<k→qO (kd i)=true→listed.getD i true=true)→∀ a w,sS n w0 mu all l rest kd val k c listed a w→wpAny P .any all Q' (f + g) listed a w)
  (jW:∀ listed,HeadInv .any all k listed→∀ i,i<k→qO (kd i)=true→listed.getD i true=false→∀ t,k≤t→t ∉ Region.ready .any all listed):
  ∀ f c listed a w,leftOf k listed=f→HeadInv .any all k listed→sS n w0 mu all l (hbW i0 hi rest listed) kd val k c listed a w→wpAny P .any all Q' (f + g) listed a w:=by
 intro f
 induction f with
 | zero=>
  intro c listed a w hlf inv hm
  have hall0:∀ i,i<k→listed.getD i true=true:=fun i hi=>by
   cases hc:listed.getD i true with
   | true=>rfl
   | false=>
   exfalso
   have:i∈(List.range k).filter fun i=>!listed.getD i true:=List.mem_filter.2 ⟨List.mem_range.2 hi,by simp only [hc,Bool.not_false]⟩
   have h2:=List.length_pos_of_mem this
   unfold leftOf at hlf
   omega
  have hl0:listed.getD i0 false=true:=by
   cases hc:listed.getD i0 false with
   | true=>rfl
   | false=>have h1:=hall0 i0 jF;rw [getD_in av7 hc] at h1;cases h1
  rw [hbW,hl0] at hm
  exact htail 0 c listed hlf inv (fun i hi _=>hall0 i hi) a w hm
 | succ f ih=>
  intro c listed a w hlf inv hm
  by_cases lN:∀ i,i<k→qO (kd i)=true→listed.getD i true=true
  ·have hl0:listed.getD i0 false=true:=by
    cases hc:listed.getD i0 false with
    | true=>rfl
    | false=>have h1:=lN i0 jF Qk;rw [getD_in av7 hc] at h1;cases h1
   rw [hbW,hl0] at hm
   exact htail (f + 1) c listed hlf inv lN a w hm
  obtain ⟨j0,Ze,ae8,hj0⟩:∃ i,i<k∧qO (kd i)=true∧listed.getD i true=false:=by
   refine Classical.byContradiction fun hno=>lN fun i hi he=>?_
   cases hc:listed.getD i true with
   | true=>rfl
   | false=>exact absurd ⟨i,hi,he,hc⟩ hno
  rw [show f + 1 + g=(f + g) + 1 by omega]
  refine ⟨fun hnil=>?_,fun i VQ=>?_⟩
  ·exfalso
   obtain ⟨i,⟨hik,hil⟩,hmin⟩:=exists_least (p:=fun i=>i<k∧listed.getD i true=false) ⟨j0,Ze,hj0⟩
   have hr:i∈Region.ready .any all listed:=by
    rw [mem_ready]
    have hs:i<all.size:=by omega
    refine ⟨hil,all[i],by simp [hs],fun e he hb=>?_⟩
    have hb2:=List.all_eq_true.1 hback i (List.mem_range.2 hs)
    simp only [Array.getElem?_eq_getElem hs] at hb2
    have hb3:=(Array.all_eq_true_iff_forall_mem.1 hb2) e he
    simp only [hb,Bool.not_true,Bool.false_or,Nat.blt_eq] at hb3
    cases hc:listed.getD e.on false with
    | true=>rfl
    | false=>
     have h5:=hmin e.on ⟨by omega,getD_in av7 hc⟩
     omega
   rw [hnil] at hr;cases hr
  ·have hik:i<k:=by
    rcases Nat.lt_or_ge i k with h | h
    ·exact h
    ·exact absurd VQ (jW listed inv j0 Ze ae8 hj0 i h)
   obtain ⟨hun,o,ho,hall⟩:=mem_ready.1 VQ
   have hsz:i<listed.size:=by rw [inv.size];omega
   have hself:∀ j,j<k→listed.getD j false=true→qO (kd j)=true→c j=c j:=fun _ _ _ _=>rfl
   have hgo:∀ c2 a' w',sS n w0 mu all l (hbW i0 hi rest (listed.setIfInBounds i true)) kd val k c2 (listed.setIfInBounds i true) a' w'→wpAny P .any all Q' (f + g) (listed.setIfInBounds i true) a' w':=fun c2 a' w' h=>
    ih c2 _ _ _ ax0 (inv.set VQ hik) h
   have uf:Good w0 mu [] w:=hm.good.sub (List.nil_sublist _)
   have hsame:i ≠ i0→hbW i0 hi rest (listed.setIfInBounds i true)=hbW i0 hi rest listed:=fun hne=>by rw [hbW,hbW,getD_set_ne false hne]
   have Ue:∃ x,hbW i0 hi rest listed=x++rest:=by
    rw [hbW];cases listed.getD i0 false with
    | true=>exact ⟨[],rfl⟩
    | false=>exact ⟨hi,rfl⟩
   unfold wpOp
   simp only [ho]
   cases hkd:kd i with
   | s v=>
    obtain ⟨pq,bC,hiv,hy⟩:=hS i o v hik ho hkd
    have hkn:=dF (i:=i) hds hm hm.valid hself (fun j u hu=>⟨(hiv j u hu).1,(hiv j u hu).2 c⟩) hall
    have hE0:qO (kd i)=false:=by rw [hkd];rfl
    have hne:i ≠ i0:=fun e=>by rw [e,Qk] at hE0;cases hE0
    rw [hsame hne] at hgo
    have hnext:∀ w',Good w0 mu (iY kd c listed k++hbW i0 hi rest listed) w'→wpAny P .any all Q' (f + g) (listed.setIfInBounds i true) (a.put o.dst v) w':=fun w' hG'=>
     hgo c _ _ (iJ hm ho hik hun hsz hd hf hm.valid (fun _ _=>rfl) aA5 (fun c' _ _=>pq c'))
    obtain ⟨hx,h3,hpx⟩:∃ hx,pz P n w0 mu all (aA ds bC o.after.toList++l) hx o v∧hx=iY kd c listed k++hbW i0 hi rest listed:=by
     have ht0:listed.getD i0 false=false:=by
      cases hc:listed.getD i0 false with
      | false=>rfl
      | true=>have:=ae7 listed inv hc i v hik hkd;rw [getD_both hun] at this;cases this
     exact ⟨_,hy (iY kd c listed k),by rw [hbW,ht0];rfl⟩
    subst hpx
    unfold pz at h3
    cases hg:o.guard with
    | none=>
     rw [hg] at h3
     rw [if_pos aw2]
     exact .inl (h3 a w hkn hm.good _ _ hnext)
    | some jw=>
     obtain ⟨j,want⟩:=jw
     rw [hg] at h3
     obtain ⟨dj,c0,b,u,hj,hb,hdj,hy,hvv⟩:=h3
     have hw:=gY hkn hg hj hb hdj
     cases hc:(c0 && jg b want) with
     | true=>
      rw [hc] at hw hvv
      rw [if_pos hw]
      rw [Bool.and_eq_true] at hc
      rw [show v=u from hvv] at hnext
      exact .inl (hy hc.1 hc.2 a w hkn hm.good _ _ hnext)
     | false=>
      rw [hc] at hw hvv
      rw [if_neg ax7]
      rw [show v=undef from hvv] at hnext
      exact hnext w hm.good
   | e R=>
    obtain ⟨pq,bC,hiv,hEr,hEw⟩:=hE i o R hik ho hkd
    have hkn:=dF (i:=i) hds hm hm.valid hself (fun j u hu=>⟨(hiv j u hu).1,(hiv j u hu).2 c⟩) hall
    have hfin:∀ {hb:Hp} (hmb:sS n w0 mu all l hb kd val k c listed a w) (v:Value) (hn:Hp) (w':World),R v hn→Good w0 mu (hn++(iY kd c listed k++hb)) w'→sS n w0 mu all l hb kd val k (fun t=>if t=i then (v,hn) else c t) (listed.setIfInBounds i true) (a.put o.dst v) w':=fun {hb} hmb v hn w' hR hG'=>by
     refine iJ hmb ho hik hun hsz hd hf ?_ (fun j hj=>by simp [hj]) ?_ ?_
     ·intro j hj R' hR'
      by_cases hji:j=i
      ·subst hji
       rw [hkd] at hR'
       cases hR'
       simpa using hR
      ·simp only [hji,if_false]
       exact hm.valid j hj R' hR'
     ·refine hG'.perm ?_
      rw [← List.append_assoc]
      exact (xw az5 hun hsz k hik).symm.append_right _
     ·intro c' hc' hag
      rw [pq c',hag i hik (by simp [hsz]) az5]
      simp
    by_cases hne:i=i0
    ·obtain ⟨hg,hy⟩:=hEw hne
     have hl0:listed.getD i0 false=false:=by rw [← hne];exact getD_both hun
     have hb0:hbW i0 hi rest listed=hi++rest:=by rw [hbW,hl0];rfl
     have hb1:hbW i0 hi rest (listed.setIfInBounds i true)=rest:=by
      rw [hbW,← hne,show (listed.setIfInBounds i true).getD i false=true by simp [hsz]];rfl
     rw [hb1] at hgo
     have hgd:=hm.good
     rw [hb0] at hgd
     have hmr:sS n w0 mu all l rest kd val k c listed a w:=⟨hm.size,hm.defers,hm.has,hm.valid,hgd.sub (List.Sublist.append (List.Sublist.refl _) (List.sublist_append_right _ _)),hm.done⟩
     rw [if_pos (hg _ hkn)]
     exact .inl (hy a w _ hkn hgd _ _ fun v hn w' hR hG'=>hgo _ _ _ (hfin hmr v hn w' hR hG'))
    ·obtain ⟨hg,hy⟩:=hEr hne
     rw [hsame hne] at hgo
     obtain ⟨x,hxe⟩:=Ue
     rw [if_pos (hg _ hkn)]
     have hgd:=hm.good
     rw [hxe,← List.append_assoc] at hgd
     exact .inl (hy a w _ hkn hgd _ _ fun v hn w' hR hG'=>hgo _ _ _ (hfin hm v hn w' hR (by rw [hxe];simpa only [List.append_assoc] using hG')))
   | d=>
    obtain ⟨bC,hiv,hg,hy⟩:=hD c hm.valid i o hik ho hkd
    have hE0:qO (kd i)=false:=by rw [hkd];rfl
    have hne:i ≠ i0:=fun e=>by rw [e,Qk] at hE0;cases hE0
    rw [hsame hne] at hgo
    have hkn:=dF (i:=i) hds hm hm.valid hself hiv hall
    have hrun:=hy a w hkn uf
    rw [if_pos aw2]
    refine .inl ?_
    unfold Oper.wp
    rw [hrun]
    refine hgo c _ _ (iJ hm ho hik hun hsz hd hf hm.valid (fun _ _=>rfl) az9 (fun c' hc' hag=>?_))
    obtain ⟨jl,qV,hg2,hy2⟩:=hD c' hc' i o hik ho hkd
    have hag':∀ j,j<k→listed.getD j false=true→qO (kd j)=true→c' j=c j:=fun j hj hl he=>hag j hj (getD_set_true hl) he
    have hrun2:=hy2 a w (dF (i:=i) hds hm hc' hag' qV hall) uf
    rw [hrun] at hrun2
    simp only [Result.ok.injEq,Next.value.injEq,and_true] at hrun2
    exact hrun2.symm
def VR (all:Array Oper) (i0:Nat) (S:List Nat):Bool:=S.all fun i=>Region.waitsFor .any all i0 i || S.any fun j=>Nat.blt i j && Region.waitsFor .any all j i
theorem Uf {S:List Nat} {listed:Array Bool} (h:VR all i0 S=true) (inv:HeadInv .any all k listed) (h0:listed.getD i0 false=true):∀ i∈S,listed.getD i false=true:=by
 have go:∀ d i,S.foldr max 0<i + d→i∈S→listed.getD i false=true:=by
  intro d
  induction d with
  | zero=>
   intro i hlt hi
   exfalso
   have:∀ (L:List Nat),i∈L→i≤L.foldr max 0:=by
    intro L
    induction L with
    | nil=>intro h;cases h
    | cons x r ih=>
     intro h
     rw [List.foldr_cons]
     rcases List.mem_cons.1 h with rfl | h
     ·exact Nat.le_max_left ..
     ·exact Nat.le_trans (ih h) (Nat.le_max_right ..)
   have:=this S hi
   omega
  | succ d ih=>
   intro i hlt hi
   have h1:=List.all_eq_true.1 h i hi
   rw [Bool.or_eq_true] at h1
   rcases h1 with h1 | h1
   ·obtain ⟨oj,h6,e,he,hb,heq⟩:=Region.waitsFor_spec h1
    rw [← heq]
    exact inv.closed i0 oj h6 h0 e he hb
   ·obtain ⟨j,hj,h2⟩:=List.any_eq_true.1 h1
    rw [Bool.and_eq_true] at h2
    have hij:i<j:=by simpa using h2.1
    have h3:=ih j au' hj
    obtain ⟨oj,h6,e,he,hb,heq⟩:=Region.waitsFor_spec h2.2
    rw [← heq]
    exact inv.closed j oj h6 h3 e he hb
 exact fun i hi=>go (S.foldr max 0 + 1) i au' hi
def xY (ops:Array Oper) (n k i0:Nat) (S E D D2 C:List Nat):Bool:=
 match C with
 | []=>false
 | t0::_=>(mem E i0 && VR ops i0 S) && (decide (k≤ops.size) && vz ops k n && pG ops ops.size n && lH ops && nJ ops.size (S++E++D++D2) C && nT ops C && (S.all fun j=>Region.waitsFor .any ops t0 j) && (E.all fun j=>Region.waitsFor .any ops t0 j) && (D2++C).all (fun j=>Nat.ble k j) &&
  ((List.range ops.size).all fun i=>(aQ ops i).isSome || Nat.beq i t0 || Region.waitsFor .any ops i t0) &&
  ((List.range ops.size).all fun i=>Nat.blt i k || (E.all fun j=>Region.waitsFor .any ops i j) || (List.range ops.size).any fun j=>Nat.ble k j && Region.waitsFor .any ops i j))
end
section
variable {P : Program} {n : Nat} {w0 : World} {mu : List Nat} {l : Fm} {hp : Hp} {Q : Exit → Fm → Hp → Prop} {ds : List (Nat × Nat)}
theorem Jr {ops:List Oper} (k i0:Nat) (hi rest:Hp) (S E D D2 C:List Nat) (hB:xY ops.toArray n k i0 S E D D2 C=true) (hperm:(hi++rest).Perm hp) (hf:bu l (dstsOf ops.toArray ops.toArray.size)=true) (hf1:bu l (dstsOf ops.toArray k)=true) (hsp:splitB k S E D=true) (hds:bP ops 0=ds)
  (h:iH P n w0 mu ops.toArray ds l hp (fun aG=>xX P n w0 mu ops.toArray ds l i0 hi rest aG (fun Rs=>∀ c,zx c Rs→fK P n w0 mu ops.toArray ds l [] (fun Gx=>fK P n w0 mu ops.toArray ds l [] (fun jl=>fA P n w0 mu ops.toArray ds l [] jl (fun aN hc=>Ops P n w0 mu ops.toArray [] (aY ds (aN++jl)++l) hc Q) C [] (sZ E c k++rest)) D2 Gx) D (sJ c Rs++aG)) E []) S []):lq P n w0 mu ops.toArray l hp Q:=by
 intro a w hk hG
 replace hG:=hG.perm hperm
 simp only [splitB,Bool.and_eq_true,decide_eq_true_eq] at hsp
 obtain ⟨⟨⟨_,hnd⟩,hlt⟩,hcov⟩:=hsp
 have hlt':∀ i∈S++E++D,i<k:=fun i hi=>by have:=List.all_eq_true.1 hlt i hi;simpa using this
 have lu:∀ i,i<k→i∈S∨i∈E∨i∈D:=fun i hi=>by
  have:=bV (List.all_eq_true.1 hcov i (List.mem_range.2 hi))
  simpa [or_assoc] using this
 rw [List.append_assoc,List.nodup_append] at hnd
 obtain ⟨wz,ug,O5⟩:=hnd
 rw [List.nodup_append] at ug
 obtain ⟨yH,Ej,WE⟩:=ug
 obtain ⟨aG,h2,Gj,nP,hsS⟩:=zN S [] wz (fun _ _=>rfl) (fun _ _ h=>by cases h) h (fun i v hv=>by cases hv)
 obtain ⟨Rs,h3,nR,hsE⟩:=Qj E [] yH (fun _ _=>rfl) h2 (fun i R hR=>by cases hR)
 simp only [lk,reduceCtorEq,exists_false,or_false] at nP nR
 have yx:∀ i R,lk Rs i=some R→lk aG i=none:=fun i R hR=>by
  cases hv:lk aG i with
  | none=>rfl
  | some v=>exact absurd rfl (O5 i ((nP i).1 ⟨v,hv⟩) i (List.mem_append_left _ ((nR i).1 ⟨R,hR⟩)))
 let kd:Nat→Kd:=fun i=>match lk Rs i with | some R=>.e R | none=>match lk aG i with | some v=>.s v | none=>.d
 have jB:∀ i R,kd i=.e R↔lk Rs i=some R:=fun i R=>by
  show (match lk Rs i with | some R=>Kd.e R | none=>match lk aG i with | some v=>.s v | none=>.d)=_↔_
  cases lk Rs i with
  | some R'=>simp
  | none=>cases lk aG i<;>simp
 have zy:∀ i v,kd i=.s v→lk Rs i=none∧lk aG i=some v:=fun i v=>by
  show (match lk Rs i with | some R=>Kd.e R | none=>match lk aG i with | some v=>.s v | none=>.d)=_→_
  cases lk Rs i with
  | some R'=>simp
  | none=>cases lk aG i<;>simp
 have I4:∀ i,kd i=.d→lk Rs i=none∧lk aG i=none:=fun i=>by
  show (match lk Rs i with | some R=>Kd.e R | none=>match lk aG i with | some v=>.s v | none=>.d)=_→_
  cases lk Rs i with
  | some R'=>simp
  | none=>cases lk aG i<;>simp
 have Ap:∀ i R,lk Rs i=some R→(i,R)∈Rs:=fun i R h=>iP h
 have hvalid:∀ c,Valid kd k c→zx c Rs:=fun c hc=>xx Rs fun p hp=>by
  obtain ⟨i,R⟩:=p
  have h1:=(hsE i R hp).1
  exact hc i (hlt' i (List.mem_append_left _ (List.mem_append_right _ ((nR i).1 ⟨R,h1⟩)))) R ((jB i R).2 h1)
 have hex:∀ c,Valid kd k c→∃ tq,fK P n w0 mu ops.toArray ds l [] (fun jl=>fA P n w0 mu ops.toArray ds l [] jl (fun aN hc=>Ops P n w0 mu ops.toArray [] (aY ds (aN++jl)++l) hc Q) C [] (sZ E c k++rest)) D2 tq∧Uq tq∧lG (sJ c Rs++aG) tq∧(∀ i,(∃ v,lk tq i=some v)↔i∈D∨∃ v,lk (sJ c Rs++aG) i=some v)∧∀ i v,lk tq i=some v→lk (sJ c Rs++aG) i=some v∨∃ o bC,ops.toArray[i]?=some o∧lG bC tq∧zh P n w0 mu (aA ds bC o.after.toList++l) [] o v:=fun c hc=>
  qW D (sJ c Rs++aG) Ej (fun i hi=>by
   rw [dw]
   have e1:lk Rs i=none:=by
    cases hR:lk Rs i with
    | none=>rfl
    | some R=>exact absurd rfl (WE i ((nR i).1 ⟨R,hR⟩) i hi)
   rw [e1]
   cases hv:lk aG i with
   | none=>rfl
   | some v=>exact absurd rfl (O5 i ((nP i).1 ⟨v,hv⟩) i (List.mem_append_right _ hi))) (fun i v hv=>by
   rw [dw]
   rcases List.mem_append.1 hv with hv | hv
   ·obtain ⟨rfl,R,hR⟩:=uQ Rs hv
    rw [(hsE i R hR).1]
   ·have h1:=Gj i v hv
    cases hR:lk Rs i with
    | none=>exact h1
    | some R=>rw [yx i R hR] at h1;cases h1) (fun _ _ h=>h) (h3 c (hvalid c hc)) (fun i v hv=>.inl hv)
 have hch:∃ F:Ch→Fm,∀ c,Valid kd k c→fK P n w0 mu ops.toArray ds l [] (fun jl=>fA P n w0 mu ops.toArray ds l [] jl (fun aN hc=>Ops P n w0 mu ops.toArray [] (aY ds (aN++jl)++l) hc Q) C [] (sZ E c k++rest)) D2 (F c)∧Uq (F c)∧lG (sJ c Rs++aG) (F c)∧(∀ i,(∃ v,lk (F c) i=some v)↔i∈D∨∃ v,lk (sJ c Rs++aG) i=some v)∧∀ i v,lk (F c) i=some v→lk (sJ c Rs++aG) i=some v∨∃ o bC,ops.toArray[i]?=some o∧lG bC (F c)∧zh P n w0 mu (aA ds bC o.after.toList++l) [] o v:=by
  classical
  refine ⟨fun c=>if hc:Valid kd k c then Classical.choose (hex c hc) else [],fun c hc=>?_⟩
  simp only [hc,dif_pos]
  exact Classical.choose_spec (hex c hc)
 obtain ⟨F,hF⟩:=hch
 let val:Ch→Nat→Value:=fun c i=>match kd i with | .s v=>v | .e _=>(c i).1 | .d=>(lk (F c) i).getD undef
 have oN:∀ c,Valid kd k c→∀ i v,lk (F c) i=some v→val c i=v:=fun c hc i v hv=>by
  obtain ⟨_,_,hmo,_,_⟩:=hF c hc
  show (match kd i with | .s v=>v | .e _=>(c i).1 | .d=>(lk (F c) i).getD undef)=v
  cases hkd:kd i with
  | s u=>
   obtain ⟨e1,e2⟩:=zy i u hkd
   have:=hmo i u aA6
   rw [hv] at this;cases this;rfl
  | e R=>
   have e1:=(jB i R).1 hkd
   have:=hmo i (c i).1 (by rw [dw,e1])
   rw [hv] at this;cases this;rfl
  | d=>rw [hv];rfl
 have qE:∀ c,Valid kd k c→∀ i,i<k→∃ v,lk (F c) i=some v:=fun c hc i hi=>by
  obtain ⟨_,_,_,hkk,_⟩:=hF c hc
  rw [hkk i]
  rcases lu i hi with h | h | h
  ·obtain ⟨v,hv⟩:=(nP i).2 h
   right
   rw [dw]
   cases lk Rs i with
   | some R=>exact ⟨_,rfl⟩
   | none=>exact ⟨v,hv⟩
  ·obtain ⟨R,hR⟩:=(nR i).2 h
   right
   rw [dw,hR]
   exact ⟨_,rfl⟩
  ·exact .inl h
 have jK:∀ i v,lk aG i=some v→i<k∧∀ c,val c i=v:=fun i v hv=>by
  refine ⟨hlt' i (List.mem_append_left _ (List.mem_append_left _ ((nP i).1 ⟨v,hv⟩))),fun c=>?_⟩
  show (match kd i with | .s v=>v | .e _=>(c i).1 | .d=>(lk (F c) i).getD undef)=v
  have:kd i=.s v:=by
   show (match lk Rs i with | some R=>Kd.e R | none=>match lk aG i with | some v=>.s v | none=>.d)=_
   cases hR:lk Rs i with
   | some R=>rw [yx i R hR] at hv;cases hv
   | none=>rw [hv]
  rw [this]
 cases C with
 | nil=>simp [xY] at hB
 | cons t0 C'=>
 simp only [xY,Bool.and_eq_true,decide_eq_true_eq] at hB
 obtain ⟨⟨Xk,ae9⟩,⟨⟨⟨⟨⟨⟨⟨⟨⟨hks,hd⟩,Y4⟩,hback⟩,pI⟩,dU⟩,hSt⟩,hEt⟩,hge⟩,qf⟩,hwt⟩:=hB
 have Qk:=bV Xk
 have jF:=hlt' i0 (List.mem_append_left _ (List.mem_append_right _ Qk))
 have hSl:∀ listed,HeadInv .any ops.toArray k listed→listed.getD i0 false=true→∀ i∈S,listed.getD i false=true:=fun listed inv h=>Uf ae9 inv h
 have Zf:∀ listed,HeadInv .any ops.toArray k listed→listed.getD i0 false=true→∀ i v,i<k→kd i=.s v→listed.getD i false=true:=fun listed inv h i v _ hkd=>hSl listed inv h i ((nP i).1 ⟨v,(zy i v hkd).2⟩)
 simp only [nJ,Bool.and_eq_true,decide_eq_true_eq] at pI
 obtain ⟨⟨PV,PW⟩,Gy⟩:=pI
 have AQ:∀ j,j∈D2++t0::C'→k≤j:=fun j hj=>by have:=List.all_eq_true.1 hge j hj;simpa using this
 have jR:∀ i d,lk ds i=some d→aQ ops.toArray i=some d:=fun i d h=>by rw [← hds] at h;have:=(jb ops 0 i d h).2;simpa [aQ] using this
 have yG:∃ c0:Ch,Valid kd k c0:=by
  have h1:∀ i,∃ x:Value × Hp,∀ R,kd i=.e R→R x.1 x.2:=fun i=>by
   cases hR:lk Rs i with
   | none=>exact ⟨(undef,[]),fun R h=>by rw [(jB i R).1 h] at hR;cases hR⟩
   | some R=>
    obtain ⟨_,o,_,_,v,hn,hv⟩:=hsE i R (Ap i R hR)
    exact ⟨(v,hn),fun R' h=>by rw [(jB i R').1 h] at hR;cases hR;exact hv⟩
  exact ⟨fun i=>Classical.choose (h1 i),fun i hi R hR=>Classical.choose_spec (h1 i) R hR⟩
 obtain ⟨c0,hc0⟩:=yG
 have inv0:HeadInv .any ops.toArray k (Array.replicate ops.toArray.size false):=
  ⟨by simp,fun j oj _ hl=>av6,fun t _ ht=>getD_in ay4 (getD_replicate_false _ _)⟩
 have hleft:leftOf k (Array.replicate ops.toArray.size false)=k:=by
  unfold leftOf
  rw [List.filter_eq_self.2]
  ·simp
  ·intro i hi
   have hi':i<k:=by simpa using hi
   have:(Array.replicate ops.toArray.size false).getD i true=false:=getD_in ay5 (getD_replicate_false _ _)
   simp only [this,Bool.not_false]
 have I5:∀ m,iY kd c0 (Array.replicate ops.toArray.size false) m=[]:=by
  intro m
  induction m with
  | zero=>rfl
  | succ m ih=>simp only [iY,ih,kH,getD_replicate_false,Bool.and_false,cond_false,List.append_nil]
 have sU:∀ i,i<k→qO (kd i)=mem E i:=fun i hi=>by
  cases hkd:kd i with
  | e R=>rw [mem_of ((nR i).1 ⟨R,(jB i R).1 hkd⟩)];rfl
  | s v=>
   cases hmm:mem E i with
   | false=>rfl
   | true=>obtain ⟨R,hR⟩:=(nR i).2 (bV hmm);rw [(jB i R).2 hR] at hkd;cases hkd
  | d=>
   cases hmm:mem E i with
   | false=>rfl
   | true=>obtain ⟨R,hR⟩:=(nR i).2 (bV hmm);rw [(jB i R).2 hR] at hkd;cases hkd
 have key:=Jq jR (P:=P) (n:=n) (w0:=w0) (mu:=mu) (l:=l) (hi:=hi) (rest:=rest) (i0:=i0) (all:=ops.toArray) (kd:=kd) (val:=val) (k:=k) (g:=ops.toArray.size - k) (Q':=QQ n w0 mu Q) hks hd hf1 hback jF (by rw [sU i0 jF];exact Xk)
  (fun i o v hi ho hkd=>by
   obtain ⟨e1,e2⟩:=zy i v hkd
   obtain ⟨o',bC,h1,h2,h3⟩:=hsS i v e2
   rw [ho] at h1;cases h1
   exact ⟨(jK i v e2).2,bC,fun j u hu=>jK j u (h2 j u aw4),fun hx=>Qi (h3 hx) (hperm.symm.append_left _)⟩)
  Zf
  (fun i o R hi ho hkd=>by
   have e1:=(jB i R).1 hkd
   obtain ⟨_,o',h1,h2,_⟩:=hsE i R (Ap i R e1)
   rw [ho] at h1;cases h1
   refine ⟨fun c=>?_,aG,fun j u hu=>jK j u aw4,h2⟩
   show (match kd i with | .s v=>v | .e _=>(c i).1 | .d=>(lk (F c) i).getD undef)=_
   rw [hkd])
  (fun c hcv i o hi ho hkd=>by
   obtain ⟨e1,e2⟩:=I4 i hkd
   obtain ⟨v,hv⟩:=qE c hcv i hi
   obtain ⟨_,_,_,_,hsp⟩:=hF c hcv
   rw [oN c hcv i v hv]
   rcases hsp i v hv with h0 | ⟨o',bC,h1,h2,h3⟩
   ·rw [dw,e1] at h0;rw [e2] at h0;cases h0
   ·rw [ho] at h1;cases h1
    refine ⟨bC,fun j u hu=>?_,h3⟩
    have hj:=h2 j u aw4
    refine ⟨?_,oN c hcv j u hj⟩
    obtain ⟨_,_,_,hkk,_⟩:=hF c hcv
    rcases (hkk j).1 ⟨u,hj⟩ with h | ⟨v',h⟩
    ·exact hlt' j (List.mem_append_right _ h)
    ·rw [dw] at h
     cases hR:lk Rs j with
     | some R=>exact hlt' j (List.mem_append_left _ (List.mem_append_right _ ((nR j).1 ⟨R,hR⟩)))
     | none=>rw [hR] at h;exact (jK j v' h).1)
  (fun f c listed hlf inv lN a w hmid=>?_)
  (fun listed inv i hi hie hun t ht=>?_)
  k c0 _ a { w with drawn:=w.drawn + 1 } hleft inv0 ⟨hk.size,hk.defers,hk.has,hc0,by rw [I5,hbW,getD_replicate_false];exact hG.drawn _,fun i _ hl=>av6⟩
 ·have e:k + (ops.toArray.size - k)=ops.toArray.size:=by omega
  rw [e] at key
  exact key
 ·obtain ⟨hX,WG,hmo,hkk,hsp1⟩:=hF c hmid.valid
  have PX:∀ i v,lk (F c) i=some v→i<k:=fun i v hv=>by
   rcases (hkk i).1 ⟨v,hv⟩ with h | ⟨v',h⟩
   ·exact hlt' i (List.mem_append_right _ h)
   ·rw [dw] at h
    cases hR:lk Rs i with
    | some R=>exact hlt' i (List.mem_append_left _ (List.mem_append_right _ ((nR i).1 ⟨R,hR⟩)))
    | none=>rw [hR] at h;exact (jK i v' h).1
  have zi:=PV
  rw [List.nodup_append,List.nodup_append] at zi
  obtain ⟨⟨_,Gz,Y5⟩,yR,Y6⟩:=zi
  obtain ⟨jl,hY,hu2,xJ,AU,hsp2⟩:=qW (base:=F c) D2 (F c) Gz (fun i hi=>by
   cases hv:lk (F c) i with
   | none=>rfl
   | some v=>
    have h1:=PX i v hv
    have h2:=AQ i (List.mem_append_left _ hi)
    omega) WG (fun _ _ h=>h) hX (fun i v hv=>.inl hv)
  have uA:∀ j,k≤j→j<ops.toArray.size→listed.getD j true=false:=fun j h1 h2=>inv.tail j h1 h2
  have uB:∀ i∈(S++E++D++D2)++t0::C',i<ops.toArray.size:=fun i hi=>by have:=List.all_eq_true.1 PW i hi;simpa using this
  have qV:∀ i v,lk jl i=some v→i<ops.toArray.size:=fun i v hv=>by
   rcases (AU i).1 ⟨v,hv⟩ with h | ⟨v',h⟩
   ·exact uB i (List.mem_append_left _ (List.mem_append_right _ h))
   ·have:=PX i v' h;omega
  have invK:HeadInv .any ops.toArray ops.toArray.size listed:=⟨inv.size,inv.closed,fun t h1 h2=>by omega⟩
  have PY:leftOf ops.toArray.size listed=f + (ops.toArray.size - k):=by rw [uz hks uA,hlf]
  have hbe:∀ m,m≤k→iY kd c listed m=sZ E c m:=by
   intro m
   induction m with
   | zero=>intro _;rfl
   | succ m ih=>
    intro hm
    simp only [iY,sZ,kH]
    rw [ih au',sU m au']
    cases hme:mem E m with
    | false=>rfl
    | true=>
     have h1:=lN m au' aA4
     have h2:listed.getD m false=true:=by
      cases hcc:listed.getD m false with
      | true=>rfl
      | false=>rw [getD_in av7 hcc] at h1;cases h1
     rw [h2];rfl
  have hgood:Good w0 mu (sZ E c k++rest) w:=by rw [← hbe k (Nat.le_refl _)];exact hmid.good
  have GG:nK n w0 mu ops.toArray l jl [] (sZ E c k++rest) listed a w:=by
   refine ⟨hmid.size,hmid.defers,hmid.has,hgood,fun i v hv hl d hdd=>?_,fun i v hv=>by cases hv⟩
   have hik:i<k:=by
    rcases Nat.lt_or_ge i k with h | h
    ·exact h
    ·have h1:=uA i h (qV i v hv)
     rw [getD_both h1] at hl;cases hl
   obtain ⟨v',hv'⟩:=qE c hmid.valid i hik
   have h1:=xJ i v' hv'
   rw [hv] at h1;cases h1
   rw [hmid.done i hik hl c hmid.valid (fun _ _ _ _=>rfl) d hdd]
   exact oN c hmid.valid i v hv'
  have PZ:=wE jR (P:=P) (n:=n) (w0:=w0) (mu:=mu) (l:=l) (hp:=rest) (h0:=[]) (all:=ops.toArray) (aG:=jl) (k:=ops.toArray.size) (t0:=t0) (g:=0) (Q':=QQ n w0 mu Q) (X:=fun aN hc=>Ops P n w0 mu ops.toArray [] (aY ds (aN++jl)++l) hc Q) (dn:=fun i=>mem E i || mem S i) (Nat.le_refl _) Y4 hf hback (bU fun b=>by simp [mg])
   (fun i hi hdn=>by
    have:=List.all_eq_true.1 qf i (List.mem_range.2 hi)
    rw [hdn] at this
    simp only [Option.isSome_none,Bool.false_or,Bool.or_eq_true] at this
    rcases this with h | h
    ·exact .inl (Nat.eq_of_beq_eq_true h)
    ·exact .inr h)
   (fun i v hv=>⟨qV i v hv,fun hne=>?_⟩)
   (fun aN h listed inv hall hX a w hmid hEk=>?_)
   (fun listed inv i hi hun t ht hr=>by
    obtain ⟨_,o,ho,_⟩:=mem_ready.1 hr
    have:=(Array.getElem?_eq_some_iff.1 ho).1
    omega)
   (f + (ops.toArray.size - k)) (t0::C') [] (sZ E c k++rest) listed a w PY invK (fun i hi=>by
    simp only [Bool.or_eq_true] at hi
    rcases hi with hi | hi
    ·exact lN i (hlt' i (List.mem_append_left _ (List.mem_append_right _ (bV hi)))) aw'
    ·have hl0:=lN i0 jF (by rw [sU i0 jF];exact Xk)
     have hl1:listed.getD i0 false=true:=by
      cases hcc:listed.getD i0 false with
      | true=>rfl
      | false=>rw [getD_in av7 hcc] at hl0;cases hl0
     have h7:=hSl listed inv hl1 i (bV hi)
     cases hcc:listed.getD i true with
     | true=>rfl
     | false=>rw [getD_both hcc] at h7;cases h7) GG (fun i v hv=>by cases hv)
   (fun i hi=>⟨uB i (List.mem_append_right _ hi),uA i (AQ i (List.mem_append_right _ hi)) (uB i (List.mem_append_right _ hi)),?_⟩) yR dU (fun i hi hl=>?_) (bU fun b=>by simp [mg]) (fun _=>aF.right _ _) hY
  ·exact PZ
  ·rcases hsp2 i v hv with h0 | ⟨o,bC,h1,h2,h3⟩
   ·rcases hsp1 i v h0 with h0 | ⟨o,bC,h1,h2,h3⟩
    ·rw [dw] at h0
     cases hR:lk Rs i with
     | some R=>
      simp only [mem_of ((nR i).1 ⟨R,hR⟩),Bool.true_or] at hne;cases hne
     | none=>
      rw [hR] at h0
      obtain ⟨o,bC,h1,h2,h3⟩:=hsS i v h0
      refine ⟨o,bC,h1,fun j u hu=>?_,fun hx=>?_⟩
      ·refine xJ j u (hmo j u ?_)
       have h4:=h2 j u hu
       rw [dw]
       cases hR2:lk Rs j with
       | some R2=>rw [yx j R2 hR2] at h4;cases h4
       | none=>exact h4
      ·simp only [mem_of ((nP i).1 ⟨v,h0⟩),Bool.or_true] at hne;cases hne
    ·exact ⟨o,bC,h1,fun j u hu=>xJ j u (h2 j u hu),fun hx=>AP h3⟩
   ·exact ⟨o,bC,h1,h2,fun hx=>AP h3⟩
  ·have mG:Knows n (aY ds (aN++jl)++l) a:=by
    refine ⟨hmid.size,hmid.defers,fun t v ht=>?_⟩
    rcases dW ht with ht | ⟨_,ht⟩
    ·obtain ⟨j,h1,h2⟩:=ig (gm ht)
     rcases List.mem_append.1 h1 with h1 | h1
     ·exact (hmid.jZ j v h1).2 t (jR _ _ h2)
     ·have hj:=hu2 j v h1
      have hjk:=qV j v hj
      refine hmid.nU j v hj ?_ t (jR _ _ h2)
      have h5:=hall j hjk
      cases hcc:listed.getD j false with
      | true=>rfl
      | false=>rw [getD_in av7 hcc] at h5;cases h5
    ·exact hmid.has t v ht
   refine ⟨?_,hX a w mG hmid.good⟩
   rw [List.eq_nil_iff_forall_not_mem]
   intro i hi
   obtain ⟨hun,o,ho,_⟩:=mem_ready.1 hi
   rw [hall i (Array.getElem?_eq_some_iff.1 ho).1] at hun;cases hun
  ·cases hv:lk jl i with
   | none=>rfl
   | some v=>
    exfalso
    have h2:=AQ i (List.mem_append_right _ hi)
    rcases (AU i).1 ⟨v,hv⟩ with h | ⟨v',h⟩
    ·exact Y6 i (List.mem_append_right _ h) i hi rfl
    ·have:=PX i v' h;omega
  ·have h1:=bV (List.all_eq_true.1 Gy i (List.mem_range.2 hi))
   rcases List.mem_append.1 h1 with h1 | h1
   ·left
    rcases List.mem_append.1 h1 with h1 | h1
    ·obtain ⟨v,hv⟩:=qE c hmid.valid i (hlt' i h1)
     exact ⟨v,xJ i v hv⟩
    ·exact (AU i).2 (.inl h1)
   ·exact .inr h1
 ·intro hr
  obtain ⟨_,o,ho,hall⟩:=mem_ready.1 hr
  have hts:t<ops.toArray.size:=(Array.getElem?_eq_some_iff.1 ho).1
  have hwl:∀ j,Region.waitsFor .any ops.toArray t j=true→listed.getD j false=true:=fun j hj=>by
   obtain ⟨oj,h6,e,he,hb,heq⟩:=Region.waitsFor_spec hj
   rw [ho] at h6;cases h6
   rw [← heq];exact hall e he hb
  have h1:=List.all_eq_true.1 hwt t (List.mem_range.2 hts)
  simp only [Bool.or_eq_true] at h1
  rcases h1 with (h1 | h1) | h1
  ·have:t<k:=by simpa using h1
   omega
  ·have h2:=hwl i (List.all_eq_true.1 h1 i (bV (by rw [← sU i hi];exact hie)))
   rw [getD_both hun] at h2;cases h2
  ·obtain ⟨j,hj,h2⟩:=List.any_eq_true.1 h1
   rw [Bool.and_eq_true] at h2
   have h3:=hwl j h2.2
   rw [getD_both (inv.tail j (by simpa using h2.1) (List.mem_range.1 hj))] at h3;cases h3
theorem MV {ops:List Oper} (k i0:Nat) (hi rest:Hp) (S E D D2 C:List Nat) (hB:xY ops.toArray n k i0 S E D D2 C=true) (hperm:(hi++rest).Perm hp) (hf:bu l (dstsOf ops.toArray ops.toArray.size)=true) (hf1:bu l (dstsOf ops.toArray k)=true) (hsp:splitB k S E D=true) (hds:bP ops 0=ds)
  (h:iH P n w0 mu ops.toArray ds l hp (fun aG=>xX P n w0 mu ops.toArray ds l i0 hi rest aG (fun Rs=>DN (fun iv bl=>fK P n w0 mu ops.toArray ds l [] (fun Gx=>fK P n w0 mu ops.toArray ds l [] (fun jl=>fA P n w0 mu ops.toArray ds l [] jl (fun aN hc=>Ops P n w0 mu ops.toArray [] (aY ds (aN++jl)++l) hc Q) C [] (bl++rest)) D2 Gx) D (iv++aG)) Rs) E []) S []):lq P n w0 mu ops.toArray l hp Q:=by
 refine Jr k i0 hi rest S E D D2 C hB hperm hf hf1 hsp hds (xy (fun aG h2=>MS E [] (fun Rs e h3 c hc=>?_) h2) S [] h)
 have:=O7 Rs _ c h3 hc
 have he:sZ E c k=Iq c (Rs.map (·.1)):=by
  simp only [splitB,Bool.and_eq_true,decide_eq_true_eq] at hsp
  rw [zO,← hsp.1.1.1,e];simp
 rw [he]
 exact this
end
section
variable {n : Nat} {w0 : World} {mu : List Nat} {l : Fm} {hp : Hp} {Q : Exit → Fm → Hp → Prop} {ds : List (Nat × Nat)}
theorem Ql {id:Nat} {ops:List Oper} (k i0:Nat) (hi rest:Hp) (S E D D2 C:List Nat) (h:iH Tryz.prog n w0 mu ops.toArray ds l hp (fun aG=>xX Tryz.prog n w0 mu ops.toArray ds l i0 hi rest aG (fun Rs=>DN (fun iv bl=>fK Tryz.prog n w0 mu ops.toArray ds l [] (fun Gx=>fK Tryz.prog n w0 mu ops.toArray ds l [] (fun jl=>fA Tryz.prog n w0 mu ops.toArray ds l [] jl (fun aN hc=>Ops Tryz.prog n w0 mu ops.toArray [] (aY ds (aN++jl)++l) hc Q) C [] (bl++rest)) D2 Gx) D (iv++aG)) Rs) E []) S [])
  (hds:bP ops 0=ds:=by (simp only [bP,Nat.reduceAdd,Nat.zero_add];rfl)) (hm:Tryz.prog.follows .mixedOrders=true:=by kernel_rfl) (hperm:(hi++rest).Perm hp:=by (exact au)) (hB:xY ops.toArray n k i0 S E D D2 C=true:=by decide +kernel) (hf:bu l (dstsOf ops.toArray ops.toArray.size)=true:=by rfl) (hf1:bu l (dstsOf ops.toArray k)=true:=by rfl) (hsp:splitB k S E D=true:=by decide +kernel):St Tryz.prog n w0 mu (.region id ops.toArray true) l hp Q:=
 qX hm (MV k i0 hi rest S E D D2 C hB hperm hf hf1 hsp hds h)
theorem Xl {all:Array Oper} {i0 i:Nat} {hi rest:Hp} {iv:Fm} {X:List (Nat × RT)→Prop} {E:List Nat} {Rs:List (Nat × RT)} (h:iq Tryz.prog n w0 mu all ds l rest iv (fun zQ=>xX Tryz.prog n w0 mu all ds l i0 hi rest iv X E zQ) [i] Rs) (hne:Nat.beq i i0=false:=by rfl):xX Tryz.prog n w0 mu all ds l i0 hi rest iv X (i::E) Rs:=by
 obtain ⟨o,R,ho,hy,hn,h⟩:=h
 have hne':i ≠ i0:=fun e=>by rw [e,beq_iff.2 rfl] at hne;cases hne
 exact ⟨o,R,ho,⟨fun _=>hy,fun e=>absurd e hne'⟩,hn,h⟩
theorem EH {all:Array Oper} {i0 i d:Nat} {ty:TypeId} {pos:String} {af:Array Edge} {hi rest:Hp} {iv:Fm} {X:List (Nat × RT)→Prop} {E:List Nat} {Rs:List (Nat × RT)} {t:TypeId} {z:Value} {cs:List Value} (h:xX Tryz.prog n w0 mu all ds l i0 hi rest iv X E ((i,fun v hn=>∃ b,v=.pointer (some ⟨b,0,none⟩)∧hn=[⟨b,cs.toArray,t⟩])::Rs)) (hne:Nat.beq i i0=false:=by rfl) (ho:all[i]?=some ⟨some d,.alloc t,ty,pos,af,none⟩:=by rfl) (hz:lk Tb.zs t=some z:=by rfl) (hc:z.cells=cs.toArray:=by (first | ((simp only [Value.cells])<;>rfl) | rfl)):xX Tryz.prog n w0 mu all ds l i0 hi rest iv X (i::E) Rs:=
 Xl (dR (gZ h) ho hz hc) hne
theorem Zg {all:Array Oper} {i0:Nat} {hi rest:Hp} {iv:Fm} {X:List (Nat × RT)→Prop} {Rs:List (Nat × RT)} (h:X Rs):xX Tryz.prog n w0 mu all ds l i0 hi rest iv X [] Rs:=h
theorem VS {all:Array Oper} {i d:Nat} {ty:TypeId} {pos:String} {af:Array Edge} {hi rest:Hp} {iv:Fm} {X:List (Nat × RT)→Prop} {E:List Nat} {Rs:List (Nat × RT)} {f:FuncId} {xs:List Operand} {vs:List Value} {tys:Array TypeId} {R:RT} (hc:∀ w,Good w0 mu (hi++rest) w→Fn Tryz.prog f vs.toArray w (hi.map (·.b)) R) (hn:∃ v hn,R v hn) (h:xX Tryz.prog n w0 mu all ds l i hi rest iv X E ((i,R)::Rs))
  (ho:all[i]?=some ⟨some d,.call { callee:=.value (.func f),args:=xs.toArray,argTypes:=tys },ty,pos,af,none⟩:=by rfl) (dY:mem mY f=true:=by rfl) (hv:evs (aA ds iv af.toList++l) xs=some vs:=by rfl):xX Tryz.prog n w0 mu all ds l i hi rest iv X (i::E) Rs:=by
 refine ⟨_,R,ho,⟨fun e=>absurd rfl e,fun _=>⟨fun a _=>by simp [Region.wanted],fun a w hx hk hG K Q hK=>?_⟩⟩,hn,h⟩
 obtain ⟨fn,c,hf,hname,hb⟩:=fV f dY
 unfold Oper.wp
 rw [tN rfl hf hname hb hk hv w]
 refine Calls.mono (hc w (hG.sub (List.sublist_append_right _ _))) ?_
 rintro e w' ⟨u,hn,rfl,hg',hR⟩
 have hG2:Good w0 mu (hi++(hx++rest)) w:=hG.perm (by rw [← List.append_assoc,← List.append_assoc];exact List.Perm.append_right _ List.perm_append_comm)
 exact hK u hn w' hR (hG2.Oi hg')
end
end
section
attribute [local irreducible] Hy St Ops DH gB iH iq fK
theorem ae' {G:Prop} (h:G:=by (first | ((with_reducible apply Ai);rfl) | ((with_reducible apply eY);rfl) | ((with_reducible apply Ea ay);rfl;rfl;rfl;(exact oO)) | ((with_reducible apply IP ay);rfl;rfl;(exact yJ);(first | rfl | assumption)) | ((with_reducible apply Ec ay);rfl;rfl;assumption;(exact Mc)) | ((with_reducible apply Ed ay);rfl;rfl;rfl;(exact yJ);(first | assumption | (exact pY));rfl) | ((with_reducible apply Am ay);rfl;rfl;rfl;assumption;rfl;(exact Mc)) | ((with_reducible apply Aj ay);rfl;rfl;rfl;omega;(exact oO)) | ((with_reducible apply yC ay);rfl;rfl;rfl;omega;(exact oO)) | ((with_reducible apply Eb ay);rfl;rfl;rfl;omega;omega;(exact oO)) | ((with_reducible apply Ak ay);rfl;rfl;rfl;omega;omega;(exact oO)) | ((with_reducible apply x_len ay);rfl;rfl) | ((with_reducible apply O0);rfl;rfl) | ((with_reducible apply IY);rfl;rfl) | ((with_reducible apply Wy);rfl;rfl) | ((with_reducible apply OH);rfl;rfl) | ((with_reducible apply II);rfl;rfl;rfl) | ((with_reducible apply OI);rfl) | ((with_reducible apply yB);rfl;rfl) | ((with_reducible apply vZ);rfl) | ((with_reducible apply OJ);rfl;rfl) | ((with_reducible apply OL);rfl;rfl) | ((with_reducible apply OM);rfl;rfl) | ((with_reducible apply OO);rfl;rfl) | ((with_reducible apply J4);rfl;rfl) | ((with_reducible apply OQ);rfl;rfl) | ((with_reducible apply IJ ay);rfl;rfl;rfl) | ((with_reducible apply IK ay);rfl;rfl;rfl) | ((with_reducible apply IV CV);rfl;rfl;rfl;rfl;rfl) | ((with_reducible apply IW CV);rfl;rfl;rfl;rfl;rfl) | ((with_reducible apply OT);rfl;rfl;omega) | ((with_reducible apply OU);rfl;rfl;omega;omega) | ((with_reducible apply OV);rfl;rfl;omega;omega) | ((with_reducible apply OW);rfl;rfl;omega;omega) | ((with_reducible apply og ay);rfl;rfl;rfl;omega;omega) | ((with_reducible apply zK ay);rfl;rfl;rfl;omega;omega) | ((with_reducible apply wo);rfl;rfl) | ((with_reducible apply IL);rfl;rfl) | ((with_reducible apply IM);rfl;rfl))):G:=h
theorem G5 {G R:Prop} (k:R) (h:uh R→G:=by (intro kJ;(repeat (first | (with_reducible apply Ac) | (with_reducible apply tC) | (with_reducible apply qy) | (with_reducible apply qA) | (with_reducible apply Ag) | (with_reducible apply wZ) | (with_reducible apply qF) | (with_reducible apply oM) | (with_reducible apply xk) | (with_reducible apply tV) | (with_reducible apply wU) | (with_reducible apply Ad) | (with_reducible apply wR) | (with_reducible apply wS) | ((with_reducible apply tX);rfl) | ((with_reducible apply eH);rfl;(first | exact ae')) | ((with_reducible apply F8);rfl;rfl;(exact jL);intro blk) | ((with_reducible apply xq ay);rfl;rfl;(exact jL);intro blk) | ((with_reducible apply qR ay);rfl;rfl;(exact jL);rfl;rfl;(exact wB);(exact Ja);(exact Jb);(exact pY)) | ((with_reducible apply qB ay);rfl;rfl;rfl;(exact jL);rfl;rfl;rfl;rfl;(exact Kv);intro blk)));(repeat revert blk);exact kJ.get)):G:=h ⟨k⟩
section
variable {n : Nat} {w0 : World} {mu : List Nat} {l : Fm} {hp : Hp} {Q : Exit → Fm → Hp → Prop} {all : Array Oper} {rest : List Oper} {ty : TypeId} {pos : String} {af : Array Edge}
theorem EI {t d:Nat} {ps:List (Nat × Operand)} {vs:List (Nat × Value)} {z:Value} {pl:List (Nat × Nat)} {zc:Array Value} (out:Array Value) (h:Ops Tryz.prog n w0 mu all rest ((d,.agg out)::l) hp Q) (hd:Nat.blt d n=true:=by rfl) (hz:lk Tb.zs t=some z:=by rfl) (hzc:z.cells=zc:=by (first | ((simp only [Value.cells])<;>rfl) | rfl)) (hpl:lk Tb.pl t=some pl:=by rfl) (hv:FQ l ps=some vs:=by rfl) (hf:fl pl zc vs=some out:=by kernel_rfl):Ops Tryz.prog n w0 mu all (⟨some d,.build t ps.toArray,ty,pos,af,none⟩::rest) l hp Q:=
 eH hd (zL ay hz hzc hpl hv hf rfl) h
theorem Qm {dd:Option Nat} {gg:Option (Nat × Bool)} {t u:TypeId} {x y:Operand} {p:Option Addr} (ht:Tryz.prog.underlying t=some (.pointer (Tryz.prog.pointee t))) (hx:ev l x=some (.pointer p)) (hy:ev l y=some (.pointer none)):Hy Tryz.prog n w0 mu l hp ⟨dd,.binOp .neq t x y u,ty,pos,af,gg⟩ (.bool p.isSome):=
 bz fun a w hk _=>by
  have:=run_neq_pointer_nil (P:=Tryz.prog) (w:=w) t p ht
  simp only [execOp,hk.ev hx,hk.ev hy]
  simp [eqGuard,this]
theorem Qn {dd:Option Nat} {gg:Option (Nat × Bool)} {t u:TypeId} {x y:Operand} {p:Option Addr} (ht:Tryz.prog.underlying t=some (.pointer (Tryz.prog.pointee t))) (hx:ev l x=some (.pointer p)) (hy:ev l y=some (.pointer none)):Hy Tryz.prog n w0 mu l hp ⟨dd,.binOp .eql t x y u,ty,pos,af,gg⟩ (.bool p.isNone):=
 bz fun a w hk _=>by
  have:=run_eql_pointer_nil (P:=Tryz.prog) (w:=w) t p ht
  simp only [execOp,hk.ev hx,hk.ev hy]
  simp [eqGuard,this]
theorem Ug {dd:Option Nat} {gg:Option (Nat × Bool)} {t u:TypeId} {x y:Operand} {p:Addr} (ht:Tryz.prog.underlying t=some (.pointer (Tryz.prog.pointee t))) (hx:ev l x=some (.pointer (some p))) (hy:ev l y=some (.pointer none)):Hy Tryz.prog n w0 mu l hp ⟨dd,.binOp .eql t x y u,ty,pos,af,gg⟩ (.bool false):=Qn ht hx hy
theorem Uh {dd:Option Nat} {gg:Option (Nat × Bool)} {t u:TypeId} {x y:Operand} (ht:Tryz.prog.underlying t=some (.pointer (Tryz.prog.pointee t))) (hx:ev l x=some (.pointer none)) (hy:ev l y=some (.pointer none)):Hy Tryz.prog n w0 mu l hp ⟨dd,.binOp .eql t x y u,ty,pos,af,gg⟩ (.bool true):=Qn ht hx hy
theorem Qo {dd:Option Nat} {gg:Option (Nat × Bool)} {t u:TypeId} {x y:Operand} {k:IntKind} {p q:Int} (hx:ev l x=some (.int k p)) (hy:ev l y=some (.int k q)):Hy Tryz.prog n w0 mu l hp ⟨dd,.binOp .mul t x y u,ty,pos,af,gg⟩ (.int k (k.wrap (p * q))):=Om rfl hx hy
theorem Ui {dd:Option Nat} {gg:Option (Nat × Bool)} {t u:TypeId} {x y:Operand} {p:Addr} (ht:Tryz.prog.underlying t=some (.pointer (Tryz.prog.pointee t))) (hx:ev l x=some (.pointer (some p))) (hy:ev l y=some (.pointer none)):Hy Tryz.prog n w0 mu l hp ⟨dd,.binOp .neq t x y u,ty,pos,af,gg⟩ (.bool true):=Qm ht hx hy
theorem Uj {dd:Option Nat} {gg:Option (Nat × Bool)} {t u:TypeId} {x y:Operand} (ht:Tryz.prog.underlying t=some (.pointer (Tryz.prog.pointee t))) (hx:ev l x=some (.pointer none)) (hy:ev l y=some (.pointer none)):Hy Tryz.prog n w0 mu l hp ⟨dd,.binOp .neq t x y u,ty,pos,af,gg⟩ (.bool false):=Qm ht hx hy
end
end
section
attribute [local irreducible] Hy St Ops DH gB iH iq fK DS fA jX
def nV (k:Int):Bool:=PtD.bY k 0 5
def aC.Zh (r:aC):List Nat:=[r.gp,r.dm,r.jd,r.qw,r.mJ,r.far]
def aC.get (r:aC) (k:Int):Nat:=r.Zh.getD k.toNat 0
def aC.set (r:aC) (k:Int) (v:Nat):aC:=
 bif decide (k=0) then { r with gp:=v } else bif decide (k=1) then { r with dm:=v } else bif decide (k=2) then { r with jd:=v } else bif decide (k=3) then { r with qw:=v } else bif decide (k=4) then { r with mJ:=v } else { r with far:=v }
def aC.trap (r:aC) (mJ far:Nat):aC:={ r with qw:=r.pc,mJ:=mJ,far:=far,pc:=r.jd }
def aC.back (r:aC):aC:={ r with pc:=r.qw }
def gq (n:Nat):Prop:=n<18446744073709551616
theorem Uk (r:aC) (e f:Nat) (w:World):Fn Tryz.prog 114 [.agg (dD r).toArray,.int .u64 (e:Int),.int .u64 (f:Int)].toArray w [] (fun u _=>u=.agg (dD (r.trap e f)).toArray):=by
 refine enter Tryz.func114 ?_
 refine run ?_
 intro X R
 refine gK ?_
 rfl
theorem MW (r:aC) (e f:Nat) (w:World):Fn Tryz.prog 125 [.agg (dD r).toArray,.int .u64 (e:Int),.int .u64 (f:Int)].toArray w [] (fun u _=>u=.agg (dD (r.trap e f)).toArray):=by
 refine enter Tryz.func125 ?_
 refine run ?_
 intro X R
 refine gK ?_
 rfl
theorem Ul (r:aC) (w:World):Fn Tryz.prog 78 [.agg (dD r).toArray].toArray w [] (fun u _=>u=.agg (dD r.back).toArray):=by
 refine enter Tryz.func78 ?_
 refine run ?_
 intro X R
 refine gK ?_
 rfl
theorem MX (r:aC) (w:World):Fn Tryz.prog 90 [.agg (dD r).toArray].toArray w [] (fun u _=>u=.agg (dD r.back).toArray):=by
 refine enter Tryz.func90 ?_
 refine run ?_
 intro X R
 refine gK ?_
 rfl
theorem Dj (B:Nat) (k:Int) (w:World):Fn Tryz.prog 116 [.pointer (some ⟨B,0,none⟩),.int .i64 k].toArray w [] (fun u _=>u=bif nV k then .pointer (some ⟨B,9 + k.toNat,none⟩) else .pointer none):=by
 refine enter Tryz.func116 ?_
 refine run ?_
 refine aj _ rfl (fun hc=>?_) (fun hc0=>?_)
 ·obtain rfl:k=0:=by simpa using hc
  refine run ?_
  exact fin1 rfl
 refine run ?_
 refine aj _ rfl (fun hc=>?_) (fun hc1=>?_)
 ·obtain rfl:k=1:=by simpa using hc
  refine run ?_
  exact fin1 rfl
 refine run ?_
 refine aj _ rfl (fun hc=>?_) (fun hc2=>?_)
 ·obtain rfl:k=2:=by simpa using hc
  refine run ?_
  exact fin1 rfl
 refine run ?_
 refine aj _ rfl (fun hc=>?_) (fun hc3=>?_)
 ·obtain rfl:k=3:=by simpa using hc
  refine run ?_
  exact fin1 rfl
 refine run ?_
 refine aj _ rfl (fun hc=>?_) (fun hc4=>?_)
 ·obtain rfl:k=4:=by simpa using hc
  refine run ?_
  exact fin1 rfl
 refine run ?_
 refine aj _ rfl (fun hc=>?_) (fun hc5=>?_)
 ·obtain rfl:k=5:=by simpa using hc
  refine run ?_
  exact fin1 rfl
 refine run ?_
 have hk:nV k=false:=by
  simp at hc0 hc1 hc2 hc3 hc4 hc5
  simp only [nV,PtD.bY,Bool.and_eq_false_iff,decide_eq_false_iff_not]
  omega
 rw [hk]
 exact fin1 rfl
theorem Xm {k:Int} (h:nV k=true):k=0∨k=1∨k=2∨k=3∨k=4∨k=5:=by
 simp only [nV,PtD.bY,Bool.and_eq_true,decide_eq_true_eq] at h
 omega
theorem Qp (r:aC) (k:Int) (w:World):Fn Tryz.prog 74 [.agg (dD r).toArray,.int .i64 k].toArray w [] (fun u _=>u=.tuple #[.int .u64 (bif nV k then r.get k else 0:Nat),.int .i64 (bif nV k then 0 else 1)]):=by
 refine enter Tryz.func74 ?_
 refine run ?_
 intro X R
 refine ax (fun wc hG=>Dj R k wc) ?_
 cases hk:nV k with
 | true=>
  rw [cond_true,cond_true,cond_true]
  refine aX ?_
  refine eH av2 (Ui aw6 rfl rfl) ?_
  obtain rfl | rfl | rfl | rfl | rfl | rfl:=Xm hk
  all_goals
   refine aX ?_
   exact fin2 rfl
 | false=>
  rw [cond_false,cond_false,cond_false]
  refine aX ?_
  refine eH av2 (Uj aw6 rfl rfl) ?_
  refine aX ?_
  exact fin2 rfl
theorem Qq (r:aC) (k:Int) (v:Nat) (w:World):Fn Tryz.prog 75 [.agg (dD r).toArray,.int .i64 k,.int .u64 (v:Int)].toArray w [] (fun u _=>u=.tuple #[.agg (dD (bif nV k then r.set k v else kM)).toArray,.int .i64 (bif nV k then 0 else 1)]):=by
 refine enter Tryz.func75 ?_
 refine run ?_
 intro X R Y
 refine ax (fun wc hG=>Dj Y k wc) ?_
 cases hk:nV k with
 | true=>
  rw [cond_true,cond_true,cond_true]
  refine aX ?_
  refine eH av2 (Ug aw6 rfl rfl) ?_
  obtain rfl | rfl | rfl | rfl | rfl | rfl:=Xm hk
  all_goals
   simp only [Int.toNat_zero,Int.toNat_one,Int.reduceToNat,Nat.reduceAdd,Nat.add_zero]
   refine aX ?_
   refine gG ?_
   rfl
 | false=>
  rw [cond_false,cond_false,cond_false]
  refine aX ?_
  refine eH av2 (Uh aw6 rfl rfl) ?_
  refine aX ?_
  refine gG ?_
  rfl
theorem Qr (r:aC) (k:Int) (hk:nV k=true) (w:World):Fn Tryz.prog 87 [.agg (dD r).toArray,.int .i64 k].toArray w [] (fun u _=>u=.int .u64 (r.get k:Nat)):=by
 refine enter Tryz.func87 ?_
 refine run ?_
 intro X Z
 obtain rfl | rfl | rfl | rfl | rfl | rfl:=Xm hk
 all_goals
  refine run ?_
  exact fin1 rfl
theorem Qs (r:aC) (k:Int) (v:Nat) (w:World):Fn Tryz.prog 88 [.agg (dD r).toArray,.int .i64 k,.int .u64 (v:Int)].toArray w [] (fun u _=>u=.agg (dD (r.set k v)).toArray):=by
 refine enter Tryz.func88 ?_
 refine run ?_
 intro X R
 refine aj _ rfl (fun hc=>?_) (fun hc0=>?_)
 ·obtain rfl:k=0:=by simpa using hc
  refine aX ?_
  refine gK ?_
  rfl
 refine run ?_
 refine aj _ rfl (fun hc=>?_) (fun hc1=>?_)
 ·obtain rfl:k=1:=by simpa using hc
  refine aX ?_
  refine gK ?_
  rfl
 refine run ?_
 refine aj _ rfl (fun hc=>?_) (fun hc2=>?_)
 ·obtain rfl:k=2:=by simpa using hc
  refine aX ?_
  refine gK ?_
  rfl
 refine run ?_
 refine aj _ rfl (fun hc=>?_) (fun hc3=>?_)
 ·obtain rfl:k=3:=by simpa using hc
  refine aX ?_
  refine gK ?_
  rfl
 refine run ?_
 refine aj _ rfl (fun hc=>?_) (fun hc4=>?_)
 ·obtain rfl:k=4:=by simpa using hc
  refine aX ?_
  refine gK ?_
  rfl
 refine run ?_
 have hk:r.set k v={ r with far:=v }:=by
  simp at hc0 hc1 hc2 hc3 hc4
  simp [aC.set,hc0,hc1,hc2,hc3,hc4]
 rw [hk]
 refine gK ?_
 rfl
end
section
def Zi (P:Program) (n:Nat) (w0:World) (mu:List Nat) (all:Array Oper) (lf:Fm) (hp:Hp) (o:Oper) (R:RT):Prop:=
 (∀ a,Knows n lf a→Region.wanted o (yielded all a.tmps)=true)∧∀ a w,Knows n lf a→Good w0 mu hp w→∀ (K:Act→World→Prop) (Q:Exit→Act→World→Prop),(∀ v h' w',R v h'→Good w0 mu h' w'→K (a.put o.dst v) w')→o.wp P a w K Q
def Dk (P:Program) (n:Nat) (w0:World) (mu:List Nat) (all:Array Oper) (ds:List (Nat × Nat)) (l:Fm) (h0 hb:Hp) (t0:Nat) (X:Fm→Fm→Hp→Prop):List (Nat × Bool)→Fm→Fm→Hp→Prop
 | [],aG,aN,h=>X aG aN h
 | (i,false)::r,aG,aN,h=>∃ o,all[i]?=some o∧((o.dst.isSome=true∧∃ R:RT,wL P n w0 mu all (aA ds (aN++aG) o.after.toList++l) h o R∧∀ v hn,R v hn→Dk P n w0 mu all ds l h0 hb t0 X r aG ((i,v)::aN) (hn++h)) ∨
   (o.dst=none∧∃ h',YK P n w0 mu (aA ds (aN++aG) o.after.toList++l) h o h'∧aF h0 h'∧Dk P n w0 mu all ds l h0 hb t0 X r aG aN h') ∨
   (o.dst.isSome=true∧∃ R:RT,Zi P n w0 mu all (aA ds (aN++aG) o.after.toList++l) h o R∧∀ v h',R v h'→aF h0 h'∧((i=t0∨Region.waitsFor .any all i t0=true)∨aF hb h')∧Dk P n w0 mu all ds l h0 hb t0 X r aG ((i,v)::aN) h'))
 | (i,true)::r,aG,aN,h=>∃ o v,all[i]?=some o∧zh P n w0 mu (aA ds (aN++aG) o.after.toList++l) [] o v∧Dk P n w0 mu all ds l h0 hb t0 X r ((i,v)::aG) aN h
def Qu (all:Array Oper):List Nat→List Nat→Bool
 | _,[]=>true
 | seen,x::r=>seen.any (fun y=>Region.waitsFor .any all x y) && Qu all (x::seen) r
def A7 (all:Array Oper):List (Nat × Bool)→Bool
 | []=>true
 | (c,d)::r=>(d || Qu all [c] (r.map (·.1))) && A7 all r
theorem MZ {all:Array Oper}:∀ {r seen:List Nat},Qu all seen r=true→∀ x∈r,∃ y,(y∈seen∨y∈r)∧Region.waitsFor .any all x y=true:=by
 intro r
 induction r with
 | nil=>intro seen _ x hx;cases hx
 | cons z r ih=>
  intro seen h x hx
  simp only [Qu,Bool.and_eq_true] at h
  rcases List.mem_cons.1 hx with rfl | hx
  ·obtain ⟨y,hy,h2⟩:=List.any_eq_true.1 h.1
   exact ⟨y,.inl hy,h2⟩
  ·obtain ⟨y,hy,h2⟩:=ih h.2 x hx
   rcases hy with hy | hy
   ·rcases List.mem_cons.1 hy with rfl | hy
    ·exact ⟨_,.inr (List.mem_cons_self ..),h2⟩
    ·exact ⟨y,.inl hy,h2⟩
   ·exact ⟨y,.inr (List.mem_cons_of_mem _ hy),h2⟩
theorem Qv {all:Array Oper} {c:Nat} {r:List (Nat × Bool)} (h:Qu all [c] (r.map (·.1))=true):∀ x∈r.map (·.1),∃ y,(y∈[c]∨y∈r.map (·.1))∧Region.waitsFor .any all x y=true:=MZ h
theorem Dl {k:Nat} {listed:Array Bool} {all:Array Oper} (h:leftOf k listed=0) {i:Nat} (hi:i<k) (inv:HeadInv .any all k listed) (hk:k≤all.size):listed.getD i true=true:=by
 cases hc:listed.getD i true with
 | true=>rfl
 | false=>
  exfalso
  have:i∈(List.range k).filter fun i=>!listed.getD i true:=List.mem_filter.2 ⟨List.mem_range.2 hi,by simp only [hc,Bool.not_false]⟩
  have h2:=List.length_pos_of_mem this
  unfold leftOf at h
  omega
section
variable {P : Program} {n : Nat} {w0 : World} {mu : List Nat} {l : Fm} {h0 hp : Hp} {Q : Exit → Fm → Hp → Prop} {all : Array Oper} {k t0 : Nat} {ds : List (Nat × Nat)}
structure Yl (P:Program) (n:Nat) (w0:World) (mu:List Nat) (all:Array Oper) (ds:List (Nat × Nat)) (l:Fm) (h0 hp:Hp) (t0 k:Nat) (aG aN:Fm):Prop where
 so:∀ i v,lk aG i=some v→i<k∧∃ o bC,all[i]?=some o∧(∀ j u,look bC j=some u→lk aN j=some u∨lk aG j=some u)∧∀ hx,pz P n w0 mu all (aA ds bC o.after.toList++l) (bif Region.waitsFor .any all t0 i then hx++hp else hx++h0) o v
 uq:Uq aG
theorem VT {aG aN:Fm} {i:Nat} {v:Value} (hne:∀ u,(i,u) ∉ aN) (h:Yl P n w0 mu all ds l h0 hp t0 k aG aN):Yl P n w0 mu all ds l h0 hp t0 k aG ((i,v)::aN):=⟨fun j u hu=>by
 obtain ⟨h1,o,bC,h2,h3,h4⟩:=h.1 j u hu
 exact ⟨h1,o,bC,h2,fun a b hab=>(h3 a b hab).imp (fun h=>by rw [bM,if_neg (fun e=>by subst e;exact hne _ (iP h))];exact h) id,h4⟩,h.2⟩
theorem Qw {aG aN:Fm} {i:Nat} {v:Value} {o:Oper} (h:Yl P n w0 mu all ds l h0 hp t0 k aG aN) (hi:i<k) (hn:lk aG i=none) (ho:all[i]?=some o) (hy:zh P n w0 mu (aA ds (aN++aG) o.after.toList++l) [] o v):Yl P n w0 mu all ds l h0 hp t0 k ((i,v)::aG) aN:=by
 have hmo:∀ j u,lk aG j=some u→lk ((i,v)::aG) j=some u:=fun j u hu=>by
  rw [bM,if_neg (fun e=>by subst e;rw [hn] at hu;cases hu)];exact hu
 refine ⟨fun j u hu=>?_,fun j u hu=>?_⟩
 ·rw [bM] at hu
  by_cases hij:i=j
  ·subst hij
   rw [if_pos rfl] at hu
   cases hu
   refine ⟨hi,o,aN++aG,ho,fun a b hab=>?_,fun hx=>AP hy⟩
   rw [eu,AL] at hab
   cases hE:lk aN a with
   | some x=>rw [hE] at hab;cases hab;exact .inl rfl
   | none=>rw [hE] at hab;exact .inr (hmo _ _ hab)
  ·rw [if_neg hij] at hu
   obtain ⟨h1,o',bC,h2,h3,h4⟩:=h.1 j u hu
   exact ⟨h1,o',bC,h2,fun a b hab=>(h3 a b hab).imp id (hmo a b),h4⟩
 ·rcases List.mem_cons.1 hu with hu | hu
  ·cases hu;rw [bM,if_pos rfl]
  ·exact hmo _ _ (h.2 j u hu)
theorem Na {aG aN:Fm} {i:Nat} {v:Value} {h:Hp} {listed:Array Bool} {a:Act} {w:World} (hm:nK n w0 mu all l aG aN h listed a w) (hun:listed.getD i true=false) (hn:lk aG i=none):nK n w0 mu all l ((i,v)::aG) aN h listed a w:=
 ⟨hm.size,hm.defers,hm.has,hm.good,fun j u hj hl d hd=>by
  by_cases hij:i=j
  ·subst hij;rw [getD_both hun] at hl;cases hl
  ·rw [bM,if_neg hij] at hj;exact hm.nU j u hj hl d hd,hm.jZ⟩
def EJ (ops:Array Oper) (n k t0:Nat) (S:List Nat) (C:List (Nat × Bool)):Bool:=
 pG ops k n && lH ops && nJ k S (C.map (·.1)) && A7 ops C && oQ ops k && (List.range k).all fun i=>(aQ ops i).isSome || Nat.beq i t0 || Region.waitsFor .any ops i t0
theorem Js (hds : ∀ k d, lk ds k = some d → aQ all k = some d) {g : Nat} {Q' : Exit → Act → World → Prop} {X : Fm → Fm → Hp → Prop} (hk : k ≤ all.size) (hd : pG all k n = true) (hf : bu l (dstsOf all k) = true) (hback : lH all = true) (hle0 : aF h0 hp)
    (qf : ∀ i, i < k → aQ all i = none → i = t0 ∨ Region.waitsFor .any all i t0 = true)
    (htail : ∀ aG aN h listed, HeadInv .any all k listed → (∀ i, i < k → listed.getD i true = true) → X aG aN h → ∀ a w, nK n w0 mu all l aG aN h listed a w → (∀ i v, (i, v) ∈ aN → i < k) → (∀ i v, lk aG i = some v → i < k) → Uq aG → wpAny P .any all Q' g listed a w)
    (jW : ∀ listed, HeadInv .any all k listed → ∀ i, i < k → listed.getD i true = false → ∀ t, k ≤ t → t ∉ Region.ready .any all listed) :
    ∀ f r aG aN h listed a w, leftOf k listed = f → HeadInv .any all k listed → nK n w0 mu all l aG aN h listed a w → Yl P n w0 mu all ds l h0 hp t0 k aG aN → (∀ i v, (i, v) ∈ aN → i < k) → (∀ i ∈ r.map (·.1), i < k ∧ listed.getD i true = false ∧ lk aG i = none) → (r.map (·.1)).Nodup → A7 all r = true → (∀ i, i < k → listed.getD i true = false → (∃ v, lk aG i = some v) ∨ i ∈ r.map (·.1)) →
      aF h0 h → (listed.getD t0 false = false → aF hp h) → Dk P n w0 mu all ds l h0 hp t0 X r aG aN h → wpAny P .any all Q' (f + g) listed a w := by
  intro f
  induction f with
  | zero =>
    intro r
    induction r with
    | nil =>
      intro aG aN h listed a w hlf inv hm hS hEk hr hnd dU hcov hle ny hD
      rw [Nat.zero_add]
      exact htail aG aN h listed inv (fun i hi => Dl hlf hi inv hk) hD a w hm hEk (fun i v hv => (hS.1 i v hv).1) hS.2
    | cons p r ihr =>
      intro aG aN h listed a w hlf inv hm hS hEk hr hnd dU hcov hle ny hD
      have h1 := hr p.1 (List.mem_cons_self ..)
      rw [Dl hlf h1.1 inv hk] at h1
      exact absurd h1.2.1 av1
  | succ f ih =>
    have STEP : ∀ r aG aN h listed a w, leftOf k listed = f + 1 → HeadInv .any all k listed → nK n w0 mu all l aG aN h listed a w → Yl P n w0 mu all ds l h0 hp t0 k aG aN → (∀ i v, (i, v) ∈ aN → i < k) → (∀ i ∈ r.map (·.1), i < k ∧ listed.getD i true = false ∧ lk aG i = none) → (r.map (·.1)).Nodup → A7 all r = true → (∀ i, i < k → listed.getD i true = false → (∃ v, lk aG i = some v) ∨ i ∈ r.map (·.1)) →
      aF h0 h → (listed.getD t0 false = false → aF hp h) → Dk P n w0 mu all ds l h0 hp t0 X r aG aN h → (∀ p r', r = p :: r' → p.2 = false) → wpAny P .any all Q' (f + 1 + g) listed a w := by
     intro r aG aN h listed a w hlf inv hm hS hEk hr hnd dU hcov hle ny hD af0
     rw [show f + 1 + g = (f + g) + 1 by omega]
     have hex : ∃ i, i < k ∧ listed.getD i true = false := by
       have h2 : 0 < leftOf k listed := by omega
       obtain ⟨i, hi⟩ := List.exists_mem_of_length_pos h2
       rw [List.mem_filter] at hi
       exact ⟨i, List.mem_range.1 hi.1, by simpa using hi.2⟩
     obtain ⟨i0, jF, hi0⟩ := hex
     refine ⟨fun hnil => ?_, fun i hi => ?_⟩
     · exfalso
       obtain ⟨i, ⟨hik, hil⟩, hmin⟩ := exists_least (p := fun i => i < k ∧ listed.getD i true = false) ⟨i0, jF, hi0⟩
       have hr : i ∈ Region.ready .any all listed := by
         rw [mem_ready]
         have hs : i < all.size := by omega
         refine ⟨hil, all[i], by simp [hs], fun e he hb => ?_⟩
         have hb2 := List.all_eq_true.1 hback i (List.mem_range.2 hs)
         simp only [Array.getElem?_eq_getElem hs] at hb2
         have hb3 := (Array.all_eq_true_iff_forall_mem.1 hb2) e he
         simp only [hb, Bool.not_true, Bool.false_or, Nat.blt_eq] at hb3
         cases hc : listed.getD e.on false with
         | true => rfl
         | false =>
           have h5 := hmin e.on ⟨by omega, getD_in (by rw [inv.size]; omega) hc⟩
           omega
       rw [hnil] at hr; cases hr
     · have hik : i < k := by
         rcases Nat.lt_or_ge i k with h | h
         · exact h
         · exact absurd hi (jW listed inv i0 jF hi0 i h)
       obtain ⟨hun, o, ho, hall⟩ := mem_ready.1 hi
       have hsz : i < listed.size := by rw [inv.size]; omega
       have nI : listed.getD i false = false := getD_both hun
       have hleft : leftOf k (listed.setIfInBounds i true) = f := by have := jI hik (by rw [inv.size]; omega) hun; omega
       have hwl : ∀ t, Region.waitsFor .any all i t = true → listed.getD t false = true := fun t ht => by
         obtain ⟨oj, h6, e, he, hb, heq⟩ := Region.waitsFor_spec ht
         rw [ho] at h6; cases h6
         rw [← heq]; exact hall e he hb
       unfold wpOp
       simp only [ho]
       cases qP : lk aG i with
       | some v =>
         obtain ⟨_, o', bC, ho', hmo, hy⟩ := hS.1 i v qP
         rw [ho] at ho'; cases ho'
         have hkn := iQ (o := o) hds hm (bC := bC) hmo hall
         have hir : i ∉ r.map (·.1) := fun hm' => by rw [(hr i hm').2.2] at qP; cases qP
         have hnext : ∀ w', Good w0 mu h w' → wpAny P .any all Q' (f + g) (listed.setIfInBounds i true) (a.put o.dst v) w' := fun w' hG' => by
           refine ih r aG aN h _ _ _ hleft (inv.set hi hik) (lM hm ho hik hun hsz hd hf hG' (fun j u hu => (hS.1 j u hu).1) hEk (.inl ⟨qP, rfl⟩)) hS hEk (fun j hj => ?_) hnd dU (fun j hj hl => ?_) hle (fun ht => ?_) hD
           · have hji : i ≠ j := fun e => hir (e ▸ hj)
             exact ⟨(hr j hj).1, by rw [getD_set_ne true hji]; exact (hr j hj).2.1, (hr j hj).2.2⟩
           · refine hcov j hj ?_
             by_cases hji : i = j
             · subst hji; simp [hsz] at hl
             · rwa [getD_set_ne true hji] at hl
           · refine ny ?_
             by_cases hji : i = t0
             · subst hji; exact nI
             · rwa [getD_set_ne false hji] at ht
         obtain ⟨hx, h3, jv⟩ : ∃ hx, pz P n w0 mu all (aA ds bC o.after.toList ++ l) hx o v ∧ hx.Perm h := by
           cases hwt : Region.waitsFor .any all t0 i with
           | true =>
             have ht0 : listed.getD t0 false = false := by
               cases hc : listed.getD t0 false with
               | false => rfl
               | true =>
                 obtain ⟨oj, h6, e, he, hb, heq⟩ := Region.waitsFor_spec hwt
                 have := inv.closed t0 oj h6 hc e he hb
                 rw [heq, nI] at this; cases this
             obtain ⟨x, hxp⟩ := (ny ht0).perm
             have h4 := hy x
             rw [hwt] at h4
             exact ⟨x ++ hp, h4, List.perm_append_comm.trans hxp⟩
           | false =>
             obtain ⟨x, hxp⟩ := hle.perm
             have h4 := hy x
             rw [hwt] at h4
             exact ⟨x ++ h0, h4, List.perm_append_comm.trans hxp⟩
         have hgd : Good w0 mu hx w := hm.good.perm jv
         replace hnext : ∀ w', Good w0 mu hx w' → wpAny P .any all Q' (f + g) (listed.setIfInBounds i true) (a.put o.dst v) w' := fun w' hG' => hnext w' (hG'.perm jv.symm)
         unfold pz at h3
         cases hg : o.guard with
         | none =>
           rw [hg] at h3
           rw [if_pos (by simp [Region.wanted, hg])]
           exact .inl (h3 a w hkn hgd _ _ hnext)
         | some jw =>
           obtain ⟨j, want⟩ := jw
           rw [hg] at h3
           obtain ⟨dj, c0, b, u, hj, hb, hdj, hy, hvv⟩ := h3
           have hw := gY hkn hg hj hb hdj
           cases hc : (c0 && jg b want) with
           | true =>
             rw [hc] at hw hvv
             rw [if_pos hw]
             rw [Bool.and_eq_true] at hc
             rw [show v = u from hvv] at hnext
             exact .inl (hy hc.1 hc.2 a w hkn hgd _ _ hnext)
           | false =>
             rw [hc] at hw hvv
             rw [if_neg (by rw [hw]; decide)]
             rw [show v = undef from hvv] at hnext
             exact hnext w hgd
       | none =>
         have hir : i ∈ r.map (·.1) := by
           rcases hcov i hik hun with ⟨v, hv⟩ | h
           · rw [qP] at hv; cases hv
           · exact h
         cases r with
         | nil => cases hir
         | cons c r =>
           obtain ⟨c, cb⟩ := c
           obtain rfl : cb = false := af0 _ _ rfl
           simp only [A7, Bool.false_or, Bool.and_eq_true] at dU
           have hic : i = c := by
             rcases List.mem_cons.1 hir with h | h
             · exact h
             · exfalso
               obtain ⟨p, h1, h3⟩ := Qv dU.1 i h
               have h1' : p ∈ (((c, false) :: r).map (·.1)) := by
                 rcases h1 with h1 | h1
                 · rw [List.mem_singleton.1 h1]; exact List.mem_cons_self ..
                 · exact List.mem_cons_of_mem _ h1
               have := (hr p h1').2.1; have h5 := hwl p h3
               rw [getD_both this] at h5; cases h5
           subst hic
           rw [List.map_cons, List.nodup_cons] at hnd
           have nM : A7 all r = true := dU.2
           have hr' : ∀ j ∈ r.map (·.1), j < k ∧ (listed.setIfInBounds i true).getD j true = false ∧ lk aG j = none := fun j hj => by
             have h1 := hr j (List.mem_cons_of_mem _ hj)
             have hji : i ≠ j := fun e => hnd.1 (e ▸ hj)
             exact ⟨h1.1, by rw [getD_set_ne true hji]; exact h1.2.1, h1.2.2⟩
           have lu : ∀ j, j < k → (listed.setIfInBounds i true).getD j true = false → (∃ v, lk aG j = some v) ∨ j ∈ r.map (·.1) := fun j hj hl => by
             by_cases hji : i = j
             · subst hji; simp [hsz] at hl
             · rw [getD_set_ne true hji] at hl
               rcases hcov j hj hl with h | h
               · exact .inl h
               · exact .inr ((List.mem_cons.1 h).resolve_left (Ne.symm hji))
           have hkn := iQ (o := o) hds hm (bC := aN ++ aG) (fun j u hu => by
             rw [eu, AL] at hu
             cases hE : lk aN j with
             | some v => rw [hE] at hu; exact .inl hu
             | none => rw [hE] at hu; exact .inr hu) hall
           unfold Dk at hD
           obtain ⟨o', ho', hD⟩ := hD
           rw [ho] at ho'; cases ho'
           rcases hD with ⟨hds', R, ⟨hg, hE⟩, hD⟩ | ⟨hdn, h', ⟨hg, _, hSt⟩, hle', hD⟩ | ⟨hds', R, ⟨hg, hE⟩, hD⟩
           · rw [if_pos (hg _ hkn)]
             refine .inl (hE a w [] hkn aA7 _ _ fun v hn w' hR hG' => ?_)
             rw [List.nil_append] at hG'
             have hlen : ∀ x : Hp, aF x h → aF x (hn ++ h) := fun x hx => bU fun b => by have := hx.cnt b; rw [dZ]; omega
             refine ih r aG ((i, v) :: aN) (hn ++ h) _ _ _ hleft (inv.set hi hik) (lM hm ho hik hun hsz hd hf hG' (fun j u hu => (hS.1 j u hu).1) hEk (.inr ⟨qP, rfl⟩)) (VT (fun u hu => by have := (hm.jZ i u hu).1; rw [nI] at this; cases this) hS) (fun j u hu => ?_) hr' hnd.2 nM lu (hlen _ hle) (fun ht => hlen _ (ny ?_)) (hD v hn hR)
             · rcases List.mem_cons.1 hu with hu | hu
               · cases hu; exact hik
               · exact hEk j u hu
             · by_cases hji : i = t0
               · subst hji; exact nI
               · rwa [getD_set_ne false hji] at ht
           · rw [if_pos (by simp [Region.wanted, hg])]
             refine .inl (hSt a w hkn hm.good _ _ fun w' hG' => ?_)
             have hmc : nK n w0 mu all l aG aN h' (listed.setIfInBounds i true) a w' := by
               refine ⟨hm.size, hm.defers, hm.has, hG', fun j u hj hl d hdj => ?_, fun j u hj => ⟨getD_set_true (hm.jZ j u hj).1, (hm.jZ j u hj).2⟩⟩
               have hji : i ≠ j := fun e => by subst e; rw [qP] at hj; cases hj
               exact hm.nU j u hj ay8 d hdj
             refine ih r aG aN h' _ _ _ hleft (inv.set hi hik) hmc hS hEk hr' hnd.2 nM lu hle' (fun ht => ?_) hD
             exfalso
             rcases qf i hik (by simp [aQ, ho, hdn]) with e | e
             · subst e
               rw [show (listed.setIfInBounds i true).getD i false = true by simp [hsz]] at ht; cases ht
             · have := getD_set_true (i := i) (hwl t0 e)
               rw [this] at ht; cases ht
           · rw [if_pos (hg _ hkn)]
             refine .inl (hE a w hkn hm.good _ _ fun v h' w' hR hG' => ?_)
             obtain ⟨hle', hit, hD'⟩ := hD v h' hR
             refine ih r aG ((i, v) :: aN) h' _ _ _ hleft (inv.set hi hik) (lM hm ho hik hun hsz hd hf hG' (fun j u hu => (hS.1 j u hu).1) hEk (.inr ⟨qP, rfl⟩)) (VT (fun u hu => by have := (hm.jZ i u hu).1; rw [nI] at this; cases this) hS) (fun j u hu => ?_) hr' hnd.2 nM lu hle' (fun ht => ?_) hD'
             · rcases List.mem_cons.1 hu with hu | hu
               · cases hu; exact hik
               · exact hEk j u hu
             · rcases hit with (e | e) | e
               · exfalso
                 subst e
                 rw [show (listed.setIfInBounds i true).getD i false = true by simp [hsz]] at ht; cases ht
               · exfalso
                 have := getD_set_true (i := i) (hwl t0 e)
                 rw [this] at ht; cases ht
               · exact e
    intro r0
    induction r0 with
    | cons p r0 ihr =>
      obtain ⟨i, db⟩ := p
      cases db with
      | true =>
        intro aG aN h listed a w hlf inv hm hS hEk hr hnd dU hcov hle ny hD
        obtain ⟨o, v, ho, hy, hD⟩ := hD
        have VQ := hr i (List.mem_cons_self ..)
        have hnd' := List.nodup_cons.1 hnd
        exact ihr ((i, v) :: aG) aN h listed a w hlf inv (Na hm VQ.2.1 VQ.2.2) (Qw hS VQ.1 VQ.2.2 ho hy) hEk (fun j hj => by
          have h1 := hr j (List.mem_cons_of_mem _ hj)
          have hji : i ≠ j := fun e => hnd'.1 (e ▸ hj)
          exact ⟨h1.1, h1.2.1, by rw [bM, if_neg hji]; exact h1.2.2⟩) hnd'.2 (by simpa [A7] using dU) (fun j hj hl => by
          by_cases hji : i = j
          · subst hji; exact .inl ⟨v, by rw [bM, if_pos rfl]⟩
          · rcases hcov j hj hl with ⟨u, hu⟩ | h
            · exact .inl ⟨u, by rw [bM, if_neg hji]; exact hu⟩
            · exact .inr ((List.mem_cons.1 h).resolve_left (Ne.symm hji))) hle ny hD
      | false =>
        intro aG aN h listed a w hlf inv hm hS hEk hr hnd dU hcov hle ny hD
        exact STEP ((i, false) :: r0) aG aN h listed a w hlf inv hm hS hEk hr hnd dU hcov hle ny hD (fun p r e => by cases e; rfl)
    | nil =>
      intro aG aN h listed a w hlf inv hm hS hEk hr hnd dU hcov hle ny hD
      exact STEP [] aG aN h listed a w hlf inv hm hS hEk hr hnd dU hcov hle ny hD (fun p r e => by cases e)
theorem Nc {ops:List Oper} (k t0:Nat) (S:List Nat) (C:List (Nat × Bool)) (h0:Hp) (hB:EJ ops.toArray n k t0 S C=true) (hf:bu l (dstsOf ops.toArray k)=true) (hle0:aF h0 hp) (hds:bP ops 0=ds)
  (h:DS P n w0 mu ops.toArray ds l h0 hp t0 (fun Xn=>Dk P n w0 mu ops.toArray ds l h0 hp t0 (fun aG aN hc=>Ops P n w0 mu ops.toArray (ops.drop k) (aY ds (aN++aG)++l) hc Q) C Xn [] hp) S []):lq P n w0 mu ops.toArray l hp Q:=by
 intro a w hk hG
 simp only [EJ,Bool.and_eq_true] at hB
 obtain ⟨⟨⟨⟨⟨hd,hback⟩,oU⟩,dU⟩,fQ⟩,qf⟩:=hB
 simp only [nJ,Bool.and_eq_true,decide_eq_true_eq] at oU
 obtain ⟨⟨hnd,hlt⟩,hcov⟩:=oU
 have hlt':∀ i∈S++C.map (·.1),i<k:=fun i hi=>by have:=List.all_eq_true.1 hlt i hi;simpa using this
 rw [List.nodup_append] at hnd
 obtain ⟨wz,yR,YV⟩:=hnd
 obtain ⟨aG,hX,Gj,nP,hsS⟩:=Es S [] wz (fun _ _=>rfl) (fun _ _ h=>by cases h) h (fun i v hv=>by cases hv)
 simp only [lk,reduceCtorEq,exists_false,or_false] at nP
 have hks:k≤ops.toArray.size:=by
  simp only [oQ,Bool.or_eq_true,Bool.and_eq_true,decide_eq_true_eq] at fQ
  rcases fQ with h | h<;>omega
 have jR:∀ i d,lk ds i=some d→aQ ops.toArray i=some d:=fun i d h=>by rw [← hds] at h;have:=(jb ops 0 i d h).2;simpa [aQ] using this
 have inv0:HeadInv .any ops.toArray k (Array.replicate ops.toArray.size false):=
  ⟨by simp,fun j oj _ hl=>av6,fun t _ ht=>getD_in ay4 (getD_replicate_false _ _)⟩
 have zC:∀ i,i<k→(Array.replicate ops.toArray.size false).getD i true=false:=fun i hi=>getD_in ay5 (getD_replicate_false _ _)
 have hleft:leftOf k (Array.replicate ops.toArray.size false)=k:=by
  unfold leftOf
  rw [List.filter_eq_self.2]
  ·simp
  ·intro i hi
   simp only [zC i ay0,Bool.not_false]
 have key:=Js jR (P:=P) (n:=n) (w0:=w0) (mu:=mu) (l:=l) (hp:=hp) (h0:=h0) (all:=ops.toArray) (k:=k) (t0:=t0) (g:=ops.toArray.size - k) (Q':=QQ n w0 mu Q) (X:=fun aG aN hc=>Ops P n w0 mu ops.toArray (ops.drop k) (aY ds (aN++aG)++l) hc Q) hks hd hf hback hle0
  (fun i hi hdn=>by
   have:=List.all_eq_true.1 qf i (List.mem_range.2 hi)
   rw [hdn] at this
   simp only [Option.isSome_none,Bool.false_or,Bool.or_eq_true] at this
   rcases this with h | h
   ·exact .inl (Nat.eq_of_beq_eq_true h)
   ·exact .inr h)
  (fun aG aN h listed inv hall hX a w hmid hEk WV Gj=>by
   have mG:Knows n (aY ds (aN++aG)++l) a:=by
    refine ⟨hmid.size,hmid.defers,fun t v ht=>?_⟩
    rcases dW ht with ht | ⟨_,ht⟩
    ·obtain ⟨j,h1,h2⟩:=ig (gm ht)
     rcases List.mem_append.1 h1 with h1 | h1
     ·exact (hmid.jZ j v h1).2 t (jR _ _ h2)
     ·have hj:=Gj j v h1
      have hjk:=WV j v hj
      refine hmid.nU j v hj ?_ t (jR _ _ h2)
      have h5:=hall j hjk
      cases hcc:listed.getD j false with
      | true=>rfl
      | false=>rw [getD_in av7 hcc] at h5;cases h5
    ·exact hmid.has t v ht
   have hfin:=hX a w mG hmid.good
   simp only [oQ,Bool.or_eq_true,Bool.and_eq_true,decide_eq_true_eq] at fQ
   rcases fQ with AO | ⟨⟨⟨qY,hs⟩,hc⟩,hseq⟩
   ·have e0:ops.drop k=[]:=List.drop_eq_nil_of_le (by simp at AO;omega)
    rw [e0] at hfin
    rw [show ops.toArray.size - k=0 by omega]
    refine ⟨?_,hfin⟩
    rw [List.eq_nil_iff_forall_not_mem]
    intro i hi
    obtain ⟨hun,o,ho,_⟩:=mem_ready.1 hi
    have hi':i<k:=by rw [AO];exact (Array.getElem?_eq_some_iff.1 ho).1
    rw [hall i hi'] at hun;cases hun
   ·have hl:listed=(Array.replicate k true)++(Array.replicate (ops.toArray.size - k) false):=by
     apply Array.ext
     ·simp [inv.size];simp at qY;omega
     ·intro i h1 h2
      by_cases hi:i<k
      ·have:=hall i hi
       simp [h1] at this
       rw [Array.getElem_append_left ay0]
       simpa using this
      ·have h3:=inv.tail i au' ax'
       simp [h1] at h3
       rw [Array.getElem_append_right aw0]
       simpa using h3
    have hdl:(ops.drop k).length=ops.toArray.size - k:=by simp
    rw [← hdl]
    exact wpAny_of_seq (ops.drop k) k listed a w (fun j=>by simp) ay6 hfin)
  (fun listed inv i hi hun t ht=>by
   simp only [oQ,Bool.or_eq_true,Bool.and_eq_true,decide_eq_true_eq] at fQ
   rcases fQ with h | ⟨⟨⟨qY,hs⟩,hc⟩,hseq⟩
   ·intro hr
    obtain ⟨_,o,ho,_⟩:=mem_ready.1 hr
    have:=(Array.getElem?_eq_some_iff.1 ho).1
    omega
   ·exact tail_waits hs hc qY inv _ i rfl hi hun t ht)
  k C aG [] hp _ a { w with drawn:=w.drawn + 1 } hleft inv0 ⟨hk.size,hk.defers,hk.has,hG.drawn _,fun i v _ hl=>av6,fun i v hv=>by cases hv⟩ ⟨fun i v hv=>⟨hlt' i (List.mem_append_left _ ((nP i).1 ⟨v,hv⟩)),by
   obtain ⟨o,bC,h1,h2,h3⟩:=hsS i v hv
   exact ⟨o,bC,h1,fun j u hu=>.inr (h2 j u aw4),h3⟩⟩,Gj⟩ (fun i v hv=>by cases hv)
  (fun i hi=>⟨hlt' i (List.mem_append_right _ hi),zC i (hlt' i (List.mem_append_right _ hi)),by
   cases hv:lk aG i with
   | none=>rfl
   | some v=>exact absurd rfl (YV i ((nP i).1 ⟨v,hv⟩) i hi)⟩) yR dU
  (fun i hi _=>by
   have:=bV (List.all_eq_true.1 hcov i (List.mem_range.2 hi))
   rcases List.mem_append.1 this with h | h
   ·exact .inl ((nP i).2 h)
   ·exact .inr h) hle0 (fun _=>aF.refl _) hX
 have e:k + (ops.toArray.size - k)=ops.toArray.size:=by omega
 rw [e] at key
 exact key
end
section
variable {n : Nat} {w0 : World} {mu : List Nat} {l : Fm} {h0 hp hc : Hp} {Q : Exit → Fm → Hp → Prop} {all : Array Oper} {aG iv aN : Fm} {k t0 i d : Nat} {ds : List (Nat × Nat)} {r : List (Nat × Bool)} {Y : Fm → Fm → Hp → Prop} {op : Op} {ty : TypeId} {pos : String} {af : Array Edge} {v : Value}
theorem EK {id:Nat} {ops tl:List Oper} (k t0:Nat) (S:List Nat) (C:List (Nat × Bool)) (h0:Hp) (h:DS Tryz.prog n w0 mu ops.toArray ds l h0 hp t0 (fun Xn=>Dk Tryz.prog n w0 mu ops.toArray ds l h0 hp t0 (fun aG aN hc=>Ops Tryz.prog n w0 mu ops.toArray tl (aY ds (aN++aG)++l) hc Q) C Xn [] hp) S [])
  (hle0:aF h0 hp:=by (exact ak)) (hds:bP ops 0=ds:=by (simp only [bP,Nat.reduceAdd,Nat.zero_add];rfl)) (htl:ops.drop k=tl:=by (simp only [List.drop_succ_cons,List.drop_zero,List.drop_nil];rfl)) (hm:Tryz.prog.follows .mixedOrders=true:=by kernel_rfl) (hB:EJ ops.toArray n k t0 S C=true:=by decide +kernel) (hf:bu l (dstsOf ops.toArray k)=true:=by rfl):St Tryz.prog n w0 mu (.region id ops.toArray true) l hp Q:=
 qX hm (Nc k t0 S C h0 hB hf hle0 hds az7)
theorem Um (h:Y aG aN hc):Dk Tryz.prog n w0 mu all ds l h0 hp t0 Y [] aG aN hc:=h
theorem xC (h:fA Tryz.prog n w0 mu all ds l h0 aG (fun Cb hc'=>Dk Tryz.prog n w0 mu all ds l h0 hp t0 Y r aG Cb hc') [i] aN hc):Dk Tryz.prog n w0 mu all ds l h0 hp t0 Y ((i,false)::r) aG aN hc:=by
 obtain ⟨o,ho,h⟩:=h
 refine ⟨o,ho,?_⟩
 rcases h with ⟨h1,R,h2,h3⟩ | ⟨h1,h',h2,h3,h4⟩
 ·exact .inl ⟨h1,R,h2,h3⟩
 ·exact .inr (.inl ⟨h1,h',h2,h3,h4⟩)
theorem VU {x:Operand} (h:Dk Tryz.prog n w0 mu all ds l h0 hp t0 Y r ((i,v)::aG) aN hc) (ho:all[i]?=some ⟨some d,.move x,ty,pos,af,none⟩:=by rfl) (hx:ev (aA ds (aN++aG) af.toList++l) x=some v:=by rfl):Dk Tryz.prog n w0 mu all ds l h0 hp t0 Y ((i,true)::r) aG aN hc:=⟨_,v,ho,Pg hx,h⟩
theorem qJ {x:Operand} {j:Nat} {vs:Array Value} (h:Dk Tryz.prog n w0 mu all ds l h0 hp t0 Y r ((i,v)::aG) aN hc) (ho:all[i]?=some ⟨some d,.extract x j,ty,pos,af,none⟩:=by rfl) (hx:ev (aA ds (aN++aG) af.toList++l) x=some (.tuple vs):=by rfl) (hj:nth vs.toList j=some v:=by rfl):Dk Tryz.prog n w0 mu all ds l h0 hp t0 Y ((i,true)::r) aG aN hc:=⟨_,v,ho,CS hx hj,h⟩
end
section
variable {P : Program} {T : Tab} {n : Nat} {w0 : World} {mu : List Nat} {l : Fm} {hp : Hp} {ty : TypeId} {pos : String} {af : Array Edge} {Q : Exit → Fm → Hp → Prop} {all : Array Oper} {rest : List Oper}
theorem Jt (ok:bf P T) {t d e sz jG m c a o:Nat} {x y:Operand} {z:Value} {news:List Value} (hx:ev l x=some (.slice none 0 0)) (hy:ev l y=some (.slice (some ⟨a,o,none⟩) m c)) (ht:lk T.sl t=some (e,sz))
  (hz:lk T.zs e=some z) (hzs:z.cells.size=sz) (hb:lk T.eb e=some jG) (hm:0<m) (hl:news.length=m * sz) (hnews:lJ w0 mu hp a o news) (h63:m≤1048576) (h48:m * jG≤281474976710656):Zi P n w0 mu all l hp ⟨some d,.call { callee:=.builtin .append,args:=#[x,y],argTypes:=#[t,t] },ty,pos,af,none⟩ (fun v h'=>∃ g cap cur,Row g cap cur sz m news∧v=.slice (some ⟨g,0,none⟩) m cap∧h'=⟨g,cur,e⟩::hp):=by
 refine ⟨fun a _=>by simp [Region.wanted],fun ac w hk hG K Q' hK=>?_⟩
 obtain ⟨hu,hsz⟩:=ok.zI ht
 have hbb:=List.all_eq_true.1 ok.eb _ (iP hb)
 simp only [beq_iff_eq] at hbb
 obtain ⟨i,hi,hiz,his,hib⟩:=qU hsz hbb (ok.LK hz)
 subst his hib
 have hr:=run_append_nil (P:=P) w t ty e i z hu hi hiz ⟨a,o,none⟩ m c news hl (fun j u hj=>by rw [Addr.add_mid];exact hnews w hG j u hj) hm au' h48
 unfold Oper.wp execOp
 simp only [resolve,invoke,builtin,Sem.run_bind,Sem.run_pure,Result.andThen_ok,List.map_toArray,List.map_cons,List.map_nil,hk.ev hx,hk.ev hy,hr]
 have hrow:=zM (w:=w) (z:=z) (sz:=i.size) (k:=0) (m:=m) (old:=0) (e:=e) (xs:=[]) (news:=news) hzs av4 hl ay'
 simp only [Nat.zero_add,List.nil_append,Array.empty_append] at hrow
 have hG':=(hG.drawn (w.drawn + 1)).alloc (news.toArray++Builtin.zeroCells z.cells (grownCap w m 0 e - m)) e
 exact hK _ _ _ ⟨_,_,_,hrow,rfl,rfl⟩ hG'
theorem Ju (ok:bf P T) {t d e sz jG k m c a o g cap:Nat} {cur:Array Value} {x y:Operand} {z:Value} {xs news:List Value} {hp':Hp} (hx:ev l x=some (.slice (some ⟨g,0,none⟩) k cap)) (hy:ev l y=some (.slice (some ⟨a,o,none⟩) m c)) (ht:lk T.sl t=some (e,sz))
  (hz:lk T.zs e=some z) (hzs:z.cells.size=sz) (hb:lk T.eb e=some jG) (hperm:(⟨g,cur,e⟩::hp').Perm hp) (hown:Row g cap cur sz k xs) (hl:news.length=m * sz) (hnews:lJ w0 mu hp a o news) (h1:news.all (·.oneCell')=true) (h63:k + m≤1048576) (h48:(k + m + (k + m) / 4 + 192) * jG≤281474976710656):Zi P n w0 mu all l hp ⟨some d,.call { callee:=.builtin .append,args:=#[x,y],argTypes:=#[t,t] },ty,pos,af,none⟩ (fun v h'=>∃ g cap cur,Row g cap cur sz (k + m) (xs++news)∧v=.slice (some ⟨g,0,none⟩) (k + m) cap∧h'=⟨g,cur,e⟩::hp'):=by
 refine ⟨fun a _=>by simp [Region.wanted],fun ac w hk hG K Q' hK=>?_⟩
 obtain ⟨hu,hsz⟩:=ok.zI ht
 have hbb:=List.all_eq_true.1 ok.eb _ (iP hb)
 simp only [beq_iff_eq] at hbb
 obtain ⟨i,hi,hiz,his,hib⟩:=qU hsz hbb (ok.LK hz)
 subst his hib
 have hG':=hG.perm hperm
 have hg:=hG'.here _ (List.mem_cons_self ..)
 have hn:∀ j u,news[j]?=some u→w.cell? ((⟨a,o,none⟩:Addr).add j)=some u:=fun j u hj=>by rw [Addr.add_mid];exact hnews w hG j u hj
 by_cases hroom:k + m≤cap
 ·have hfit:k * i.size + news.length≤cur.size:=by rw [hl,hown.size,← Nat.add_mul];exact Nat.mul_le_mul_right _ hroom
  have hr:=run_append_room (P:=P) w t ty e i hu hi g k cap cur hg ⟨a,o,none⟩ m c news hl hn (fun u hu=>List.all_eq_true.1 h1 u hu) hroom hfit
  unfold Oper.wp execOp
  simp only [resolve,invoke,builtin,Sem.run_bind,Sem.run_pure,Result.andThen_ok,List.map_toArray,List.map_cons,List.map_nil,hk.ev hx,hk.ev hy,hr]
  refine hK _ _ _ ⟨_,_,_,⟨?_,hroom,hown.max,?_,?_⟩,rfl,rfl⟩ (hG'.row _)
  ·rw [List.length_append,hown.len,hl,Nat.add_mul]
  ·have:=hown.size
   simp only [List.size_toArray,List.length_append,List.length_take,List.length_drop,Array.length_toList]
   omega
  ·rw [hown.take,show (k + m) * i.size=(xs++news).length by rw [List.length_append,hown.len,hl,Nat.add_mul]]
   exact List.take_left
 ·have holds:∀ j u,xs[j]?=some u→w.cell? ((⟨g,0,none⟩:Addr).add j)=some u:=by
   intro j u hj
   rw [Addr.add_mid,cell_of_block hg]
   rw [← hown.take,List.getElem?_take] at hj
   split at hj
   ·simpa using hj
   ·cases hj
  have hr:=run_append_grow (P:=P) w t ty e i z hu hi hiz ⟨g,0,none⟩ k cap xs hown.len holds ⟨a,o,none⟩ m c news hl hn au' au' (growslice_fits_wide au' h48)
  unfold Oper.wp execOp
  simp only [resolve,invoke,builtin,Sem.run_bind,Sem.run_pure,Result.andThen_ok,List.map_toArray,List.map_cons,List.map_nil,hk.ev hx,hk.ev hy,hr]
  have hG2:=((hG'.sub (hp':=hp') (List.sublist_cons_self _ _)).drawn (w.drawn + 1)).alloc (xs.toArray++news.toArray++Builtin.zeroCells z.cells (grownCap w (k + m) cap e - (k + m))) e
  have hrow:=zM (w:=w) (k:=k) (m:=m) (old:=cap) (e:=e) hzs hown.len hl ay'
  exact hK _ _ _ ⟨_,_,_,hrow,rfl,rfl⟩ hG2
end
theorem Un {P:Program} {n:Nat} {w0:World} {mu:List Nat} {all:Array Oper} {l:Fm} {hp:Hp} {o:Oper} {R R':RT} (h:Zi P n w0 mu all l hp o R) (hr:∀ v h',R v h'→∃ h2,R' v h2∧h2.Perm h'):Zi P n w0 mu all l hp o R':=
 ⟨h.1,fun a w hk hG K Q hK=>h.2 a w hk hG K Q fun v h' w' hR hG'=>by
  obtain ⟨h2,h3,h4⟩:=hr v h' hR
  exact hK v h2 w' h3 (hG'.perm h4)⟩
section
variable {n : Nat} {w0 : World} {mu : List Nat} {l : Fm} {h0 hp hc : Hp} {all : Array Oper} {ds : List (Nat × Nat)} {t0 : Nat} {aG aN : Fm} {Y : Fm → Fm → Hp → Prop} {i d : Nat} {r : List (Nat × Bool)} {ty : TypeId} {pos : String} {af : Array Edge}
theorem Zj {t e sz jG cc a:Nat} {x y:Operand} {z v:Value} {c:List Value} {ha hp':Hp} {xs:List (List Value)} (hA:Acc e sz v ha xs) (hnews:lJ w0 mu hc a 0 c) (h63:xs.length<1000000) (hperm:(ha++hp').Perm hc) (hle:aF h0 hp')
  (h:∀ v' ha',Acc e sz v' ha' (xs++[c])→Dk Tryz.prog n w0 mu all ds l h0 hp t0 Y r aG ((i,v')::aN) (ha'++hp')) (ho:all[i]?=some ⟨some d,.call { callee:=.builtin .append,args:=#[x,y],argTypes:=#[t,t] },ty,pos,af,none⟩:=by rfl) (hit:(i=t0∨Region.waitsFor .any all i t0=true)∨aF hp hp':=by exact .inl (.inl rfl))
  (hx:ev (aA ds (aN++aG) af.toList++l) x=some v:=by rfl) (hy:ev (aA ds (aN++aG) af.toList++l) y=some (.slice (some ⟨a,0,none⟩) 1 cc):=by rfl) (ht:lk Tb.sl t=some (e,sz):=by rfl)
  (hz:lk Tb.zs e=some z:=by rfl) (hzs:z.cells.size=sz:=by rfl) (hb:lk Tb.eb e=some jG:=by rfl) (hby:Nat.ble jG 4096=true:=by rfl) (hl:c.length=sz:=by rfl) (h1:c.all (·.oneCell')=true:=by rfl):Dk Tryz.prog n w0 mu all ds l h0 hp t0 Y ((i,false)::r) aG aN hc:=by
 have vC:jG≤4096:=Nat.le_of_ble_eq_true hby
 have hall:∀ c'∈xs++[c],c'.length=sz∧c'.all (·.oneCell')=true:=by
  intro c' hc'
  rcases List.mem_append.1 hc' with hc' | hc'
  ·exact hA.1 c' hc'
  ·obtain rfl:=List.mem_singleton.1 hc';exact ⟨hl,h1⟩
 rcases hA.2 with ⟨rfl,rfl,rfl⟩ | ⟨hne,g,cap,cur,rfl,rfl,hrow⟩
 ·refine ⟨_,ho,.inr (.inr ⟨rfl,fun v h'=>∃ g cap cur,Row g cap cur sz 1 c∧v=.slice (some ⟨g,0,none⟩) 1 cap∧h'=⟨g,cur,e⟩::hp',Un (Jt ay hx hy ht hz hzs hb au' az0 hnews au' au') ?_,?_⟩)⟩
  ·rintro _ _ ⟨g,cap,cur,hr,rfl,rfl⟩
   exact ⟨_,⟨g,cap,cur,hr,rfl,rfl⟩,(hperm.cons _:(⟨g,cur,e⟩::([]++hp')).Perm (⟨g,cur,e⟩::hc))⟩
  rintro _ _ ⟨g,cap,cur,hr,rfl,rfl⟩
  refine ⟨?_,hit.imp id fun h2=>bU fun b=>?_,?_⟩
  ·refine bU fun b=>?_
   have:=hle.cnt b
   rw [bJ]
   omega
  ·have:=h2.cnt b
   show _≤mg b (⟨g,cur,e⟩::hp')
   rw [bJ]
   omega
  ·exact h (.slice (some ⟨g,0,none⟩) 1 cap) [⟨g,cur,e⟩] ⟨hall,.inr ⟨by simp,g,cap,cur,rfl,rfl,by simpa using hr⟩⟩
 ·refine ⟨_,ho,.inr (.inr ⟨rfl,_,Ju ay hx hy ht hz hzs hb hperm hrow az0 hnews h1 au' ?_,?_⟩)⟩
  ·have h2:(xs.length + 1 + (xs.length + 1) / 4 + 192)≤2000000:=by omega
   calc _≤2000000 * jG:=Nat.mul_le_mul_right _ h2
    _≤2000000 * 4096:=Nat.mul_le_mul_left _ vC
    _≤_:=by decide
  rintro _ _ ⟨g,cap,cur,hr,rfl,rfl⟩
  refine ⟨?_,hit.imp id fun h2=>bU fun b=>?_,?_⟩
  ·refine bU fun b=>?_
   have:=hle.cnt b
   show _≤mg b (⟨g,cur,e⟩::hp')
   rw [bJ]
   omega
  ·have:=h2.cnt b
   show _≤mg b (⟨g,cur,e⟩::hp')
   rw [bJ]
   omega
  ·exact h (.slice (some ⟨g,0,none⟩) (xs.length + 1) cap) [⟨g,cur,e⟩] ⟨hall,.inr ⟨by simp,g,cap,cur,by simp,rfl,by simpa using hr⟩⟩
end
end
section
attribute [local irreducible] Hy St Ops DH gB
structure kV where
 frame:Int
 mid:Int
 r:Bool
 w:Bool
 x:Bool
 af:Bool
 ng:Bool
 soft:Int
 level:Int
deriving DecidableEq
def Jv:kV:=⟨0,0,false,false,false,false,false,0,0⟩
instance : Inhabited kV := ⟨Jv⟩
abbrev Sj (h:kV):Value:=.agg #[.int .i64 h.frame,.int .i64 h.mid,.bool h.r,.bool h.w,.bool h.x,.bool h.af,.bool h.ng,.int .i64 h.soft,.int .i64 h.level]
structure nD where
 kind:Int
 stage:Int
 level:Int
 walk:Bool
 page:Int
deriving DecidableEq
def jQ:nD:=⟨0,0,0,false,0⟩
instance : Inhabited nD := ⟨jQ⟩
abbrev xZ (f:nD):Value:=.agg #[.int .i64 f.kind,.int .i64 f.stage,.int .i64 f.level,.bool f.walk,.int .i64 f.page]
def vF (r w x:Bool) (acc:Int):Bool:=decide (acc=0) && r || decide (acc=1) && w || decide (acc=2) && x
def gQ (r w x af:Bool) (acc stage level page:Int):nD:=bif !af then ⟨3,stage,level,false,page⟩ else bif !vF r w x acc then ⟨4,stage,level,false,page⟩ else jQ
structure Og where
 h:kV
 f:nD
 rd:List Int
deriving Inhabited
def Cc (ws:List Nat) (stage:Int) (p level:Nat):DsD:=Jk stage level (ws.getD p 0)
theorem rQ (ws:List Nat) (stage:Int) (p level:Nat):(Cc ws stage p level).may stage level=true:=TS _ _ _
def rU (n:Nat) (stage:Int) (page level:Nat) (d:DsD) (rd:List Int):Og:=
 bif decide (d.kind=0) then ⟨Jv,⟨2,stage,level,false,page⟩,rd⟩
 else bif dS n (d.frame + ((page % aP level:Nat):Int)) then ⟨⟨d.frame + ((page % aP level:Nat):Int),0,d.r,d.w,d.x,d.af,d.ng,d.soft,level⟩,jQ,rd⟩
 else ⟨Jv,⟨1,stage,level,false,page⟩,rd⟩
def G6 (ws : List Nat) (stage : Int) (page : Nat) : Nat → Nat → Int → List Int → Og
  | 0, level, f, rd => ⟨Jv, ⟨2, stage, 3, false, page⟩, rd⟩
  | k + 1, level, f, rd => bif dS ws.length f then
      (bif decide ((Cc ws stage (sK f level page) level).kind = 1) then G6 ws stage page k (level + 1) (Cc ws stage (sK f level page) level).frame (rd ++ [f])
       else rU ws.length stage page level (Cc ws stage (sK f level page) level) (rd ++ [f]))
    else ⟨Jv, ⟨1, stage, level, false, page⟩, rd⟩
def jA (ws:List Nat) (stage frame:Int) (page:Nat):Og:=G6 ws stage page 4 0 frame []
def vG (W:Og) (mid:Nat) (acc:Int):nD:=bif decide (W.f.kind=0) then gQ W.h.r W.h.w W.h.x W.h.af acc 2 W.h.level mid else W.f
def Jw (W:Og) (mid:Nat) (acc:Int):Og:=bif !decide ((vG W mid acc).kind=0) then ⟨Jv,vG W mid acc,W.rd⟩ else ⟨{ W.h with mid:=mid },vG W mid acc,W.rd⟩
def jo (ws:List Nat) (on:Bool) (frame:Int) (mid:Nat) (acc:Int):Og:=
 bif !on then (bif dS ws.length mid then ⟨⟨mid,mid,true,true,true,true,false,0,0⟩,jQ,[]⟩ else ⟨Jv,⟨1,2,0,false,mid⟩,[]⟩)
 else Jw (jA ws 2 frame mid) mid acc
theorem EL (r w x af ng:Bool) (soft acc:Int) (W:World):Fn Tryz.prog 185 [.agg #[.bool r,.bool w,.bool x,.bool af,.bool ng,.int .i64 soft],.int .i64 acc].toArray W [] (fun u _=>u=.bool (vF r w x acc)):=by
 refine enter Tryz.func185 ?_
 refine az ?_
 intro B
 refine fin1 ?_
 simp only [vF]
theorem KG (r w x af ng:Bool) (soft acc stage level page:Int) (W:World):Fn Tryz.prog 187 [.agg #[.bool r,.bool w,.bool x,.bool af,.bool ng,.int .i64 soft],.int .i64 acc,.int .i64 stage,.int .i64 level,.int .i64 page].toArray W [] (fun u _=>u=xZ (gQ r w x af acc stage level page)):=by
 refine enter Tryz.func187 ?_
 refine run ?_
 intro B C D
 refine aj _ rfl (fun hc=>?_) (fun hc=>?_)
 ·refine run ?_
  refine gK ?_
  simp only [gQ,hc,cond_true]
 refine run ?_
 refine ax (fun wc hG=>EL r w x af ng soft acc wc) ?_
 refine run ?_
 refine aj _ rfl (fun hc2=>?_) (fun hc2=>?_)
 ·refine run ?_
  refine gK ?_
  simp only [gQ,hc,hc2,cond_true,cond_false]
 refine run ?_
 refine gK ?_
 simp only [gQ,hc,hc2,cond_true,cond_false]
 rfl
theorem Uo (ws:List Nat) (hw:tu ws) {w:World} {v:Value} (h:aB w v 1 (ws.map uV)) (hn:ws.length<1000000) (stage:Int) (hs:stage=1∨stage=2) (frame:Int) (h0:0≤frame) (page:Nat) (hp:page≤4095):Fn Tryz.prog 206 [.agg #[v],.int .i64 stage,.int .i64 frame,.int .i64 (page:Int)].toArray w [] (fun u hn=>∃ v2 h2,u=.tuple #[Sj (jA ws stage frame page).h,xZ (jA ws stage frame page).f,v2]∧Own 3 1 v2 h2 ((jA ws stage frame page).rd.map dH)∧aF h2 hn):=by
 obtain ⟨q,cap,rfl,hne,hle⟩:=h.opened
 refine enter Tryz.func206 ?_
 refine run ?_
 intro B C D E
 have e4:∀ f:Int,0≤f→decide (f ≥ ((ws.length / 8:Nat):Int))=!dS ws.length f:=fun f hf=>by
  rw [Bool.eq_iff_iff];simp [dS];omega
 refine cO (σ:=Nat × Int × Value × Hp × List Int × Int) (fun s=>[(13,.int .i64 (s.1:Int)),(2,.int .i64 s.2.1),(11,s.2.2.1)]) (fun s=>⟨E,#[.int .i64 0,.int .i64 stage,.int .i64 s.2.2.2.2.2,.bool false,.int .i64 (page:Int)],43⟩::⟨D,#[.int .i64 0,.int .i64 0,.int .i64 0,.bool false,.int .i64 0],43⟩::⟨C,#[.int .i64 0,.int .i64 0,.bool false,.bool false,.bool false,.bool false,.bool false,.int .i64 0,.int .i64 0],234⟩::⟨B,#[.slice q ws.length cap],24⟩::s.2.2.2.1) (fun s=>s.1<4∧0≤s.2.1∧s.2.2.2.2.1.length=s.1∧G6 ws stage page (4 - s.1) s.1 s.2.1 s.2.2.2.2.1=jA ws stage frame page∧Acc 3 1 s.2.2.1 s.2.2.2.1 (s.2.2.2.2.1.map dH)) (fun s=>4 - s.1) (0,frame,.slice none 0 0,[],[],0) ⟨(by decide:0<4),h0,rfl,rfl,Acc.nil _ _⟩ ?_ (hh:=by exact aF.refl _)
 rintro ⟨level,f,v2,ha,rd,lv⟩ m hm ⟨hl,hf0,hrd,hwk,hA⟩
 dsimp only at hm hl hf0 hrd hwk hA ⊢
 obtain ⟨q2,cap2,rfl⟩:=hA.own.opened
 refine run ?_
 refine aj _ rfl (fun hc=>?_) (fun hc=>absurd hc aw0)
 refine run ?_
 refine ax (fun wc hG=>uY ws.length cap au' q wc) ?_
 refine run ?_
 have h4:4 - level=(3 - level) + 1:=by omega
 rw [h4,G6] at hwk
 have e5:=e4 f hf0
 refine aj _ rfl (fun hc=>?_) (fun hc=>?_)
 ·have hh:dS ws.length f=false:=by simpa using e5.symm.trans hc
  rw [hh,cond_false] at hwk
  rw [← hwk]
  refine run ?_
  refine dN 5 3 [0,1,2] [3,4] (⟨E,#[.int .i64 1,.int .i64 stage,.int .i64 (level:Int),.bool false,.int .i64 (page:Int)],43⟩::⟨B,#[.slice q ws.length cap],24⟩::ha) ?_
  refine dh ?_
  refine aV (b:=C) (tb:=234) (cs:=#[.int .i64 0,.int .i64 0,.bool false,.bool false,.bool false,.bool false,.bool false,.int .i64 0,.int .i64 0]) (cs':=#[.int .i64 0,.int .i64 0,.bool false,.bool false,.bool false,.bool false,.bool false,.int .i64 0,.int .i64 0]) (hp':=⟨E,#[.int .i64 1,.int .i64 stage,.int .i64 (level:Int),.bool false,.int .i64 (page:Int)],43⟩::⟨D,#[.int .i64 0,.int .i64 0,.int .i64 0,.bool false,.int .i64 0],43⟩::⟨B,#[.slice q ws.length cap],24⟩::ha) ?_ au
  refine aV (b:=D) (tb:=43) (cs:=#[.int .i64 0,.int .i64 0,.int .i64 0,.bool false,.int .i64 0]) (cs':=#[.int .i64 1,.int .i64 stage,.int .i64 (level:Int),.bool false,.int .i64 (page:Int)]) (hp':=⟨C,#[.int .i64 0,.int .i64 0,.bool false,.bool false,.bool false,.bool false,.bool false,.int .i64 0,.int .i64 0],234⟩::⟨E,#[.int .i64 1,.int .i64 stage,.int .i64 (level:Int),.bool false,.int .i64 (page:Int)],43⟩::⟨B,#[.slice q ws.length cap],24⟩::ha) ?_ au
  refine aH ?_
  refine di ?_
  refine run ?_
  exact zk (cs:=#[.int .i64 0,.int .i64 0,.bool false,.bool false,.bool false,.bool false,.bool false,.int .i64 0,.int .i64 0]) (cs2:=#[.int .i64 1,.int .i64 stage,.int .i64 (level:Int),.bool false,.int .i64 (page:Int)]) ⟨_,ha,rfl,hA.own,by (exact ak)⟩
 ·have hh:dS ws.length f=true:=by simpa using e5.symm.trans hc
  rw [hh,cond_true] at hwk
  refine run ?_
  intro T
  refine jD (c:=dH f) (hp':=⟨T,#[.int .i64 f],3⟩::⟨E,#[.int .i64 0,.int .i64 stage,.int .i64 (level:Int),.bool false,.int .i64 (page:Int)],43⟩::⟨D,#[.int .i64 0,.int .i64 0,.int .i64 0,.bool false,.int .i64 0],43⟩::⟨C,#[.int .i64 0,.int .i64 0,.bool false,.bool false,.bool false,.bool false,.bool false,.int .i64 0,.int .i64 0],234⟩::[⟨B,#[.slice q ws.length cap],24⟩]) hA (fun v' ha' hA'=>?_) aw0 (bT (m:=1) mh rfl) (hperm:=by (exact au))
  rw [show rd.map dH++[dH f]=(rd++[f]).map dH by simp] at hA'
  obtain ⟨q3,cap3,rfl⟩:=hA'.own.opened
  refine aJ (⟨E,#[.int .i64 0,.int .i64 stage,.int .i64 (level:Int),.bool false,.int .i64 (page:Int)],43⟩::⟨D,#[.int .i64 0,.int .i64 0,.int .i64 0,.bool false,.int .i64 0],43⟩::⟨C,#[.int .i64 0,.int .i64 0,.bool false,.bool false,.bool false,.bool false,.bool false,.int .i64 0,.int .i64 0],234⟩::⟨B,#[.slice q ws.length cap],24⟩::ha') ak ?_
  refine run ?_
  refine ax (fun wc hG=>GV ws hw (h.good hG) stage hs level hl f hh page hp hn) ?_
  rw [show Jk stage level (ws.getD (sK f level page) 0)=Cc ws stage (sK f level page) level from rfl]
  have hmay:=rQ ws stage (sK f level page) level
  generalize Cc ws stage (sK f level page) level=d at hwk hmay
  obtain ⟨hkk,hk0,hk1,hk2⟩:=jT hmay
  refine run ?_
  intro X
  refine run ?_
  refine aj _ rfl (fun hc2=>?_) (fun hc2=>?_)
  ·have hd1:d.kind=1:=by simpa using hc2
   obtain ⟨k1,k2,k3,k4⟩:=hk1 hd1
   rw [hc2,cond_true] at hwk
   refine run ?_
   refine bH (level + 1,d.frame,.slice q3 ((rd++[f]).map dH).length cap3,ha',rd++[f],(level:Int)) ⟨by dsimp only;omega,k2,by simp [hrd],by rw [← hwk,show 4 - (level + 1)=3 - level by omega],hA'⟩ (hm:=by dsimp only;omega) (h2:=by (exact ak))
  rw [hc2,cond_false] at hwk
  refine run ?_
  refine aj _ rfl (fun hc3=>?_) (fun hc3=>?_)
  ·rw [rU,hc3,cond_true] at hwk
   rw [← hwk]
   refine run ?_
   refine dN 5 3 [0,1,2] [3,4] (⟨E,#[.int .i64 2,.int .i64 stage,.int .i64 (level:Int),.bool false,.int .i64 (page:Int)],43⟩::⟨X,#[.int .i64 d.kind,.int .i64 d.frame,.bool d.r,.bool d.w,.bool d.x,.bool d.af,.bool d.ng,.int .i64 d.soft,.int .i64 d.note],258⟩::⟨B,#[.slice q ws.length cap],24⟩::ha') ?_
   refine dh ?_
   refine aV (b:=C) (tb:=234) (cs:=#[.int .i64 0,.int .i64 0,.bool false,.bool false,.bool false,.bool false,.bool false,.int .i64 0,.int .i64 0]) (cs':=#[.int .i64 0,.int .i64 0,.bool false,.bool false,.bool false,.bool false,.bool false,.int .i64 0,.int .i64 0]) (hp':=⟨E,#[.int .i64 2,.int .i64 stage,.int .i64 (level:Int),.bool false,.int .i64 (page:Int)],43⟩::⟨D,#[.int .i64 0,.int .i64 0,.int .i64 0,.bool false,.int .i64 0],43⟩::⟨X,#[.int .i64 d.kind,.int .i64 d.frame,.bool d.r,.bool d.w,.bool d.x,.bool d.af,.bool d.ng,.int .i64 d.soft,.int .i64 d.note],258⟩::⟨B,#[.slice q ws.length cap],24⟩::ha') ?_ au
   refine aV (b:=D) (tb:=43) (cs:=#[.int .i64 0,.int .i64 0,.int .i64 0,.bool false,.int .i64 0]) (cs':=#[.int .i64 2,.int .i64 stage,.int .i64 (level:Int),.bool false,.int .i64 (page:Int)]) (hp':=⟨C,#[.int .i64 0,.int .i64 0,.bool false,.bool false,.bool false,.bool false,.bool false,.int .i64 0,.int .i64 0],234⟩::⟨E,#[.int .i64 2,.int .i64 stage,.int .i64 (level:Int),.bool false,.int .i64 (page:Int)],43⟩::⟨X,#[.int .i64 d.kind,.int .i64 d.frame,.bool d.r,.bool d.w,.bool d.x,.bool d.af,.bool d.ng,.int .i64 d.soft,.int .i64 d.note],258⟩::⟨B,#[.slice q ws.length cap],24⟩::ha') ?_ au
   refine aH ?_
   refine di ?_
   refine run ?_
   exact zk (cs:=#[.int .i64 0,.int .i64 0,.bool false,.bool false,.bool false,.bool false,.bool false,.int .i64 0,.int .i64 0]) (cs2:=#[.int .i64 2,.int .i64 stage,.int .i64 (level:Int),.bool false,.int .i64 (page:Int)]) ⟨_,ha',rfl,hA'.own,by (exact ak)⟩
  have hd2:d.kind=2:=by simp at hc2 hc3;omega
  obtain ⟨k1,k2,k3,k4,k5⟩:=hk2 hd2
  have hcv:=jc hl
  have hmod:=Nat.mod_lt page (show 0<aP level by omega)
  rw [rU,hc3,cond_false] at hwk
  refine run ?_
  refine eU ?_
  refine cu ?_
  refine jY (fun wc hG=>qG level hl wc) ?_
  refine qo (fP rfl rfl page (aP level) rfl rfl au') ?_
  refine cu ?_
  refine run ?_
  have e6:=e4 (d.frame + ((page % aP level:Nat):Int)) au'
  refine ax (fun wc hG=>uY ws.length cap au' q wc) ?_
  refine run ?_
  refine aj _ rfl (fun hc4=>?_) (fun hc4=>?_)
  ·have hh2:dS ws.length (d.frame + ((page % aP level:Nat):Int))=false:=by simpa using e6.symm.trans hc4
   rw [hh2,cond_false] at hwk
   rw [← hwk]
   refine run ?_
   refine dN 5 3 [0,1,2] [3,4] (⟨E,#[.int .i64 1,.int .i64 stage,.int .i64 (level:Int),.bool false,.int .i64 (page:Int)],43⟩::⟨X,#[.int .i64 d.kind,.int .i64 d.frame,.bool d.r,.bool d.w,.bool d.x,.bool d.af,.bool d.ng,.int .i64 d.soft,.int .i64 d.note],258⟩::⟨B,#[.slice q ws.length cap],24⟩::ha') ?_
   refine dh ?_
   refine aV (b:=C) (tb:=234) (cs:=#[.int .i64 0,.int .i64 0,.bool false,.bool false,.bool false,.bool false,.bool false,.int .i64 0,.int .i64 0]) (cs':=#[.int .i64 0,.int .i64 0,.bool false,.bool false,.bool false,.bool false,.bool false,.int .i64 0,.int .i64 0]) (hp':=⟨E,#[.int .i64 1,.int .i64 stage,.int .i64 (level:Int),.bool false,.int .i64 (page:Int)],43⟩::⟨D,#[.int .i64 0,.int .i64 0,.int .i64 0,.bool false,.int .i64 0],43⟩::⟨X,#[.int .i64 d.kind,.int .i64 d.frame,.bool d.r,.bool d.w,.bool d.x,.bool d.af,.bool d.ng,.int .i64 d.soft,.int .i64 d.note],258⟩::⟨B,#[.slice q ws.length cap],24⟩::ha') ?_ au
   refine aV (b:=D) (tb:=43) (cs:=#[.int .i64 0,.int .i64 0,.int .i64 0,.bool false,.int .i64 0]) (cs':=#[.int .i64 1,.int .i64 stage,.int .i64 (level:Int),.bool false,.int .i64 (page:Int)]) (hp':=⟨C,#[.int .i64 0,.int .i64 0,.bool false,.bool false,.bool false,.bool false,.bool false,.int .i64 0,.int .i64 0],234⟩::⟨E,#[.int .i64 1,.int .i64 stage,.int .i64 (level:Int),.bool false,.int .i64 (page:Int)],43⟩::⟨X,#[.int .i64 d.kind,.int .i64 d.frame,.bool d.r,.bool d.w,.bool d.x,.bool d.af,.bool d.ng,.int .i64 d.soft,.int .i64 d.note],258⟩::⟨B,#[.slice q ws.length cap],24⟩::ha') ?_ au
   refine aH ?_
   refine di ?_
   refine run ?_
   exact zk (cs:=#[.int .i64 0,.int .i64 0,.bool false,.bool false,.bool false,.bool false,.bool false,.int .i64 0,.int .i64 0]) (cs2:=#[.int .i64 1,.int .i64 stage,.int .i64 (level:Int),.bool false,.int .i64 (page:Int)]) ⟨_,ha',rfl,hA'.own,by (exact ak)⟩
  have hh2:dS ws.length (d.frame + ((page % aP level:Nat):Int))=true:=by simpa using e6.symm.trans hc4
  rw [hh2,cond_true] at hwk
  rw [← hwk]
  refine run ?_
  exact zk (cs:=#[.int .i64 (d.frame + ((page % aP level:Nat):Int)),.int .i64 0,.bool d.r,.bool d.w,.bool d.x,.bool d.af,.bool d.ng,.int .i64 d.soft,.int .i64 (level:Int)]) (cs2:=#[.int .i64 0,.int .i64 0,.int .i64 0,.bool false,.int .i64 0]) ⟨_,ha',rfl,hA'.own,by (exact ak)⟩
theorem Xo (ws:List Nat) (hw:tu ws) {w:World} {v:Value} (h:aB w v 1 (ws.map uV)) (hn:ws.length<1000000) (on:Bool) (frame tag:Int) (h0:0≤frame) (mid:Nat) (hp:mid≤4095) (acc:Int):Fn Tryz.prog 181 [.agg #[v],.agg #[.bool on,.int .i64 frame,.int .i64 tag],.int .i64 (mid:Int),.int .i64 acc].toArray w [] (fun u hn=>∃ v2 h2,u=.tuple #[Sj (jo ws on frame mid acc).h,xZ (jo ws on frame mid acc).f,v2]∧Own 3 1 v2 h2 ((jo ws on frame mid acc).rd.map dH)∧aF h2 hn):=by
 obtain ⟨q,cap,rfl,hne,hle⟩:=h.opened
 refine enter Tryz.func181 ?_
 refine run ?_
 intro B R C D
 refine aj _ rfl (fun hc=>?_) (fun hc=>?_)
 ·simp only [jo,hc,cond_true]
  refine run ?_
  refine ax (fun wc hG=>uY ws.length cap au' q wc) ?_
  refine run ?_
  have e6:decide ((mid:Int) ≥ ((ws.length / 8:Nat):Int))=!dS ws.length (mid:Int):=by
   rw [Bool.eq_iff_iff];simp [dS]
  refine aj _ rfl (fun hc2=>?_) (fun hc2=>?_)
  ·have hh2:dS ws.length (mid:Int)=false:=by simpa using e6.symm.trans hc2
   rw [hh2,cond_false]
   refine run ?_
   exact zk (cs:=#[.int .i64 0,.int .i64 0,.bool false,.bool false,.bool false,.bool false,.bool false,.int .i64 0,.int .i64 0]) (cs2:=#[.int .i64 1,.int .i64 2,.int .i64 0,.bool false,.int .i64 (mid:Int)]) ⟨_,[],rfl,Own.nil _ _,trivial⟩
  have hh2:dS ws.length (mid:Int)=true:=by simpa using e6.symm.trans hc2
  rw [hh2,cond_true]
  refine run ?_
  exact zk (cs:=#[.int .i64 (mid:Int),.int .i64 (mid:Int),.bool true,.bool true,.bool true,.bool true,.bool false,.int .i64 0,.int .i64 0]) (cs2:=#[.int .i64 0,.int .i64 0,.int .i64 0,.bool false,.int .i64 0]) ⟨_,[],rfl,Own.nil _ _,trivial⟩
 simp only [jo,hc,cond_false]
 refine run ?_
 refine gX (fun wc hG=>Uo ws hw (h.good hG) hn 2 (.inr rfl) frame h0 mid hp) ?_
 rintro u hn2 ⟨v2,h2,rfl,hO,hle2⟩
 generalize jA ws 2 frame mid=W at hO
 obtain ⟨q2,cap2,rfl⟩:=hO.opened
 refine aJ (⟨D,#[.int .i64 0,.int .i64 0,.int .i64 0,.bool false,.int .i64 0],43⟩::⟨C,#[.int .i64 0,.int .i64 0,.bool false,.bool false,.bool false,.bool false,.bool false,.int .i64 0,.int .i64 0],234⟩::⟨R,#[.bool on,.int .i64 frame,.int .i64 tag],33⟩::⟨B,#[.slice q ws.length cap],24⟩::h2) (cnt1 hle2) ?_
 refine run ?_
 intro H F
 refine dX (σ:=nD) (fun _=>[]) (fun g=>⟨F,#[.int .i64 g.kind,.int .i64 g.stage,.int .i64 g.level,.bool g.walk,.int .i64 g.page],43⟩::⟨H,#[.int .i64 W.h.frame,.int .i64 W.h.mid,.bool W.h.r,.bool W.h.w,.bool W.h.x,.bool W.h.af,.bool W.h.ng,.int .i64 W.h.soft,.int .i64 W.h.level],234⟩::⟨D,#[.int .i64 0,.int .i64 0,.int .i64 0,.bool false,.int .i64 0],43⟩::⟨C,#[.int .i64 0,.int .i64 0,.bool false,.bool false,.bool false,.bool false,.bool false,.int .i64 0,.int .i64 0],234⟩::⟨R,#[.bool on,.int .i64 frame,.int .i64 tag],33⟩::⟨B,#[.slice q ws.length cap],24⟩::h2) (fun g=>g=vG W mid acc) ?_ ?_
 ·refine aj _ rfl (fun hc2=>?_) (fun hc2=>?_)
  ·refine run ?_
   refine ax (fun wc hG=>KG W.h.r W.h.w W.h.x W.h.af W.h.ng W.h.soft acc 2 W.h.level mid wc) ?_
   refine run ?_
   exact dA (gQ W.h.r W.h.w W.h.x W.h.af acc 2 W.h.level mid) (by simp only [vG,hc2,cond_true])
  ·refine run ?_
   exact dA W.f (by simp only [vG,hc2,cond_false])
 rintro g hg
 simp only [Jw]
 rw [← hg]
 refine run ?_
 refine aj _ rfl (fun hc3=>?_) (fun hc3=>?_)
 ·rw [hc3,cond_true]
  refine run ?_
  refine dN 5 3 [0,1,2] [3,4] (⟨F,#[.int .i64 g.kind,.int .i64 g.stage,.int .i64 g.level,.bool g.walk,.int .i64 g.page],43⟩::⟨H,#[.int .i64 W.h.frame,.int .i64 W.h.mid,.bool W.h.r,.bool W.h.w,.bool W.h.x,.bool W.h.af,.bool W.h.ng,.int .i64 W.h.soft,.int .i64 W.h.level],234⟩::⟨R,#[.bool on,.int .i64 frame,.int .i64 tag],33⟩::⟨B,#[.slice q ws.length cap],24⟩::h2) ?_
  refine dh ?_
  refine aV (b:=C) (tb:=234) (cs:=#[.int .i64 0,.int .i64 0,.bool false,.bool false,.bool false,.bool false,.bool false,.int .i64 0,.int .i64 0]) (cs':=#[.int .i64 0,.int .i64 0,.bool false,.bool false,.bool false,.bool false,.bool false,.int .i64 0,.int .i64 0]) (hp':=⟨F,#[.int .i64 g.kind,.int .i64 g.stage,.int .i64 g.level,.bool g.walk,.int .i64 g.page],43⟩::⟨H,#[.int .i64 W.h.frame,.int .i64 W.h.mid,.bool W.h.r,.bool W.h.w,.bool W.h.x,.bool W.h.af,.bool W.h.ng,.int .i64 W.h.soft,.int .i64 W.h.level],234⟩::⟨D,#[.int .i64 0,.int .i64 0,.int .i64 0,.bool false,.int .i64 0],43⟩::⟨R,#[.bool on,.int .i64 frame,.int .i64 tag],33⟩::⟨B,#[.slice q ws.length cap],24⟩::h2) ?_ au
  refine aV (b:=D) (tb:=43) (cs:=#[.int .i64 0,.int .i64 0,.int .i64 0,.bool false,.int .i64 0]) (cs':=#[.int .i64 g.kind,.int .i64 g.stage,.int .i64 g.level,.bool g.walk,.int .i64 g.page]) (hp':=⟨C,#[.int .i64 0,.int .i64 0,.bool false,.bool false,.bool false,.bool false,.bool false,.int .i64 0,.int .i64 0],234⟩::⟨F,#[.int .i64 g.kind,.int .i64 g.stage,.int .i64 g.level,.bool g.walk,.int .i64 g.page],43⟩::⟨H,#[.int .i64 W.h.frame,.int .i64 W.h.mid,.bool W.h.r,.bool W.h.w,.bool W.h.x,.bool W.h.af,.bool W.h.ng,.int .i64 W.h.soft,.int .i64 W.h.level],234⟩::⟨R,#[.bool on,.int .i64 frame,.int .i64 tag],33⟩::⟨B,#[.slice q ws.length cap],24⟩::h2) ?_ au
  refine aH ?_
  refine di ?_
  refine run ?_
  exact zk (cs:=#[.int .i64 0,.int .i64 0,.bool false,.bool false,.bool false,.bool false,.bool false,.int .i64 0,.int .i64 0]) (cs2:=#[.int .i64 g.kind,.int .i64 g.stage,.int .i64 g.level,.bool g.walk,.int .i64 g.page]) ⟨_,h2,rfl,hO,by (exact ak)⟩
 rw [hc3,cond_false]
 refine run ?_
 refine dN 5 3 [0,1,2] [3,4] (⟨F,#[.int .i64 g.kind,.int .i64 g.stage,.int .i64 g.level,.bool g.walk,.int .i64 g.page],43⟩::⟨H,#[.int .i64 W.h.frame,.int .i64 (mid:Int),.bool W.h.r,.bool W.h.w,.bool W.h.x,.bool W.h.af,.bool W.h.ng,.int .i64 W.h.soft,.int .i64 W.h.level],234⟩::⟨R,#[.bool on,.int .i64 frame,.int .i64 tag],33⟩::⟨B,#[.slice q ws.length cap],24⟩::h2) ?_
 refine dh ?_
 refine aV (b:=C) (tb:=234) (cs:=#[.int .i64 0,.int .i64 0,.bool false,.bool false,.bool false,.bool false,.bool false,.int .i64 0,.int .i64 0]) (cs':=#[.int .i64 W.h.frame,.int .i64 (mid:Int),.bool W.h.r,.bool W.h.w,.bool W.h.x,.bool W.h.af,.bool W.h.ng,.int .i64 W.h.soft,.int .i64 W.h.level]) (hp':=⟨F,#[.int .i64 g.kind,.int .i64 g.stage,.int .i64 g.level,.bool g.walk,.int .i64 g.page],43⟩::⟨H,#[.int .i64 W.h.frame,.int .i64 (mid:Int),.bool W.h.r,.bool W.h.w,.bool W.h.x,.bool W.h.af,.bool W.h.ng,.int .i64 W.h.soft,.int .i64 W.h.level],234⟩::⟨D,#[.int .i64 0,.int .i64 0,.int .i64 0,.bool false,.int .i64 0],43⟩::⟨R,#[.bool on,.int .i64 frame,.int .i64 tag],33⟩::⟨B,#[.slice q ws.length cap],24⟩::h2) ?_ au
 refine aV (b:=D) (tb:=43) (cs:=#[.int .i64 0,.int .i64 0,.int .i64 0,.bool false,.int .i64 0]) (cs':=#[.int .i64 g.kind,.int .i64 g.stage,.int .i64 g.level,.bool g.walk,.int .i64 g.page]) (hp':=⟨C,#[.int .i64 W.h.frame,.int .i64 (mid:Int),.bool W.h.r,.bool W.h.w,.bool W.h.x,.bool W.h.af,.bool W.h.ng,.int .i64 W.h.soft,.int .i64 W.h.level],234⟩::⟨F,#[.int .i64 g.kind,.int .i64 g.stage,.int .i64 g.level,.bool g.walk,.int .i64 g.page],43⟩::⟨H,#[.int .i64 W.h.frame,.int .i64 (mid:Int),.bool W.h.r,.bool W.h.w,.bool W.h.x,.bool W.h.af,.bool W.h.ng,.int .i64 W.h.soft,.int .i64 W.h.level],234⟩::⟨R,#[.bool on,.int .i64 frame,.int .i64 tag],33⟩::⟨B,#[.slice q ws.length cap],24⟩::h2) ?_ au
 refine aH ?_
 refine di ?_
 refine run ?_
 exact zk (cs:=#[.int .i64 W.h.frame,.int .i64 (mid:Int),.bool W.h.r,.bool W.h.w,.bool W.h.x,.bool W.h.af,.bool W.h.ng,.int .i64 W.h.soft,.int .i64 W.h.level]) (cs2:=#[.int .i64 g.kind,.int .i64 g.stage,.int .i64 g.level,.bool g.walk,.int .i64 g.page]) ⟨_,h2,rfl,hO,by (exact ak)⟩
end
section
section
variable {P : Program} {T : Tab} {n : Nat} {w0 : World} {mu : List Nat} {l : Fm} {hp : Hp} {Q : Exit → Fm → Hp → Prop} {all : Array Oper} {rest : List Oper} {ty : TypeId} {pos : String} {af : Array Edge}
theorem Dp (ok:bf P T) {t d e sz k cap c:Nat} {p q:Option Addr} {x y:Operand} {z:Value} (hd:Nat.blt d n=true) (hx:ev l x=some (.slice p k cap)) (hle:k≤cap) (hy:ev l y=some (.slice q 0 c)) (ht:lk T.sl t=some (e,sz)) (hz:lk T.zs e=some z)
  (h:Ops P n w0 mu all rest ((d,.slice p k cap)::l) hp Q):Ops P n w0 mu all (⟨some d,.call { callee:=.builtin .append,args:=#[x,y],argTypes:=#[t,t] },ty,pos,af,none⟩::rest) l hp Q:=by
 intro ac w hk hG
 have hput:∀ v,Knows n ((d,v)::l) (ac.put (some d) v):=fun v=>Knows.put (d:=some d) hk (fun t ht=>by cases ht;simpa using hd) v
 obtain ⟨hu,hsz⟩:=ok.zI ht
 refine wpList_plain rfl fun K hK=>?_
 have hr:(Builtin.append_ #[t,t] ty #[.slice p k cap,.slice q 0 c]).run P w=.ok (.slice p k cap) w:=by
  cases p<;>cases q<;>simp [Builtin.append_,run_underlying hu,run_sizeOf hsz w,Builtin.lenOf,Builtin.firstCells,hle,storeCells,loadCells,loadCellsFrom]
 unfold Oper.wp execOp
 simp only [resolve,invoke,builtin,Sem.run_bind,Sem.run_pure,Result.andThen_ok,List.map_toArray,List.map_cons,List.map_nil,hk.ev hx,hk.ev hy,hr]
 exact hK _ _ (h _ _ (hput _) hG)
end
section
variable {n : Nat} {w0 : World} {mu : List Nat} {l : Fm} {hp : Hp} {Q : Exit → Fm → Hp → Prop} {all : Array Oper} {rest : List Oper} {ty : TypeId} {pos : String} {af : Array Edge}
def uH (w0:World) (mu:List Nat) (hp:Hp) (v:Value) (ys:List (List Value)):Prop:=∃ q c,v=.slice q ys.length c∧(ys=[]∨∃ a o,q=some ⟨a,o,none⟩∧lJ w0 mu hp a o ys.flatten)
theorem uH.own {e sz:Nat} {v:Value} {ha:Hp} {ys:List (List Value)} (hA:Own e sz v ha ys) (hm:aF ha hp):uH w0 mu hp v ys:=by
 rcases hA.2 with ⟨rfl,rfl,rfl⟩ | ⟨g,cap,cur,rfl,rfl,hrow⟩
 ·exact ⟨_,_,rfl,.inl rfl⟩
 ·refine ⟨_,_,rfl,.inr ⟨g,0,rfl,?_⟩⟩
  have hb:(⟨g,cur,e⟩:aI)∈hp:=by
   obtain ⟨x,hx,_⟩:=hm
   exact hx.mem_iff.1 (List.mem_cons_self ..)
  refine bT (m:=ys.length * sz) hb ?_
  rw [List.drop_zero];exact hrow.take
theorem uH.old {sz:Nat} {w0:World} {hp:Hp} {v:Value} {α:Type} {f:α→List Value} {ys:List α} (h:aB w0 v sz (ys.map f)) (hall:∀ c∈ys.map f,c.length=sz):uH w0 [] hp v (ys.map f):=by
 obtain ⟨⟨p,c,rfl,hne⟩,_⟩:=h
 refine ⟨p,c,rfl,?_⟩
 by_cases h0:ys.map f=[]
 ·exact .inl h0
 ·obtain ⟨b,o,rfl,hr⟩:=hne h0
  exact .inr ⟨b,o,rfl,Gh (vM _ o hall hr) av4⟩
theorem aB.Zk {w:World} {α:Type} {f:α→List Value} {p:Option Addr} {n c i sz:Nat} {xs:List α} (h:aB w (.slice p n c) sz (xs.map f)) (hn:n=xs.length) (hc:n≤c) (hi:i≤n):∃ p',sliced p i n c sz=.slice p' (xs.drop i).length (c - i)∧(xs.drop i).length≤c - i∧aB w (.slice p' (xs.drop i).length (c - i)) sz ((xs.drop i).map f):=by
 subst hn
 obtain ⟨⟨q,cap,e,hne⟩,hle⟩:=h
 injection e with e1 e2 e3
 subst e1 e3
 have hdl:(xs.drop i).length=xs.length - i:=List.length_drop
 refine ⟨_,by unfold sliced;rw [hdl],by omega,⟨⟨_,_,by rw [List.length_map],fun hx=>?_⟩,by rw [List.length_map] at hle ⊢;omega⟩⟩
 have hlt:i<xs.length:=by
  rcases Nat.lt_or_ge i xs.length with h | h
  ·exact h
  ·rw [List.drop_eq_nil_of_le h] at hx;exact absurd rfl hx
 obtain ⟨b,o,rfl,hr⟩:=hne (by intro e;simp at e;subst e;simp at hlt)
 refine ⟨b,o + i * sz,?_,fun j cc hj=>?_⟩
 ·rw [if_neg au'];simp [mD]
 ·rw [List.map_drop,List.getElem?_drop] at hj
  have:=hr (i + j) cc hj
  rwa [Nat.add_mul,← Nat.add_assoc] at this
theorem pM {t d e sz jG:Nat} {x y:Operand} {z v yv:Value} {ha:Hp} {xs:List (List Value)} (ys:List (List Value)) (hp':Hp) (hA:Own e sz v ha xs) (hS:uH w0 mu hp yv ys) (h:∀ v' ha',Own e sz v' ha' (xs++ys)→Ops Tryz.prog n w0 mu all rest ((d,v')::l) (ha'++hp') Q) (h63:xs.length + ys.length<1000000) (hall:∀ c∈ys,c.length=sz∧c.all (·.oneCell')=true)
  (hperm:(ha++hp').Perm hp) (hd:Nat.blt d n=true:=by rfl) (hx:ev l x=some v:=by rfl) (hy:ev l y=some yv:=by rfl) (ht:lk Tb.sl t=some (e,sz):=by rfl)
  (hz:lk Tb.zs e=some z:=by rfl) (hzs:z.cells.size=sz:=by rfl) (hb:lk Tb.eb e=some jG:=by rfl) (hby:Nat.ble jG 4096=true:=by rfl):Ops Tryz.prog n w0 mu all (⟨some d,.call { callee:=.builtin .append,args:=#[x,y],argTypes:=#[t,t] },ty,pos,af,none⟩::rest) l hp Q:=by
 have vC:jG≤4096:=Nat.le_of_ble_eq_true hby
 have hfl:=dI ys (fun c hc=>(hall c hc).1)
 obtain ⟨q,c,rfl,hsrc⟩:=hS
 have VV:∀ c∈xs++ys,c.length=sz∧c.all (·.oneCell')=true:=fun c hc=>by
  rcases List.mem_append.1 hc with hc | hc
  ·exact hA.1 c hc
  ·exact hall c hc
 by_cases h0:ys=[]
 ·subst h0
  rw [List.append_nil] at h
  have hsh:∃ p cap,v=.slice p xs.length cap∧xs.length≤cap:=by
   rcases hA.2 with ⟨rfl,rfl,rfl⟩ | ⟨g,cap,cur,rfl,rfl,hrow⟩
   ·exact ⟨_,_,rfl,Nat.le_refl _⟩
   ·exact ⟨_,_,rfl,hrow.le⟩
  obtain ⟨p,cap,rfl,hle⟩:=hsh
  refine Dp ay hd hx hle hy ht hz ?_
  exact jr _ hperm (h _ ha hA)
 ·obtain ⟨a,o,rfl,hnews⟩:=hsrc.resolve_left h0
  have hpos:0<ys.length:=List.length_pos_iff.2 h0
  rcases hA.2 with ⟨rfl,rfl,rfl⟩ | ⟨g,cap,cur,rfl,rfl,hrow⟩
  ·refine yF ay hd hx hy ht hz hzs hb hpos hfl hnews (by simp at h63;omega) ?_ fun g cap cur hr=>?_
   ·calc _≤1000000 * jG:=Nat.mul_le_mul_right _ (by simp at h63;omega)
     _≤1000000 * 4096:=Nat.mul_le_mul_left _ vC
     _≤_:=by decide
   ·have:=h (.slice (some ⟨g,0,none⟩) ys.length cap) [⟨g,cur,e⟩] ⟨VV,.inr ⟨g,cap,cur,rfl,rfl,by simpa using hr⟩⟩
    refine jr _ ?_ this
    exact (hperm.cons _:(⟨g,cur,e⟩::([]++hp')).Perm (⟨g,cur,e⟩::hp))
  ·refine qC ay hd hx hy ht hz hzs hb hperm hrow (news:=ys.flatten) hfl hnews ?_ au' ?_ fun g cap cur hr=>?_
   ·rw [List.all_flatten,List.all_eq_true]
    exact fun c hc=>(hall c hc).2
   ·have h2:(xs.length + ys.length + (xs.length + ys.length) / 4 + 192)≤2000000:=by omega
    calc _≤2000000 * jG:=Nat.mul_le_mul_right _ h2
     _≤2000000 * 4096:=Nat.mul_le_mul_left _ vC
     _≤_:=by decide
   ·have:=h (.slice (some ⟨g,0,none⟩) (xs.length + ys.length) cap) [⟨g,cur,e⟩] ⟨VV,.inr ⟨g,cap,cur,by rw [List.length_append],rfl,by rw [List.length_append,List.flatten_append];exact hr⟩⟩
    exact this
end
end
def bg.Xp (e:bg) (V A:Int):Bool:=decide (e.jm=V) && (e.all || decide (e.ku=A))
def bg.lets (e:bg) (acc:Int):Bool:=vF e.r e.w e.x acc
def kz (V A P acc:Int) (e:bg):Bool:=decide (e.kind=1) && e.Xp V A && decide (e.page=P) && e.lets acc
def rV (V P acc:Int) (e:bg):Bool:=decide (e.kind=2) && decide (e.jm=V) && decide (e.page=P) && e.lets acc
def oC (V A:Int) (P:Nat) (e:bg):Bool:=decide (e.kind=3) && e.Xp V A && decide (e.page=((kL (e.level.toNat - 1) P:Nat):Int))
def eX (es:List bg) (q:bg→Bool):Nat→Int
 | 0=>-1
 | k + 1=>bif q (es.getD k default) && (decide (eX es q k<0) || decide ((es.getD (eX es q k).toNat default).level<(es.getD k default).level)) then (k:Int) else eX es q k
theorem uI {es:List bg} {q:bg→Bool}:∀ k,-1≤eX es q k∧eX es q k<(k:Int):=by
 intro k
 induction k with
 | zero=>rw [eX];omega
 | succ k ih=>
  rw [eX]
  cases (q (es.getD k default) && (decide (eX es q k<0) || decide ((es.getD (eX es q k).toNat default).level<(es.getD k default).level))) with
  | true=>rw [cond_true];omega
  | false=>rw [cond_false];omega
def fG (es:List bg) (e:bg):List bg:=bif !(es.any fun t=>decide (t=e)) && decide (es.length<8) then es++[e] else es
section
attribute [local irreducible] Hy St Ops DH gB iH iq fK DS fA
theorem vN {w:World} (xs:List bg) (v:Value) (h:aB w v 14 (xs.map bI)) (hl:xs.length<1000000):Fn Tryz.prog 58 [v].toArray w [] (fun u hp=>Acc 114 14 u hp (xs.map bI)):=by
 obtain ⟨q,cap,rfl,hne,hle⟩:=h.opened
 refine enter Tryz.func58 ?_
 refine run ?_
 refine cO (σ:=Nat × Value × Hp) (fun s=>[(3,s.2.1),(4,.int .i64 (s.1:Int))]) (fun s=>s.2.2) (fun s=>s.1≤xs.length∧Acc 114 14 s.2.1 s.2.2 ((xs.take s.1).map bI)) (fun s=>xs.length - s.1) (0,_,[]) ⟨by omega,Acc.nil _ _⟩ ?_
 rintro ⟨k,v,ha⟩ m hm ⟨hk,hA⟩
 dsimp only at hm hk hA ⊢
 refine run ?_
 refine aj _ rfl (fun hc=>?_) (fun hc=>?_)
 ·have hlt:k<xs.length:=by simp at hc;omega
  obtain ⟨b,o,rfl⟩:=hne av5
  have h1:=(h.row hlt)
  refine run ?_
  intro T
  refine jD (c:=bI (xs.getD k default)) hA (fun v' ha' hA'=>?_) aw0 (bT (m:=14) mh rfl)
  refine run ?_
  refine bH (k + 1,v',ha') ⟨hlt,?_⟩
  dsimp only
  rw [gI hlt,List.map_append]
  exact hA'
 ·have:k=xs.length:=by simp at hc;omega
  subst this
  refine run ?_
  refine fin1 ?_
  simpa using hA
theorem rW {w:World} (xs:List dB) (v:Value) (h:aB w v 4 (xs.map dJ)) (hl:xs.length<1000000):Fn Tryz.prog 59 [v].toArray w [] (fun u hp=>Acc 121 4 u hp (xs.map dJ)):=by
 obtain ⟨q,cap,rfl,hne,hle⟩:=h.opened
 refine enter Tryz.func59 ?_
 refine run ?_
 refine cO (σ:=Nat × Value × Hp) (fun s=>[(3,s.2.1),(4,.int .i64 (s.1:Int))]) (fun s=>s.2.2) (fun s=>s.1≤xs.length∧Acc 121 4 s.2.1 s.2.2 ((xs.take s.1).map dJ)) (fun s=>xs.length - s.1) (0,_,[]) ⟨by omega,Acc.nil _ _⟩ ?_
 rintro ⟨k,v,ha⟩ m hm ⟨hk,hA⟩
 dsimp only at hm hk hA ⊢
 refine run ?_
 refine aj _ rfl (fun hc=>?_) (fun hc=>?_)
 ·have hlt:k<xs.length:=by simp at hc;omega
  obtain ⟨b,o,rfl⟩:=hne av5
  have h1:=(h.row hlt)
  refine run ?_
  intro T
  refine jD (c:=dJ (xs.getD k default)) hA (fun v' ha' hA'=>?_) aw0 (bT (m:=4) mh rfl)
  refine run ?_
  refine bH (k + 1,v',ha') ⟨hlt,?_⟩
  dsimp only
  rw [gI hlt,List.map_append]
  exact hA'
 ·have:k=xs.length:=by simp at hc;omega
  subst this
  refine run ?_
  refine fin1 ?_
  simpa using hA
theorem ve {w:World} (es:List bg) (ds:List dB) (v u:Value) (h:aB w v 14 (es.map bI)) (hd:aB w u 4 (ds.map dJ)) (hl:es.length<1000000) (hl2:ds.length<1000000):Fn Tryz.prog 36 [.agg #[v,u]].toArray w [] (fun r hn=>∃ v1 h1 v2 h2,r=.agg #[v1,v2]∧Acc 114 14 v1 h1 (es.map bI)∧Acc 121 4 v2 h2 (ds.map dJ)∧aF (h1++h2) hn):=by
 have h':=h
 have hd':=hd
 obtain ⟨q,cap,rfl,_,_⟩:=h.opened
 obtain ⟨q2,cap2,rfl,_,_⟩:=hd.opened
 refine enter Tryz.func36 ?_
 refine run ?_
 intro B R X
 refine run ?_
 refine gX (fun wc hG=>vN es _ (h'.good hG) hl) (fun v1 h1 hA=>?_)
 obtain ⟨q3,c3,e3⟩:=hA.own.opened
 rw [List.length_map] at e3
 subst e3
 refine jr (_++h1) List.perm_append_comm ?_
 simp only [List.cons_append,List.nil_append]
 refine run ?_
 refine gX (fun wc hG=>rW ds _ (hd'.good hG) hl2) (fun v2 h2 hA2=>?_)
 obtain ⟨q4,c4,e4⟩:=hA2.own.opened
 rw [List.length_map] at e4
 subst e4
 refine jr (_++h2) List.perm_append_comm ?_
 simp only [List.cons_append,List.nil_append]
 refine run ?_
 exact gK (cs:=#[.slice q3 es.length c3,.slice q4 ds.length c4]) ⟨_,h1,_,h2,rfl,hA,hA2,by (exact ak)⟩
theorem VW (e:bg) (V A:Int) (w:World):Fn Tryz.prog 184 [.agg (bI e).toArray,.int .i64 V,.int .i64 A].toArray w [] (fun u _=>u=.bool (e.Xp V A)):=by
 refine enter Tryz.func184 ?_
 refine az ?_
 intro B
 exact fin1 rfl
theorem Qx {w:World} (es:List bg) (V A P acc:Int) (v u:Value) (h:aB w v 14 (es.map bI)) (hu:∃ p n c,u=.slice p n c):Fn Tryz.prog 154 [.agg #[v,u],.int .i64 V,.int .i64 A,.int .i64 P,.int .i64 acc].toArray w [] (fun r _=>r=.int .i64 (fM (kz V A P acc) es)):=by
 obtain ⟨q,cap,rfl,hne,hle⟩:=h.opened
 obtain ⟨q2,n2,c2,rfl⟩:=hu
 refine enter Tryz.func154 ?_
 refine run ?_
 intro B
 refine cO (σ:=Nat) (fun k=>[(11,.int .i64 (k:Int))]) (fun _=>[⟨B,#[.slice q es.length cap,.slice q2 n2 c2],77⟩]) (fun k=>k≤es.length∧∀ j,j<k→kz V A P acc (es.getD j default)=false) (fun k=>es.length - k) 0 ⟨Nat.zero_le _,fun j hj=>absurd hj au'⟩ ?_
 rintro k m hm ⟨hk,hno⟩
 refine run ?_
 refine aj _ rfl (fun hc=>?_) (fun hc=>?_)
 ·have hlt:k<es.length:=by simp at hc;omega
  obtain ⟨b,o,rfl⟩:=hne av5
  have hr:=h.row hlt
  generalize hge:es.getD k default=e at hr
  refine run ?_
  intro X
  refine az ?_
  refine aZ (fun _ wc hG=>VW e V A wc) ?_
  refine az ?_
  refine aZ (fun _ wc hG=>EL e.r e.w e.x e.af e.ng e.soft acc wc) ?_
  refine az ?_
  refine aj _ rfl (fun hp=>?_) (fun hp=>?_)
  ·refine run ?_
   refine fin1 ?_
   rw [iM hlt (by rw [hge];exact hp) hno]
  ·refine run ?_
   refine bH (k + 1) ⟨hlt,fun j hj=>?_⟩ (h2:=by (exact ak))
   rcases Nat.lt_succ_iff_lt_or_eq.1 hj with hj | rfl
   ·exact hno j hj
   ·rw [hge];exact hp
 ·have hge:k=es.length:=by simp at hc;omega
  subst hge
  refine run ?_
  refine fin1 ?_
  rw [fO hno]
theorem Xq {w:World} (es:List bg) (V P acc:Int) (v u:Value) (h:aB w v 14 (es.map bI)) (hu:∃ p n c,u=.slice p n c):Fn Tryz.prog 180 [.agg #[v,u],.int .i64 V,.int .i64 P,.int .i64 acc].toArray w [] (fun r _=>r=.int .i64 (fM (rV V P acc) es)):=by
 obtain ⟨q,cap,rfl,hne,hle⟩:=h.opened
 obtain ⟨q2,n2,c2,rfl⟩:=hu
 refine enter Tryz.func180 ?_
 refine run ?_
 intro B
 refine cO (σ:=Nat) (fun k=>[(9,.int .i64 (k:Int))]) (fun _=>[⟨B,#[.slice q es.length cap,.slice q2 n2 c2],77⟩]) (fun k=>k≤es.length∧∀ j,j<k→rV V P acc (es.getD j default)=false) (fun k=>es.length - k) 0 ⟨Nat.zero_le _,fun j hj=>absurd hj au'⟩ ?_
 rintro k m hm ⟨hk,hno⟩
 refine run ?_
 refine aj _ rfl (fun hc=>?_) (fun hc=>?_)
 ·have hlt:k<es.length:=by simp at hc;omega
  obtain ⟨b,o,rfl⟩:=hne av5
  have hr:=h.row hlt
  generalize hge:es.getD k default=e at hr
  refine run ?_
  intro X
  refine az ?_
  refine aZ (fun _ wc hG=>EL e.r e.w e.x e.af e.ng e.soft acc wc) ?_
  refine az ?_
  refine aj _ rfl (fun hp=>?_) (fun hp=>?_)
  ·refine run ?_
   refine fin1 ?_
   rw [iM hlt (by rw [hge];exact hp) hno]
  ·refine run ?_
   refine bH (k + 1) ⟨hlt,fun j hj=>?_⟩ (h2:=by (exact ak))
   rcases Nat.lt_succ_iff_lt_or_eq.1 hj with hj | rfl
   ·exact hno j hj
   ·rw [hge];exact hp
 ·have hge:k=es.length:=by simp at hc;omega
  subst hge
  refine run ?_
  refine fin1 ?_
  rw [fO hno]
theorem Qy {e:bg} (h:e.may=true) (hk:e.kind=3):((e.level.toNat:Nat):Int)=e.level∧1≤e.level.toNat∧e.level.toNat<4∧e.nums=true:=by
 simp only [bg.may,hk,Bool.and_eq_true,show decide ((3:Int)=1)=false from rfl,show decide ((3:Int)=2)=false from rfl,decide_true,cond_true,cond_false,PtD.bY,decide_eq_true_eq] at h
 obtain ⟨h1,⟨⟨⟨h2,h3⟩,_⟩,_⟩⟩:=h
 exact ⟨by omega,by omega,by omega,h1⟩
theorem Ur {V A:Int} (e:bg) (h:e.may=true) (hk:e.kind=3∧e.Xp V A=true) (P:Nat) (hP:P≤4095) (w:World):Fn Tryz.prog 150 [.int .i64 e.level,.int .i64 (P:Int)].toArray w [] (fun u _=>u=.int .i64 ((kL (e.level.toNat - 1) P:Nat):Int)):=by
 obtain ⟨h1,h2,h3,_⟩:=Qy h hk.1
 have:=EG e.level.toNat h2 h3 P hP w
 rwa [h1] at this
theorem Us {w:World} (es:List bg) (hmay:∀ e∈es,e.may=true) (V A:Int) (P:Nat) (hP:P≤4095) (v u:Value) (h:aB w v 14 (es.map bI)) (hu:∃ p n c,u=.slice p n c):Fn Tryz.prog 155 [.agg #[v,u],.int .i64 V,.int .i64 A,.int .i64 (P:Int)].toArray w [] (fun r _=>r=.int .i64 (eX es (oC V A P) es.length)):=by
 obtain ⟨q,cap,rfl,hne,hle⟩:=h.opened
 obtain ⟨q2,n2,c2,rfl⟩:=hu
 refine enter Tryz.func155 ?_
 refine run ?_
 intro B
 refine cO (σ:=Nat × Int) (fun s=>[(10,.int .i64 (s.1:Int)),(9,.int .i64 s.2)]) (fun _=>[⟨B,#[.slice q es.length cap,.slice q2 n2 c2],77⟩]) (fun s=>s.1≤es.length∧eX es (oC V A P) s.1=s.2) (fun s=>es.length - s.1) (0,-1) ⟨Nat.zero_le _,rfl⟩ ?_
 rintro ⟨k,z⟩ m hm ⟨hk,hz⟩
 dsimp only at hm hk hz ⊢
 have hbl:=uI (es:=es) (q:=oC V A P) k
 rw [hz] at hbl
 have hbs:eX es (oC V A P) (k + 1)=bif oC V A P (es.getD k default) && (decide (z<0) || decide ((es.getD z.toNat default).level<(es.getD k default).level)) then (k:Int) else z:=by rw [eX,hz]
 refine run ?_
 refine aj _ rfl (fun hc=>?_) (fun hc=>?_)
 ·have hlt:k<es.length:=by simp at hc;omega
  obtain ⟨b,o,rfl⟩:=hne av5
  have hr:=h.row hlt
  have hra:=rD (k:=5) (h.row (show z.toNat<es.length by omega)) rfl
  have hem:=hmay _ (getD_mem hlt)
  generalize es.getD k default=e at hr hem hbs
  generalize es.getD z.toNat default=y at hra hbs
  refine run ?_
  intro X
  refine az ?_
  refine eU ?_
  refine iU ?_
  refine kS (fun _ wc hG=>VW e V A wc) ?_
  refine iU ?_
  refine kS (b:=decide (e.kind=3) && e.Xp V A) (want:=true) (v:=.int .i64 ((kL (e.level.toNat - 1) P:Nat):Int)) (fun hg wc hG=>Ur (V:=V) (A:=A) e hem az' P hP wc) ?_
  refine iU ?_
  refine run ?_
  refine aj _ rfl (fun hp=>?_) (fun hp=>?_)
  ·refine run ?_
   refine bH (k + 1,(k:Int)) ⟨hlt,by dsimp only;rw [hbs];exact congrArg (fun c=>bif c then (k:Int) else z) hp⟩ (hm:=by dsimp only;omega) (h2:=by (exact ak))
  ·refine run ?_
   refine bH (k + 1,z) ⟨hlt,by dsimp only;rw [hbs];exact congrArg (fun c=>bif c then (k:Int) else z) hp⟩ (hm:=by dsimp only;omega) (h2:=by (exact ak))
 ·have hge:k=es.length:=by simp at hc;omega
  subst hge
  refine run ?_
  refine fin1 ?_
  rw [hz]
theorem G7 {α:Type} [Inhabited α] (p:α→Bool) (l:List α):decide (fM p l<0)=!l.any p:=by
 cases h:l.any p with
 | false=>
  have:fM p l=-1:=fO fun j hj=>by
   rw [List.any_eq_false] at h
   have:=h _ (getD_mem hj)
   simpa using this
  rw [this];rfl
 | true=>
  obtain ⟨x,hx,hp⟩:=List.any_eq_true.1 h
  obtain ⟨j,hj,rfl⟩:=List.getElem_of_mem hx
  have hjp:p (l.getD j default)=true:=by rw [List.getD_eq_getElem?_getD,List.getElem?_eq_getElem hj];exact hp
  obtain ⟨j0,h0,h1,h2⟩:=oK p l j hjp
  rw [iM (k:=j0) au' h1 h2]
  simp
theorem EM {w:World} (es:List bg) (ds:List dB) (e:bg) (v u:Value) (h:aB w v 14 (es.map bI)) (hd:aB w u 4 (ds.map dJ)) (hl:es.length<1000000) (hl2:ds.length<1000000):Fn Tryz.prog 182 [.agg #[v,u],.agg (bI e).toArray].toArray w [] (fun r hn=>∃ v1 h1 v2 h2,r=.agg #[v1,v2]∧Acc 114 14 v1 h1 ((fG es e).map bI)∧Acc 121 4 v2 h2 (ds.map dJ)∧aF (h1++h2) hn):=by
 have h':=h
 have hd':=hd
 obtain ⟨q,cap,rfl,_,_⟩:=h.opened
 obtain ⟨q2,cap2,rfl,_,_⟩:=hd.opened
 refine enter Tryz.func182 ?_
 refine run ?_
 intro B C R
 refine run ?_
 refine gX (fun wc hG=>ve es ds _ _ (h'.good hG) (hd'.good hG) hl hl2) ?_
 rintro r hn ⟨v1,h1,v2,h2,rfl,hA1,hA2,hle⟩
 obtain ⟨q3,c3,e3⟩:=hA1.own.opened
 rw [List.length_map] at e3
 subst e3
 obtain ⟨q4,c4,e4⟩:=hA2.own.opened
 rw [List.length_map] at e4
 subst e4
 refine EF hle ?_
 refine jr (_++(h1++h2)) List.perm_append_comm ?_
 simp only [List.cons_append,List.nil_append]
 refine run ?_
 intro X
 refine ax (fun wc hG=>Qh e es _ (h'.good hG)) ?_
 refine az ?_
 rw [G7]
 have e8:decide ((es.length:Int)<8)=decide (es.length<8):=by rw [Bool.eq_iff_iff,decide_eq_true_eq,decide_eq_true_eq];omega
 rw [e8]
 refine aj _ rfl (fun hc=>?_) (fun hc=>?_)
 ·have hf:fG es e=es++[e]:=by simp only [fG,hc,cond_true]
  rw [hf]
  refine run ?_
  intro T
  refine jD (c:=bI e) (hp':=[⟨T,#[.int .i64 e.kind,.int .i64 e.jm,.int .i64 e.ku,.bool e.all,.int .i64 e.page,.int .i64 e.level,.int .i64 e.frame,.int .i64 e.mid,.bool e.r,.bool e.w,.bool e.x,.bool e.af,.bool e.ng,.int .i64 e.soft],114⟩,⟨X,#[.slice q3 es.length c3,.slice q4 ds.length c4],77⟩,⟨R,#[.slice none 0 0,.slice none 0 0],77⟩,⟨C,(bI e).toArray,114⟩,⟨B,#[.slice q es.length cap,.slice q2 ds.length cap2],77⟩]++h2) hA1 (fun v' ha' hA'=>?_) av3 (bT (m:=14) mh rfl) (hperm:=by (exact au))
  rw [show es.map bI++[bI e]=(es++[e]).map bI by simp] at hA'
  obtain ⟨q5,c5,e5⟩:=hA'.own.opened
  rw [List.length_map] at e5
  subst e5
  refine aJ (⟨X,#[.slice q3 es.length c3,.slice q4 ds.length c4],77⟩::⟨R,#[.slice none 0 0,.slice none 0 0],77⟩::(ha'++h2)) ak ?_
  refine run ?_
  exact gK (cs:=#[.slice q5 (es++[e]).length c5,.slice q4 ds.length c4]) ⟨_,ha',_,h2,rfl,hA',hA2,by (exact ak)⟩
 ·have hf:fG es e=es:=by simp only [fG,hc,cond_false]
  rw [hf]
  refine run ?_
  exact gK (cs:=#[.slice q3 es.length c3,.slice q4 ds.length c4]) ⟨_,h1,_,h2,rfl,hA1,hA2,by (exact ak)⟩
theorem Ut {w:World} (es:List bg) (ds:List dB) (i:Nat) (hi:i<es.length) (v u:Value) (h:aB w v 14 (es.map bI)) (hcap:∃ q c,v=.slice q es.length c∧es.length≤c) (hd:aB w u 4 (ds.map dJ)) (hl:es.length<1000000) (hl2:ds.length<1000000):Fn Tryz.prog 152 [.agg #[v,u],.int .i64 (i:Int)].toArray w [] (fun r hn=>∃ v1 h1 v2 h2,r=.agg #[v1,v2]∧Own 114 14 v1 h1 ((es.eraseIdx i).map bI)∧Acc 121 4 v2 h2 (ds.map dJ)∧aF (h1++h2) hn):=by
 have h':=h
 have hd':=hd
 obtain ⟨q,cap,rfl,hle0⟩:=hcap
 obtain ⟨q',cap',eq',hne,_⟩:=h.opened
 injection eq' with eq1 _ eq3
 subst eq1 eq3
 obtain ⟨b,o,rfl⟩:=hne (by intro e;subst e;simp at hi)
 obtain ⟨q2,cap2,rfl,_,_⟩:=hd.opened
 refine enter Tryz.func152 ?_
 refine run ?_
 intro B R
 refine run ?_
 refine gX (fun wc hG=>ve es ds _ _ (h'.good hG) (hd'.good hG) hl hl2) ?_
 rintro r hn ⟨v1,h1,v2,h2,rfl,hA1,hA2,hle⟩
 obtain ⟨q3,c3,e3⟩:=hA1.own.opened
 rw [List.length_map] at e3
 subst e3
 obtain ⟨q4,c4,e4⟩:=hA2.own.opened
 rw [List.length_map] at e4
 subst e4
 refine EF hle ?_
 refine jr (_++(h1++h2)) List.perm_append_comm ?_
 simp only [List.cons_append,List.nil_append]
 refine run ?_
 intro X
 refine run ?_
 refine dN 10 4 [0,1,2,3,5,6,7,8,9] [4] (⟨X,#[.slice q3 es.length c3,.slice q4 ds.length c4],77⟩::⟨R,#[.slice none 0 0,.slice none 0 0],77⟩::⟨B,#[.slice (some ⟨b,o,none⟩) es.length cap,.slice q2 ds.length cap2],77⟩::(h1++h2)) ?_
 refine dh ?_
 refine Et av2 ax1 (fun hx=>xH ay rfl rfl av2 au' au' (m':=i) av4 (.inr ⟨_,_,rfl⟩)) ?_
 refine dh ?_
 refine YW av2 ax1 (fun hx=>Dc ay rfl rfl av2 au' au') ?_
 obtain ⟨p',e7,hc7,af4⟩:=h'.Zk (i:=i + 1) rfl hle0 au'
 rw [show sliced (some ⟨b,o,none⟩) (((i + 1:Nat):Int)).toNat es.length cap 14=_ from e7]
 refine dh ?_
 refine uy (fun wc hG=>vN (es.take i) _ ((h'.good hG).takeN (k:=i) au') (by rw [List.length_take];omega)) ?_
 intro v5 h5 A8
 obtain ⟨q5,c5,e5⟩:=A8.own.opened
 subst e5
 refine aH ?_
 refine di ?_
 have hall:∀ c∈(es.drop (i + 1)).map bI,c.length=14∧c.all (·.oneCell')=true:=fun c hc=>by
  obtain ⟨x,_,rfl⟩:=List.mem_map.1 hc
  exact ⟨rfl,rfl⟩
 refine pM ((es.drop (i + 1)).map bI) (⟨X,#[.slice q3 es.length c3,.slice q4 ds.length c4],77⟩::⟨R,#[.slice none 0 0,.slice none 0 0],77⟩::⟨B,#[.slice (some ⟨b,o,none⟩) es.length cap,.slice q2 ds.length cap2],77⟩::(h1++h2)) A8.own (by have:=uH.old (hp:=h5++(⟨X,#[.slice q3 es.length c3,.slice q4 ds.length c4],77⟩::⟨R,#[.slice none 0 0,.slice none 0 0],77⟩::⟨B,#[.slice (some ⟨b,o,none⟩) es.length cap,.slice q2 ds.length cap2],77⟩::(h1++h2))) af4 (fun c hc=>(hall c hc).1);exact this) (fun v6 h6 hO6=>?_) (by simp only [List.length_map,List.length_take,List.length_drop];omega) hall (List.Perm.refl _)
 rw [← List.map_append,show es.take i++es.drop (i + 1)=es.eraseIdx i from (List.eraseIdx_eq_take_drop_succ ..).symm] at hO6
 obtain ⟨q6,c6,e6⟩:=hO6.opened
 rw [List.length_map] at e6
 subst e6
 refine jr (_++h6) List.perm_append_comm ?_
 simp only [List.cons_append,List.nil_append]
 refine run ?_
 refine gK (cs:=#[.slice q6 (es.eraseIdx i).length c6,.slice q4 ds.length c4]) ⟨_,h6,_,h2,rfl,hO6,hA2,by (exact ak)⟩
end
structure vg where
 cpu:Int
 fill:Bool
 aO:Bool
 walk:Bool
 drop:Int
 use:Bool
instance : Inhabited vg := ⟨⟨0, false, false, false, 0, false⟩⟩
abbrev mM (p:vg):List Value:=[.int .i64 p.cpu,.bool p.fill,.bool p.aO,.bool p.walk,.int .i64 p.drop,.bool p.use]
structure bQ where
 on:Bool
 frame:Int
 tag:Int
instance : Inhabited bQ := ⟨⟨false, 0, 0⟩⟩
abbrev iK (r:bQ):List Value:=[.bool r.on,.int .i64 r.frame,.int .i64 r.tag]
def bQ.may (r:bQ):Bool:=PtD.bY r.frame 0 4095 && PtD.bY r.tag 0 15
structure qx where
 es:List bg
 rd:List Int
structure AtD where
 r:Bool
 w:Bool
 x:Bool
 af:Bool
 ng:Bool
def EN:AtD:=⟨false,false,false,false,false⟩
abbrev Zl (a:AtD):List Value:=[.bool a.r,.bool a.w,.bool a.x,.bool a.af,.bool a.ng,.int .i64 0]
structure Ym where
 s:qx
 n:Int
 a:AtD
 f:nD
structure zD where
 s:qx
 n:Int
 f:nD
structure kW where
 ws:List Nat
 one:bQ
 two:bQ
 pk:vg
 page:Nat
 acc:Int
def uJ (tag:Int) (mid:Nat) (h:kV):bg:=⟨2,tag,0,true,mid,0,h.frame,0,h.r,h.w,h.x,h.af,h.ng,0⟩
def x8 (c:kW) (level:Nat) (frame:Int):bg:=⟨3,c.two.tag,c.one.tag,false,((kL (level - 1) c.page:Nat):Int),level,frame,0,false,false,false,false,false,0⟩
def yU (c:kW) (n:Int) (mid:Nat) (d:DsD) (a:AtD):bg:=⟨1,c.two.tag,c.one.tag,!(d.ng || a.ng),c.page,0,n,mid,d.r && a.r,d.w && a.w,d.x && a.x,d.af && a.af,d.ng || a.ng,0⟩
def vH (c:kW) (s:qx) (mid:Nat) (W:Og):Ym:=
 bif !decide (W.f.kind=0) then ⟨⟨s.es,s.rd++W.rd⟩,0,EN,W.f⟩
 else ⟨⟨bif c.pk.aO then fG s.es (uJ c.two.tag mid W.h) else s.es,s.rd++W.rd⟩,W.h.frame,⟨W.h.r,W.h.w,W.h.x,W.h.af,W.h.ng⟩,W.f⟩
def nN (c:kW) (s:qx) (mid:Nat) (acc:Int):Int:=fM (rV c.two.tag mid acc) s.es
def Zm (e:bg):AtD:=⟨e.r,e.w,e.x,e.af,e.ng⟩
def dV (c:kW) (s:qx) (mid:Nat) (acc:Int):Ym:=
 bif c.pk.use && decide (0≤nN c s mid acc) then ⟨s,(s.es.getD (nN c s mid acc).toNat default).frame,Zm (s.es.getD (nN c s mid acc).toNat default),jQ⟩
 else vH c s mid (jo c.ws true c.two.frame mid acc)
def jH (c:kW) (s:qx) (mid level:Nat):zD:=
 bif !decide ((dV c s mid 0).f.kind=0) then ⟨(dV c s mid 0).s,0,{ (dV c s mid 0).f with walk:=true }⟩
 else ⟨⟨bif decide (0<level) && c.pk.walk then fG (dV c s mid 0).s.es (x8 c level (dV c s mid 0).n) else (dV c s mid 0).s.es,(dV c s mid 0).s.rd⟩,(dV c s mid 0).n,jQ⟩
def iG (c:kW) (level:Nat) (d:DsD):Nat:=d.frame.toNat + c.page % aP level
def vO (c:kW) (s:qx) (level:Nat) (d:DsD):zD:=
 bif !decide ((gQ d.r d.w d.x d.af c.acc 1 level c.page).kind=0) then ⟨s,0,gQ d.r d.w d.x d.af c.acc 1 level c.page⟩
 else bif !decide ((dV c s (iG c level d) c.acc).f.kind=0) then ⟨(dV c s (iG c level d) c.acc).s,0,(dV c s (iG c level d) c.acc).f⟩
 else ⟨⟨bif c.pk.fill then fG (dV c s (iG c level d) c.acc).s.es (yU c (dV c s (iG c level d) c.acc).n (iG c level d) d (dV c s (iG c level d) c.acc).a) else (dV c s (iG c level d) c.acc).s.es,(dV c s (iG c level d) c.acc).s.rd⟩,(dV c s (iG c level d) c.acc).n,jQ⟩
def rX (c:kW):Nat→Nat→Int→qx→zD
 | 0,level,frame,s=>⟨s,0,jQ⟩
 | k + 1,level,frame,s=>
  let d:=Cc c.ws 1 (sK frame level c.page) level
  let s1:qx:=⟨s.es,s.rd++[frame]⟩
  bif decide (d.kind=1) then (bif !decide ((jH c s1 d.frame.toNat (level + 1)).f.kind=0) then ⟨(jH c s1 d.frame.toNat (level + 1)).s,0,(jH c s1 d.frame.toNat (level + 1)).f⟩ else rX c k (level + 1) (jH c s1 d.frame.toNat (level + 1)).n (jH c s1 d.frame.toNat (level + 1)).s)
  else bif decide (d.kind=0) then ⟨s1,0,⟨2,1,level,false,c.page⟩⟩
  else vO c s1 level d
def vP (c:kW) (s:qx):zD:=bif !decide ((jH c s c.one.frame.toNat 0).f.kind=0) then ⟨(jH c s c.one.frame.toNat 0).s,0,(jH c s c.one.frame.toNat 0).f⟩ else rX c 4 0 (jH c s c.one.frame.toNat 0).n (jH c s c.one.frame.toNat 0).s
def iD (c:kW) (es:List bg):Int:=fM (kz c.two.tag c.one.tag c.page c.acc) es
def fD (c:kW) (es:List bg):Int:=eX es (oC c.two.tag c.one.tag c.page) es.length
def kN (es:List bg) (i:Int):List bg:=bif decide (0≤i) && decide (i<(es.length:Int)) then es.eraseIdx i.toNat else es
def vS (c:kW) (es:List bg):zD:=
 bif c.pk.use && decide (0≤fD c es) then rX c (4 - (es.getD (fD c es).toNat default).level.toNat) (es.getD (fD c es).toNat default).level.toNat (es.getD (fD c es).toNat default).frame ⟨es,[]⟩
 else vP c ⟨es,[]⟩
def lX (c:kW) (es:List bg):zD:=
 bif !c.one.on then ⟨(dV c ⟨es,[]⟩ c.page c.acc).s,(dV c ⟨es,[]⟩ c.page c.acc).n,(dV c ⟨es,[]⟩ c.page c.acc).f⟩
 else bif c.pk.use && decide (0≤iD c es) then ⟨⟨es,[]⟩,(es.getD (iD c es).toNat default).frame,jQ⟩
 else vS c es
def nX (c:kW) (es:List bg):zD:=lX c (kN es c.pk.drop)
structure gU (n:Nat) (es:List bg) (ds:List dB):Prop where
 vI:bK es ds=true
 held:∀ e∈es,dS n e.frame=true
theorem dO {es:List bg} {ds:List dB} (h:bK es ds=true):(∀ e∈es,e.may=true)∧es.length≤8∧ds.length≤8:=by
 simp only [bK,Bool.and_eq_true,decide_eq_true_eq] at h
 refine ⟨fun e he=>?_,h.1.2,h.2⟩
 obtain ⟨j,hj,rfl⟩:=List.getElem_of_mem he
 have:=List.all_eq_true.1 h.1.1.1 j (List.mem_range.2 hj)
 simp only [xU,Bool.and_eq_true] at this
 rw [List.getD_eq_getElem?_getD,List.getElem?_eq_getElem hj] at this
 exact this.1
theorem gU.may {n:Nat} {es:List bg} {ds:List dB} (h:gU n es ds):(∀ e∈es,e.may=true)∧es.length≤8∧ds.length≤8:=dO h.vI
theorem zY {n:Nat} {es:List bg} {ds:List dB} {e:bg} (h:gU n es ds) (hm:e.may=true) (hf:dS n e.frame=true):gU n (fG es e) ds:=by
 unfold fG
 cases hc:(!(es.any fun t=>decide (t=e)) && decide (es.length<8)) with
 | false=>exact h
 | true=>
  rw [Bool.and_eq_true,Bool.not_eq_true',decide_eq_true_eq] at hc
  obtain ⟨hno,h8⟩:=hc
  rw [cond_true]
  refine ⟨?_,fun x hx=>?_⟩
  ·have ht:=h.vI
   simp only [bK,Bool.and_eq_true,decide_eq_true_eq] at ht ⊢
   obtain ⟨⟨⟨h1,h2⟩,h3⟩,h4⟩:=ht
   refine ⟨⟨⟨xW fun j hj=>?_,h2⟩,by simp;omega⟩,h4⟩
   simp only [List.length_append,List.length_singleton] at hj
   by_cases hje:j<es.length
   ·have:=List.all_eq_true.1 h1 j (List.mem_range.2 hje)
    unfold xU at this ⊢
    rw [List.take_append_of_le_length au',show (es++[e]).getD j default=es.getD j default by simp [List.getD_eq_getElem?_getD,List.getElem?_append_left hje]]
    exact this
   ·have af6:j=es.length:=by omega
    subst af6
    unfold xU
    rw [List.take_left,show (es++[e]).getD es.length default=e by simp [List.getD_eq_getElem?_getD]]
    rw [hm,hno];rfl
  ·rcases List.mem_append.1 hx with hx | hx
   ·exact h.held x hx
   ·obtain rfl:=List.mem_singleton.1 hx;exact hf
theorem rY {es:List bg} {ds:List dB}:bK es ds=true↔(∀ e∈es,e.may=true)∧es.Nodup∧ds.all dB.may=true∧es.length≤8∧ds.length≤8:=by
 constructor
 ·intro h
  have hm:=dO h
  simp only [bK,Bool.and_eq_true,decide_eq_true_eq] at h
  refine ⟨hm.1,?_,h.1.1.2,hm.2⟩
  rw [List.nodup_iff_pairwise_ne,List.pairwise_iff_getElem]
  intro i j hi hj hij
  have h1:=List.all_eq_true.1 h.1.1.1 j (List.mem_range.2 hj)
  simp only [xU,Bool.and_eq_true,Bool.not_eq_true',List.any_eq_false] at h1
  have h2:=h1.2 es[i] (List.mem_take_iff_getElem.2 ⟨i,by omega,rfl⟩)
  rw [List.getD_eq_getElem?_getD,List.getElem?_eq_getElem hj] at h2
  simpa using h2
 ·rintro ⟨h1,h2,h3,h4,h5⟩
  simp only [bK,Bool.and_eq_true,decide_eq_true_eq]
  refine ⟨⟨⟨xW fun j hj=>?_,h3⟩,h4⟩,h5⟩
  simp only [xU,Bool.and_eq_true,Bool.not_eq_true',List.any_eq_false]
  refine ⟨h1 _ (getD_mem hj),fun x hx=>?_⟩
  obtain ⟨i,hi,rfl⟩:=List.mem_take_iff_getElem.1 hx
  rw [List.nodup_iff_pairwise_ne,List.pairwise_iff_getElem] at h2
  have:=h2 i j au' hj au'
  rw [List.getD_eq_getElem?_getD,List.getElem?_eq_getElem hj]
  simpa using this
theorem Nh {es:List bg} {ds:List dB} (h:bK es ds=true) (i:Nat):bK (es.eraseIdx i) ds=true:=by
 obtain ⟨h1,h2,h3,h4,h5⟩:=rY.1 h
 refine rY.2 ⟨fun e he=>h1 e (List.mem_of_mem_eraseIdx he),h2.sublist (List.eraseIdx_sublist ..),h3,Nat.le_trans (List.eraseIdx_sublist ..).length_le h4,h5⟩
theorem zZ {n:Nat} {es:List bg} {ds:List dB} (h:gU n es ds) (i:Int):gU n (kN es i) ds:=by
 unfold kN
 cases hc:(decide (0≤i) && decide (i<(es.length:Int))) with
 | false=>exact h
 | true=>
  rw [cond_true]
  refine ⟨Nh h.vI _,fun x hx=>h.held x (List.mem_of_mem_eraseIdx hx)⟩
theorem Xr {level:Nat} {d:DsD} (hd:d.may 2 level=true):d.ng=false:=by
 unfold DsD.may at hd
 cases h0:decide (d.kind=0) with
 | true=>
  rw [h0] at hd
  simp only [cond_true,DsD.bare,Bool.and_eq_true,Bool.not_eq_true'] at hd
  simp_all
 | false=>
  rw [h0] at hd
  cases h1:decide (d.kind=1) with
  | true=>
   rw [h1] at hd
   simp only [cond_true,cond_false,DsD.bare,Bool.and_eq_true,Bool.not_eq_true'] at hd
   simp_all
  | false=>
   rw [h1] at hd
   simp only [cond_false] at hd
   simp_all
theorem Uu {n:Nat} {stage:Int} {page level:Nat} {d:DsD} {rd:List Int} (hd:d.may stage level=true) (hk:(rU n stage page level d rd).f.kind=0):dS n (rU n stage page level d rd).h.frame=true∧(rU n stage page level d rd).f=jQ∧(stage=2→(rU n stage page level d rd).h.ng=false):=by
 unfold rU at hk ⊢
 cases h0:decide (d.kind=0) with
 | true=>rw [h0] at hk;simp at hk
 | false=>
  rw [h0] at hk
  simp only [cond_false] at hk ⊢
  cases h1:dS n (d.frame + ((page % aP level:Nat):Int)) with
  | false=>rw [h1] at hk;simp at hk
  | true=>
   refine ⟨h1,rfl,fun hs=>?_⟩
   subst hs
   exact Xr hd
theorem Xt {ws:List Nat} {stage:Int} {page:Nat}:∀ (k level:Nat) (f:Int) (rd:List Int),(G6 ws stage page k level f rd).f.kind=0→dS ws.length (G6 ws stage page k level f rd).h.frame=true∧(G6 ws stage page k level f rd).f=jQ∧(stage=2→(G6 ws stage page k level f rd).h.ng=false):=by
 intro k
 induction k with
 | zero=>intro level f rd h;simp [G6] at h
 | succ k ih=>
  intro level f rd h
  rw [G6] at h ⊢
  cases hh:dS ws.length f with
  | false=>rw [hh] at h;simp at h
  | true=>
   rw [hh] at h
   simp only [cond_true] at h ⊢
   cases h1:decide ((Cc ws stage (sK f level page) level).kind=1) with
   | true=>rw [h1] at h;exact ih _ _ _ h
   | false=>rw [h1] at h;exact Uu (rQ _ _ _ _) h
theorem Nj {r w x af:Bool} {acc stage level page:Int} (h:(gQ r w x af acc stage level page).kind=0):gQ r w x af acc stage level page=jQ:=by
 unfold gQ at h ⊢
 cases af with
 | false=>simp at h
 | true=>
  cases hm:vF r w x acc with
  | false=>rw [hm] at h;simp at h
  | true=>rfl
theorem EO {ws:List Nat} {frame:Int} {mid:Nat} {acc:Int} (h:(jo ws true frame mid acc).f.kind=0):dS ws.length (jo ws true frame mid acc).h.frame=true∧(jo ws true frame mid acc).f=jQ∧(jo ws true frame mid acc).h.ng=false:=by
 simp only [jo,Bool.not_true,cond_false,Jw] at h ⊢
 cases hg:decide ((vG (jA ws 2 frame mid) mid acc).kind=0) with
 | false=>
  rw [hg] at h
  simp only [Bool.not_false,cond_true] at h
  simp [h] at hg
 | true=>
  simp only [Bool.not_true,cond_false]
  have hk:(vG (jA ws 2 frame mid) mid acc).kind=0:=by simpa using hg
  unfold vG at hk ⊢
  cases hw:decide ((jA ws 2 frame mid).f.kind=0) with
  | false=>rw [hw] at hk;simp only [cond_false] at hk;simp [hk] at hw
  | true=>
   rw [hw] at hk
   simp only [cond_true] at hk ⊢
   obtain ⟨h1,h2,h3⟩:=Xt 4 0 frame [] (of_decide_eq_true hw)
   exact ⟨h1,Nj hk,h3 rfl⟩
section
attribute [local irreducible] Hy St Ops DH gB iH iq fK DS fA jX
def uW (z:Int):Nat:=(IntKind.u64.wrap z).toNat
theorem Ba (z:Int):IntKind.u64.wrap z=(uW z:Int):=(Int.toNat_of_nonneg (wrap_u64_nonneg z)).symm
def Qz (p:Nat) (n:Int):Nat:=uW ((p:Int) + IntKind.u64.wrap (IntKind.u64.wrap n * 4))
def aC.next (r:aC) (l:List Int):aC:={ r with pc:=l.foldl Qz (uW ((r.pc:Int) + 4)) }
theorem Bc {α β:Type} [Inhabited β] {f:α→β→α} {a:α} {l:List β} {k:Nat} (hk:k<l.length):(l.take (k + 1)).foldl f a=f ((l.take k).foldl f a) (l.getD k default):=by
 rw [List.take_add_one,List.foldl_append,List.getElem?_eq_getElem hk,List.getD_eq_getElem?_getD,List.getElem?_eq_getElem hk]
 rfl
theorem Uw (r:aC) (xs:List Int) {w:World} {v:Value} (h:aB w v 1 (xs.map dH)):Fn Tryz.prog 42 [.agg (dD r).toArray,v].toArray w [] (fun u _=>u=.agg (dD (r.next xs)).toArray):=by
 obtain ⟨q,cap,rfl,hne,hle⟩:=h.opened
 refine enter Tryz.func42 ?_
 refine run ?_
 intro X R
 rw [Ba]
 refine run ?_
 refine cO (σ:=Nat) (fun k=>[(13,.int .i64 (k:Int))]) (fun k=>[⟨X,#[.int .u64 (r.x0:Int),.int .u64 (r.x1:Int),.int .u64 (r.x2:Int),.int .u64 (r.x3:Int),.int .u64 (r.x4:Int),.int .u64 (r.x5:Int),.int .u64 (r.x6:Int),.int .u64 (r.x7:Int),.int .u64 ((((xs.take k).foldl Qz (uW ((r.pc:Int) + 4))):Nat):Int),.int .u64 (r.gp:Int),.int .u64 (r.dm:Int),.int .u64 (r.jd:Int),.int .u64 (r.qw:Int),.int .u64 (r.mJ:Int),.int .u64 (r.far:Int)],30⟩,⟨R,#[.int .u64 0,.int .u64 0,.int .u64 0,.int .u64 0,.int .u64 0,.int .u64 0,.int .u64 0,.int .u64 0,.int .u64 0,.int .u64 0,.int .u64 0,.int .u64 0,.int .u64 0,.int .u64 0,.int .u64 0],30⟩]) (fun k=>k≤xs.length) (fun k=>xs.length - k) 0 (Nat.zero_le _) (hh:=by simp only [List.take_zero,List.foldl_nil];(exact ak)) ?_
 rintro k m hm hk
 refine run ?_
 refine aj _ rfl (fun hc=>?_) (fun hc=>?_)
 ·have hlt:k<xs.length:=by simp at hc;omega
  obtain ⟨b,o,rfl⟩:=hne aw7
  have hr:=cZ (h.row hlt)
  simp only [Nat.mul_one] at hr
  refine run ?_
  refine eH av2 (jk ay rfl rfl rfl) ?_
  refine eH av2 (Qo rfl rfl) ?_
  refine run ?_
  rw [show IntKind.u64.wrap _=((Qz ((xs.take k).foldl Qz (uW ((r.pc:Int) + 4))) (xs.getD k default):Nat):Int) from Ba _,← Bc (f:=Qz) hlt]
  refine run ?_
  exact bH (k + 1) hlt
 ·obtain rfl:k=xs.length:=by simp at hc;omega
  rw [List.take_length]
  refine run ?_
  refine gK ?_
  rfl
theorem je (r:aC) (xs:List Int) {w:World} {v:Value} (h:aB w v 1 (xs.map dH)):Fn Tryz.prog 86 [.agg (dD r).toArray,v].toArray w [] (fun u _=>u=.agg (dD (r.next xs)).toArray):=by
 obtain ⟨q,cap,rfl,hne,hle⟩:=h.opened
 refine enter Tryz.func86 ?_
 refine run ?_
 intro X R
 rw [Ba]
 refine run ?_
 refine cO (σ:=Nat) (fun k=>[(5,.int .i64 (k:Int))]) (fun k=>[⟨X,#[.int .u64 (r.x0:Int),.int .u64 (r.x1:Int),.int .u64 (r.x2:Int),.int .u64 (r.x3:Int),.int .u64 (r.x4:Int),.int .u64 (r.x5:Int),.int .u64 (r.x6:Int),.int .u64 (r.x7:Int),.int .u64 ((((xs.take k).foldl Qz (uW ((r.pc:Int) + 4))):Nat):Int),.int .u64 (r.gp:Int),.int .u64 (r.dm:Int),.int .u64 (r.jd:Int),.int .u64 (r.qw:Int),.int .u64 (r.mJ:Int),.int .u64 (r.far:Int)],30⟩,⟨R,#[.int .u64 0,.int .u64 0,.int .u64 0,.int .u64 0,.int .u64 0,.int .u64 0,.int .u64 0,.int .u64 0,.int .u64 0,.int .u64 0,.int .u64 0,.int .u64 0,.int .u64 0,.int .u64 0,.int .u64 0],30⟩]) (fun k=>k≤xs.length) (fun k=>xs.length - k) 0 (Nat.zero_le _) (hh:=by simp only [List.take_zero,List.foldl_nil];(exact ak)) ?_
 rintro k m hm hk
 refine run ?_
 refine aj _ rfl (fun hc=>?_) (fun hc=>?_)
 ·have hlt:k<xs.length:=by simp at hc;omega
  obtain ⟨b,o,rfl⟩:=hne aw7
  have hr:=cZ (h.row hlt)
  simp only [Nat.mul_one] at hr
  refine run ?_
  refine iV 10 ?_
  refine cu ?_
  refine qo (jk ay rfl rfl rfl) ?_
  refine qo (Qo rfl rfl) ?_
  refine cu ?_
  refine run ?_
  rw [show IntKind.u64.wrap _=((Qz ((xs.take k).foldl Qz (uW ((r.pc:Int) + 4))) (xs.getD k default):Nat):Int) from (by rw [Int.mul_comm];exact Ba _),← Bc (f:=Qz) hlt]
  refine run ?_
  exact bH (k + 1) hlt
 ·obtain rfl:k=xs.length:=by simp at hc;omega
  rw [List.take_length]
  refine run ?_
  refine gK ?_
  rfl
def QA (on:Bool) (f t:Nat):List qp:=[⟨0,1,bif on then 1 else 0⟩,⟨12,12,f⟩,⟨48,4,t⟩]
def Yn (on:Bool) (f t:Nat):Nat:=uC (joinL (QA on f t) 0 0)
def lY (w:Nat):bQ:=bif decide (Yn (decide (aT w 0 1=1)) (aT w 12 12) (aT w 48 4)=w) then ⟨decide (aT w 0 1=1),aT w 12 12,aT w 48 4⟩ else ⟨false,0,0⟩
def Dq (w:Nat):Bool:=decide (Yn (decide (aT w 0 1=1)) (aT w 12 12) (aT w 48 4)=w)
theorem oD (w a n:Nat):aT w a n≤iy n:=Nat.and_le_right
theorem QB (on : Bool) (f t : Nat) (hf : f ≤ 4095) (ht : t ≤ 15) : ∀ x ∈ QA on f t, x.Ok := by
  intro x hx
  simp only [QA, List.mem_cons, List.not_mem_nil, or_false] at hx
  rcases hx with rfl | rfl | rfl
  · exact ⟨by dsimp only; decide, by dsimp only; decide, by cases on <;> decide⟩
  · exact ⟨by dsimp only; decide, by dsimp only; decide, by have : iy 12 = 4095 := by decide
                                                            dsimp only; omega⟩
  · exact ⟨by dsimp only; decide, by dsimp only; decide, by have : iy 4 = 15 := by decide
                                                            dsimp only; omega⟩
theorem Jy (on:Bool) (f t:Nat) (hf:f≤4095) (ht:t≤15) (w:World):Fn Tryz.prog 201 [.agg #[.bool on,.int .i64 (f:Int),.int .i64 (t:Int)]].toArray w [] (fun u hn=>∃ h1,Own 149 3 u h1 ((QA on f t).map Ey)∧aF h1 hn):=by
 refine enter Tryz.func201 ?_
 refine run ?_
 intro B F
 refine dX (σ:=Unit) (fun _=>[]) (fun _=>⟨F,#[.int .i64 0,.int .i64 1,.int .u64 (bif on then (1:Int) else 0)],149⟩::⟨B,#[.bool on,.int .i64 (f:Int),.int .i64 (t:Int)],277⟩::[]) (fun _=>True) ?_ ?_
 ·refine aj _ rfl (fun hc=>?_) (fun hc=>?_)
  ·rw [hc,cond_true]
   refine run ?_
   exact dA () trivial (h2:=by (exact ak))
  ·rw [hc,cond_false]
   refine run ?_
   exact dA () trivial (h2:=by (exact ak))
 rintro ⟨⟩ -
 rw [show (bif on then (1:Int) else 0)=((bif on then 1 else 0:Nat):Int) by cases on<;>rfl]
 refine run ?_
 intro T
 exact fin1 ⟨[⟨T,#[.int .i64 0,.int .i64 1,.int .u64 ((bif on then 1 else 0:Nat):Int),.int .i64 12,.int .i64 12,.int .u64 (f:Int),.int .i64 48,.int .i64 4,.int .u64 (t:Int)],149⟩],pK T 3 (QA on f t),by (exact ak)⟩
theorem QC (on:Bool) (f t:Nat) (hf:f≤4095) (ht:t≤15) (w:World):Fn Tryz.prog 169 [.agg #[.bool on,.int .i64 (f:Int),.int .i64 (t:Int)]].toArray w [] (fun u _=>∃ e,u=.tuple #[.int .u64 (Yn on f t:Nat),.int .i64 e]):=by
 refine enter Tryz.func169 ?_
 refine az ?_
 intro B
 refine aj _ rfl (fun hc=>absurd hc aw0) (fun hc=>?_)
 refine run ?_
 refine gX (fun wc hG=>Jy on f t hf ht wc) ?_
 rintro u hn ⟨h1,hO,hle⟩
 obtain ⟨q,c,e⟩:=hO.opened
 subst e
 refine aJ h1 (cnt1 hle) ?_
 refine run ?_
 refine ax (fun wc hG=>zS (QA on f t) (QB on f t hf ht) (hO.lie (fun b hb=>hG.here b hb) (by simp [QA]))) ?_
 refine run ?_
 exact fin2 ⟨_,rfl⟩
theorem Xu (v:Nat) (hv:v<18446744073709551616) (w:World):Fn Tryz.prog 139 [.int .u64 (v:Int)].toArray w [] (fun u _=>∃ e,u=.tuple #[.agg (iK (lY v)).toArray,.int .i64 e]):=by
 have g12:aT v 12 12≤4095:=oD v 12 12
 have g48:aT v 48 4≤15:=oD v 48 4
 refine enter Tryz.func139 ?_
 refine run ?_
 intro B
 refine ax (fun wc hG=>Ez v 12 12 av1 av1 hv wc) ?_
 refine run ?_
 refine ax (fun wc hG=>Ez v 48 4 av1 av1 hv wc) ?_
 refine run ?_
 refine eH av2 (kT rfl rfl v 1 rfl rfl hv av1) ?_
 rw [show v &&& 1=aT v 0 1 from rfl]
 refine run ?_
 intro R
 rw [show decide (((aT v 0 1:Nat):Int)=1)=decide (aT v 0 1=1) by rw [Bool.eq_iff_iff];simp;omega]
 refine Gs (fun wc hG=>QC _ _ _ g12 g48 wc) ?_
 rintro _ ⟨e,rfl⟩
 refine run ?_
 refine aj _ rfl (fun hc=>?_) (fun hc=>?_)
 ·have hr:lY v=⟨false,0,0⟩:=by
   unfold lY
   rw [decide_eq_false ax6];rfl
  rw [hr]
  refine run ?_
  refine gG ?_
  exact ⟨_,rfl⟩
 ·have hr:lY v=⟨decide (aT v 0 1=1),aT v 12 12,aT v 48 4⟩:=by
   unfold lY
   rw [decide_eq_true ax6];rfl
  rw [hr]
  refine run ?_
  refine gG ?_
  exact ⟨_,rfl⟩
theorem G8 (on:Bool) (f t:Nat) (hf:f≤4095) (ht:t≤15) (w:World):Fn Tryz.prog 191 [.agg #[.bool on,.int .i64 (f:Int),.int .i64 (t:Int)]].toArray w [] (fun u _=>u=.int .u64 (Yn on f t:Nat)):=by
 refine enter Tryz.func191 ?_
 refine run ?_
 intro B
 refine run ?_
 refine EK 20 11 [0,1,2,3,4,5,6,7,8,9,10] [(11,false),(12,false),(13,true),(14,true),(15,true),(16,true),(17,false),(18,false),(19,false)] _ ?_ (aF.refl _)
 refine dh ?_
 refine Et rfl ax1 (fun hx2=>fJ (fV 179 rfl) rfl (fun wc hG=>qh 0 on wc)) ?_
 refine dh ?_
 refine xC ?_
 refine wC (zV (QA on f t)) (fun T=>?_) (hn:=by cases on<;>rfl)
 refine aH ?_
 refine xC ?_
 refine uy (fun wc hG=>xO (QA on f t) (QB on f t hf ht) ((pK T 3 (QA on f t)).lie (fun b hb=>hG.here b ay9) (by simp [QA]))) (fun u hn hR=>?_)
 obtain ⟨rfl,rfl⟩:=hR
 refine aH ?_
 refine VU ?_
 refine qJ ?_
 refine qJ ?_
 refine qJ ?_
 refine xC ?_
 refine sV (fun hx=>eY rfl) ?_
 refine aH ?_
 refine xC ?_
 refine sV (fun hx=>eY rfl) ?_
 refine aH ?_
 refine xC ?_
 refine sV (fun hx=>eY rfl) ?_
 refine aH ?_
 refine Um ?_
 refine zB ?_
 simp only [List.cons_append,List.nil_append,List.append_nil]
 refine run ?_
 exact fin1 rfl
theorem Nk (v:Nat) (hv:v<18446744073709551616) (w:World):Fn Tryz.prog 157 [.int .u64 (v:Int)].toArray w [] (fun u _=>u=.tuple #[.agg (iK (lY v)).toArray,.bool (Dq v)]):=by
 have g12:aT v 12 12≤4095:=oD v 12 12
 have g48:aT v 48 4≤15:=oD v 48 4
 refine enter Tryz.func157 ?_
 refine run ?_
 intro B
 refine ax (fun wc hG=>rH v 0 av1 hv wc) ?_
 refine run ?_
 refine ax (fun wc hG=>oW v 12 12 av1 av1 hv wc) ?_
 refine run ?_
 refine ax (fun wc hG=>oW v 48 4 av1 av1 hv wc) ?_
 refine run ?_
 intro R
 refine ax (fun wc hG=>G8 _ _ _ g12 g48 wc) ?_
 refine run ?_
 refine aj _ rfl (fun hc=>?_) (fun hc=>?_)
 ·have hb:Dq v=false:=by unfold Dq;exact decide_eq_false ax6
  have hr:lY v=⟨false,0,0⟩:=by
   unfold lY
   rw [decide_eq_false ax6];rfl
  rw [hr,hb]
  refine run ?_
  refine gG ?_
  rfl
 ·have hb:Dq v=true:=by unfold Dq;exact decide_eq_true ax6
  have hr:lY v=⟨decide (aT v 0 1=1),aT v 12 12,aT v 48 4⟩:=by
   unfold lY
   rw [decide_eq_true ax6];rfl
  rw [hr,hb]
  refine run ?_
  refine gG ?_
  rfl
def aC.one (r:aC):bQ:={ lY (r.gp &&& (18446744073709551615 - 1)) with on:=decide (aT r.dm 0 1=1) }
structure aC.Ok (r:aC):Prop where
 x0:gq r.x0
 x1:gq r.x1
 x2:gq r.x2
 x3:gq r.x3
 x4:gq r.x4
 x5:gq r.x5
 x6:gq r.x6
 x7:gq r.x7
 pc:gq r.pc
 gp:gq r.gp
 dm:gq r.dm
 jd:gq r.jd
 qw:gq r.qw
 mJ:gq r.mJ
 far:gq r.far
theorem Xv (r:aC) (h1:r.gp<18446744073709551616) (h2:r.dm<18446744073709551616) (w:World):Fn Tryz.prog 107 [.agg (dD r).toArray].toArray w [] (fun u _=>u=.agg (iK r.one).toArray):=by
 refine enter Tryz.func107 ?_
 refine run ?_
 intro R X
 refine run ?_
 refine eH av2 (oI rfl rfl r.gp 1 rfl rfl h1 av1) ?_
 refine run ?_
 refine Gs (fun wc hG=>Xu _ (Nat.lt_of_le_of_lt Nat.and_le_left h1) wc) ?_
 rintro _ ⟨e,rfl⟩
 refine run ?_
 intro Y
 refine eH av2 (kT rfl rfl r.dm 1 rfl rfl h2 av1) ?_
 rw [show r.dm &&& 1=aT r.dm 0 1 from rfl]
 refine run ?_
 rw [show decide (((aT r.dm 0 1:Nat):Int)=1)=decide (aT r.dm 0 1=1) by rw [Bool.eq_iff_iff];simp;omega]
 refine run ?_
 refine gK ?_
 rfl
theorem QD (r:aC) (h1:r.gp<18446744073709551616) (h2:r.dm<18446744073709551616) (w:World):Fn Tryz.prog 128 [.agg (dD r).toArray].toArray w [] (fun u _=>u=.agg (iK r.one).toArray):=by
 refine enter Tryz.func128 ?_
 refine run ?_
 intro R X
 refine run ?_
 refine eH av2 (oI rfl rfl r.gp 1 rfl rfl h1 av1) ?_
 refine run ?_
 refine ax (fun wc hG=>Nk _ (Nat.lt_of_le_of_lt Nat.and_le_left h1) wc) ?_
 refine run ?_
 intro Y
 refine aj _ rfl (fun hc=>?_) (fun hc=>?_)
 ·have hr:lY (r.gp &&& (18446744073709551615 - 1))=⟨false,0,0⟩:=by
   unfold lY
   rw [show decide (Yn (decide (aT (r.gp &&& (18446744073709551615 - 1)) 0 1=1)) (aT (r.gp &&& (18446744073709551615 - 1)) 12 12) (aT (r.gp &&& (18446744073709551615 - 1)) 48 4)=r.gp &&& (18446744073709551615 - 1))=false by simpa [Dq] using hc];rfl
  have ho:r.one=⟨decide (aT r.dm 0 1=1),0,0⟩:=by unfold aC.one;rw [hr]
  rw [ho]
  refine run ?_
  refine ax (fun wc hG=>oW r.dm 0 1 av1 av1 h2 wc) ?_
  refine run ?_
  rw [show decide (((aT r.dm 0 1:Nat):Int)=1)=decide (aT r.dm 0 1=1) by rw [Bool.eq_iff_iff];simp;omega]
  refine run ?_
  refine gK ?_
  rfl
 ·refine run ?_
  refine ax (fun wc hG=>oW r.dm 0 1 av1 av1 h2 wc) ?_
  refine run ?_
  rw [show decide (((aT r.dm 0 1:Nat):Int)=1)=decide (aT r.dm 0 1=1) by rw [Bool.eq_iff_iff];simp;omega]
  refine run ?_
  refine gK ?_
  rfl
end
section
attribute [local irreducible] Hy St Ops DH gB
theorem VX {G R:Prop} (k:R) (h:uh R→G:=by (intro kJ;(repeat (first | (with_reducible apply Ac) | (with_reducible apply tC) | (with_reducible apply qy) | (with_reducible apply qA) | (with_reducible apply Ag) | (with_reducible apply wZ) | (with_reducible apply qF) | (with_reducible apply oM) | (with_reducible apply xk) | (with_reducible apply tV) | (with_reducible apply wU) | (with_reducible apply Ad) | (with_reducible apply wR) | (with_reducible apply wS) | ((with_reducible apply tX);rfl) | ((with_reducible apply eH);rfl;(first | exact Md)) | ((with_reducible apply F8);rfl;rfl;(exact jL);intro blk) | ((with_reducible apply xq ay);rfl;rfl;(exact jL);intro blk) | ((with_reducible apply qR ay);rfl;rfl;(exact jL);rfl;rfl;(exact wB);(exact Ja);(exact Jb);(exact pY))));(repeat revert blk);exact kJ.get)):G:=h ⟨k⟩
section
variable {n : Nat} {w0 : World} {mu : List Nat} {l : Fm} {hp : Hp} {Q : Exit → Fm → Hp → Prop} {all : Array Oper} {rest : List Oper} {ty : TypeId} {pos : String} {af : Array Edge}
theorem Ux {t d len e sz:Nat} {z:Value} {ps:List (Nat × Operand)} {vs:List (Nat × Value)} {zl:List Value} (out:Array Value) (out':List Value) (h:∀ b,Ops Tryz.prog n w0 mu all rest ((d,.slice (some ⟨b,0,none⟩) len len)::l) (⟨b,out'.toArray,e⟩::hp) Q) (hn:out=out'.toArray)
  (hd:Nat.blt d n=true:=by rfl) (ht:lk Tb.sl t=some (e,sz):=by rfl) (hz:lk Tb.zs e=some z:=by rfl) (hzc:z.cells=zl.toArray:=by (first | ((simp only [Value.cells])<;>rfl) | rfl)) (hzs:Nat.beq zl.length sz=true:=by rfl) (hpos:(Nat.blt 0 (len * sz) && Nat.ble (len * sz) 16777216)=true:=by rfl) (hv:FQ l ps=some vs:=by rfl) (hf:VE sz (rep zl len).toArray vs=some out:=by kernel_rfl):Ops Tryz.prog n w0 mu all (⟨some d,.buildSlice t len ps.toArray,ty,pos,af,none⟩::rest) l hp Q:=
 qB ay hd ht hz hzc hzs hpos hv hf hn h
end
section
variable {P : Program} {T : Tab} {n : Nat} {w0 : World} {mu : List Nat} {l : Fm} {hp : Hp} {dd : Option Nat} {ty : TypeId} {pos : String} {af : Array Edge} {gg : Option (Nat × Bool)} {t u : TypeId} {x y : Operand}
theorem x9 {pi qi:Int} (hx:ev l x=some (.int .u32 pi)) (hy:ev l y=some (.int .u32 qi)) (p q:Nat) (hpi:pi=(p:Int)) (hqi:qi=(q:Int)) (h1:p<4294967296) (h2:q<4294967296):Hy P n w0 mu l hp ⟨dd,.binOp .and t x y u,ty,pos,af,gg⟩ (.int .u32 ((p &&& q:Nat):Int)):=
 bz fun ac w hk _=>by
  subst hpi hqi
  have:=u32_and_nat p q h1 h2
  simp only [execOp,hk.ev hx,hk.ev hy]
  simp [eqGuard_and,binOp_and,intBits_and,this]
theorem EP {pi qi:Int} (hx:ev l x=some (.int .u32 pi)) (hy:ev l y=some (.int .u32 qi)) (p q:Nat) (hpi:pi=(p:Int)) (hqi:qi=(q:Int)) (h1:p<4294967296) (h2:q<4294967296):Hy P n w0 mu l hp ⟨dd,.binOp .or t x y u,ty,pos,af,gg⟩ (.int .u32 ((p ||| q:Nat):Int)):=
 bz fun ac w hk _=>by
  subst hpi hqi
  have:=u32_or_nat p q h1 h2
  simp only [execOp,hk.ev hx,hk.ev hy]
  simp [eqGuard_or,binOp_or,intBits_or,this]
theorem Bd {k ky:IntKind} {p c:Int} (hx:ev l x=some (.int k p)) (hy:ev l y=some (.int ky c)) (h0:0≤c) (h1:c≤k.bits):Hy P n w0 mu l hp ⟨dd,.binOp .shr t x y u,ty,pos,af,gg⟩ (.int k (p / 2 ^ c.toNat)):=
 bz fun ac w hk _=>by
  have hs:=shift_shr k ky p c h0 h1
  simp only [execOp,hk.ev hx,hk.ev hy]
  simp only [eqGuard_shr,binOp_shr,hs]
  simp
theorem wG {k ky:IntKind} {p c:Int} (hx:ev l x=some (.int k p)) (hy:ev l y=some (.int ky c)) (h0:0≤c) (h1:c≤k.bits):Hy P n w0 mu l hp ⟨dd,.binOp .shl t x y u,ty,pos,af,gg⟩ (.int k (k.wrap (p * 2 ^ c.toNat))):=
 bz fun ac w hk _=>by
  have hs:=shift_shl k ky p c h0 h1
  simp only [execOp,hk.ev hx,hk.ev hy]
  simp only [eqGuard_shl,binOp_shl,hs]
  simp
theorem Xw {pi qi:Int} (hx:ev l x=some (.int .u64 pi)) (hy:ev l y=some (.int .u64 qi)) (p q:Nat) (hpi:pi=(p:Int)) (hqi:qi=(q:Int)) (hq:0<q) (hb:p<18446744073709551616):Hy P n w0 mu l hp ⟨dd,.binOp .quo t x y u,ty,pos,af,gg⟩ (.int .u64 ((p / q:Nat):Int)):=
 bz fun ac w hk _=>by
  subst hpi hqi
  have h1:(p:Int).tdiv q=((p / q:Nat):Int):=by rw [Int.tdiv_eq_ediv_of_nonneg au'];simp
  have h2:¬ (q=0):=by omega
  have h3:p / q≤p:=Nat.div_le_self _ _
  have h4:IntKind.u64.wrap ((p / q:Nat):Int)=((p / q:Nat):Int):=by
   generalize p / q=z at h3
   rw [IntKind.wrap_u64];omega
  simp only [execOp,hk.ev hx,hk.ev hy]
  rw [show ((p / q:Nat):Int)=(p:Int) / (q:Int) by simp] at h4
  simp [eqGuard_quo,binOp_quo,Op.intDiv,h1,h2,h4]
theorem QE {k:IntKind} {p:Int} (hx:ev l x=some (.int k p)):Hy P n w0 mu l hp ⟨dd,.unOp .neg t x,ty,pos,af,gg⟩ (.int k (k.wrap (-p))):=
 bz fun a w hk _=>by simp only [execOp,hk.ev hx];simp [go_sem]
end
end
section
attribute [local irreducible] Hy St Ops DH gB iH iq fK DS fA jX
structure bG where
 op:Int
 d:Int
 n:Int
 m:Int
 aW:Int
instance : Inhabited bG := ⟨⟨0, 0, 0, 0, 0⟩⟩
abbrev Iu (x:bG):List Value:=[.int .i64 x.op,.int .i64 x.d,.int .i64 x.n,.int .i64 x.m,.int .i64 x.aW]
def bG.base (x:bG):Bool:=PtD.bY x.op 1 16 && (PtD.bY x.d 0 7 && (PtD.bY x.n 0 7 && (PtD.bY x.m 0 7 && PtD.bY x.aW (-2048) 2047)))
def bG.kind (x:bG):Bool:=
 bif decide (x.op=7) || decide (x.op=8) then decide (x.m≤3)
 else bif decide (x.op=11) || decide (x.op=12) then PtD.bY x.aW 0 5
 else bif decide (x.op=13) then PtD.bY x.aW 3 5 else true
def bG.may (x:bG):Bool:=x.base && x.kind
theorem uK (n lo hi:Int) (w:World):Fn Tryz.prog 176 [.int .i64 n,.int .i64 lo,.int .i64 hi].toArray w [] (fun u _=>u=.bool (PtD.bY n lo hi)):=by
 refine enter Tryz.func176 ?_
 refine aX ?_
 exact fin1 rfl
theorem Xx (x:bG) (w:World):Fn Tryz.prog 148 [.agg (Iu x).toArray].toArray w [] (fun u _=>u=.bool x.may):=by
 refine enter Tryz.func148 ?_
 refine run ?_
 intro B
 refine run ?_
 refine ax (fun wc hG=>uK x.op 1 16 wc) ?_
 refine az ?_
 refine aZ (fun _ wc hG=>uK x.d 0 7 wc) ?_
 refine az ?_
 refine aZ (fun _ wc hG=>uK x.n 0 7 wc) ?_
 refine az ?_
 refine aZ (fun _ wc hG=>uK x.m 0 7 wc) ?_
 refine az ?_
 refine aZ (fun _ wc hG=>uK x.aW (-2048) 2047 wc) ?_
 refine az ?_
 refine aj _ rfl (fun hc=>?_) (fun hc=>?_)
 ·have hm:x.may=false:=by
   unfold bG.may bG.base
   simp only [Bool.or_eq_true,Bool.not_eq_true'] at hc
   rcases hc with (((h | h) | h) | h) | h<;>simp [h]
  rw [hm]
  refine run ?_
  exact fin1 rfl
 ·have hm:x.may=x.kind:=by
   unfold bG.may bG.base
   simp only [Bool.or_eq_false_iff,Bool.not_eq_false'] at hc
   obtain ⟨⟨⟨⟨h1,h2⟩,h3⟩,h4⟩,h5⟩:=hc
   simp [h1,h2,h3,h4,h5]
  rw [hm]
  obtain ⟨op,d,n,m,aW⟩:=x
  by_cases h7:op=7
  ·have hk:(⟨op,d,n,m,aW⟩:bG).kind=decide (m≤3):=by
    unfold bG.kind
    simp [h7]
   rw [hk]
   refine az ?_
   refine aj _ rfl (fun _=>?_) (fun hc=>absurd h7 (of_decide_eq_false hc))
   refine az ?_
   refine aj _ rfl (fun _=>?_) (fun hc=>absurd h7 (of_decide_eq_false hc))
   refine az ?_
   exact fin1 rfl
  by_cases h8:op=8
  ·have hk:(⟨op,d,n,m,aW⟩:bG).kind=decide (m≤3):=by
    unfold bG.kind
    simp [h8]
   rw [hk]
   refine az ?_
   refine aj _ rfl (fun hc=>absurd (of_decide_eq_true hc) h7) (fun _=>?_)
   refine az ?_
   refine aj _ rfl (fun _=>?_) (fun hc=>absurd h8 (of_decide_eq_false hc))
   refine az ?_
   exact fin1 rfl
  by_cases h11:op=11
  ·have hk:(⟨op,d,n,m,aW⟩:bG).kind=PtD.bY aW 0 5:=by
    unfold bG.kind
    simp [h11]
   rw [hk]
   refine az ?_
   refine aj _ rfl (fun hc=>absurd (of_decide_eq_true hc) h7) (fun _=>?_)
   refine az ?_
   refine aj _ rfl (fun hc=>absurd (of_decide_eq_true hc) h8) (fun _=>?_)
   refine az ?_
   refine aj _ rfl (fun _=>?_) (fun hc=>absurd h11 (of_decide_eq_false hc))
   refine az ?_
   refine aj _ rfl (fun _=>?_) (fun hc=>absurd h11 (of_decide_eq_false hc))
   refine az ?_
   refine ax (fun wc hG=>uK aW 0 5 wc) ?_
   refine run ?_
   exact fin1 rfl
  by_cases h12:op=12
  ·have hk:(⟨op,d,n,m,aW⟩:bG).kind=PtD.bY aW 0 5:=by
    unfold bG.kind
    simp [h12]
   rw [hk]
   refine az ?_
   refine aj _ rfl (fun hc=>absurd (of_decide_eq_true hc) h7) (fun _=>?_)
   refine az ?_
   refine aj _ rfl (fun hc=>absurd (of_decide_eq_true hc) h8) (fun _=>?_)
   refine az ?_
   refine aj _ rfl (fun hc=>absurd (of_decide_eq_true hc) h11) (fun _=>?_)
   refine az ?_
   refine aj _ rfl (fun _=>?_) (fun hc=>absurd h12 (of_decide_eq_false hc))
   refine az ?_
   refine ax (fun wc hG=>uK aW 0 5 wc) ?_
   refine run ?_
   exact fin1 rfl
  by_cases h13:op=13
  ·have hk:(⟨op,d,n,m,aW⟩:bG).kind=PtD.bY aW 3 5:=by
    unfold bG.kind
    simp [h13]
   rw [hk]
   refine az ?_
   refine aj _ rfl (fun hc=>absurd (of_decide_eq_true hc) h7) (fun _=>?_)
   refine az ?_
   refine aj _ rfl (fun hc=>absurd (of_decide_eq_true hc) h8) (fun _=>?_)
   refine az ?_
   refine aj _ rfl (fun hc=>absurd (of_decide_eq_true hc) h11) (fun _=>?_)
   refine az ?_
   refine aj _ rfl (fun hc=>absurd (of_decide_eq_true hc) h12) (fun _=>?_)
   refine az ?_
   refine aj _ rfl (fun _=>?_) (fun hc=>absurd h13 (of_decide_eq_false hc))
   refine az ?_
   refine ax (fun wc hG=>uK aW 3 5 wc) ?_
   refine run ?_
   exact fin1 rfl
  have hk:(⟨op,d,n,m,aW⟩:bG).kind=true:=by
   unfold bG.kind
   simp [h7,h8,h11,h12,h13]
  rw [hk]
  refine run ?_
  refine aj _ rfl (fun hc=>absurd (of_decide_eq_true hc) h7) (fun _=>?_)
  refine run ?_
  refine aj _ rfl (fun hc=>absurd (of_decide_eq_true hc) h8) (fun _=>?_)
  refine run ?_
  refine aj _ rfl (fun hc=>absurd (of_decide_eq_true hc) h11) (fun _=>?_)
  refine run ?_
  refine aj _ rfl (fun hc=>absurd (of_decide_eq_true hc) h12) (fun _=>?_)
  refine run ?_
  refine aj _ rfl (fun hc=>absurd (of_decide_eq_true hc) h13) (fun _=>?_)
  refine run ?_
  exact fin1 rfl
theorem KH (x:bG) (w:World):Fn Tryz.prog 52 [.agg (Iu x).toArray].toArray w [] (fun u _=>u=.bool x.may):=by
 refine enter Tryz.func52 ?_
 refine run ?_
 intro B
 refine az ?_
 refine aZ (fun _ wc hG=>uG x.d 7 wc) ?_
 refine az ?_
 refine aZ (fun _ wc hG=>uG x.n 7 wc) ?_
 refine az ?_
 refine aZ (fun _ wc hG=>uG x.m 7 wc) ?_
 refine az ?_
 refine aj _ rfl (fun hc=>?_) (fun hc=>?_)
 ·have hm:x.may=false:=by
   cases he:x.may with
   | false=>rfl
   | true=>
    exfalso
    unfold bG.may bG.base at he
    simp [PtD.bY] at he
    simp at hc
    omega
  rw [hm]
  refine run ?_
  exact fin1 rfl
 ·have hm:x.may=x.kind:=by
   have:x.base=true:=by
    unfold bG.base
    simp [PtD.bY]
    simp at hc
    omega
   unfold bG.may
   rw [this];rfl
  rw [hm]
  obtain ⟨op,d,n,m,aW⟩:=x
  by_cases h7:op=7
  ·have hk:(⟨op,d,n,m,aW⟩:bG).kind=decide (m≤3):=by
    unfold bG.kind
    simp [h7]
   rw [hk]
   refine az ?_
   refine aj _ rfl (fun _=>?_) (fun hc=>absurd h7 (of_decide_eq_false hc))
   refine az ?_
   refine aj _ rfl (fun _=>?_) (fun hc=>absurd h7 (of_decide_eq_false hc))
   refine az ?_
   exact fin1 rfl
  by_cases h8:op=8
  ·have hk:(⟨op,d,n,m,aW⟩:bG).kind=decide (m≤3):=by
    unfold bG.kind
    simp [h8]
   rw [hk]
   refine az ?_
   refine aj _ rfl (fun hc=>absurd (of_decide_eq_true hc) h7) (fun _=>?_)
   refine az ?_
   refine aj _ rfl (fun _=>?_) (fun hc=>absurd h8 (of_decide_eq_false hc))
   refine az ?_
   exact fin1 rfl
  by_cases h11:op=11
  ·have hk:(⟨op,d,n,m,aW⟩:bG).kind=PtD.bY aW 0 5:=by
    unfold bG.kind
    simp [h11]
   rw [hk]
   refine az ?_
   refine aj _ rfl (fun hc=>absurd (of_decide_eq_true hc) h7) (fun _=>?_)
   refine az ?_
   refine aj _ rfl (fun hc=>absurd (of_decide_eq_true hc) h8) (fun _=>?_)
   refine az ?_
   refine aj _ rfl (fun _=>?_) (fun hc=>absurd h11 (of_decide_eq_false hc))
   refine az ?_
   refine aj _ rfl (fun _=>?_) (fun hc=>absurd h11 (of_decide_eq_false hc))
   refine az ?_
   refine ax (fun wc hG=>uG aW 5 wc) ?_
   refine run ?_
   exact fin1 rfl
  by_cases h12:op=12
  ·have hk:(⟨op,d,n,m,aW⟩:bG).kind=PtD.bY aW 0 5:=by
    unfold bG.kind
    simp [h12]
   rw [hk]
   refine az ?_
   refine aj _ rfl (fun hc=>absurd (of_decide_eq_true hc) h7) (fun _=>?_)
   refine az ?_
   refine aj _ rfl (fun hc=>absurd (of_decide_eq_true hc) h8) (fun _=>?_)
   refine az ?_
   refine aj _ rfl (fun hc=>absurd (of_decide_eq_true hc) h11) (fun _=>?_)
   refine az ?_
   refine aj _ rfl (fun _=>?_) (fun hc=>absurd h12 (of_decide_eq_false hc))
   refine az ?_
   refine ax (fun wc hG=>uG aW 5 wc) ?_
   refine run ?_
   exact fin1 rfl
  by_cases h13:op=13
  ·have hk:(⟨op,d,n,m,aW⟩:bG).kind=PtD.bY aW 3 5:=by
    unfold bG.kind
    simp [h13]
   rw [hk]
   refine az ?_
   refine aj _ rfl (fun hc=>absurd (of_decide_eq_true hc) h7) (fun _=>?_)
   refine az ?_
   refine aj _ rfl (fun hc=>absurd (of_decide_eq_true hc) h8) (fun _=>?_)
   refine az ?_
   refine aj _ rfl (fun hc=>absurd (of_decide_eq_true hc) h11) (fun _=>?_)
   refine az ?_
   refine aj _ rfl (fun hc=>absurd (of_decide_eq_true hc) h12) (fun _=>?_)
   refine az ?_
   refine aj _ rfl (fun _=>?_) (fun hc=>absurd h13 (of_decide_eq_false hc))
   refine az ?_
   exact fin1 rfl
  have hk:(⟨op,d,n,m,aW⟩:bG).kind=true:=by
   unfold bG.kind
   simp [h7,h8,h11,h12,h13]
  rw [hk]
  refine run ?_
  refine aj _ rfl (fun hc=>absurd (of_decide_eq_true hc) h7) (fun _=>?_)
  refine run ?_
  refine aj _ rfl (fun hc=>absurd (of_decide_eq_true hc) h8) (fun _=>?_)
  refine run ?_
  refine aj _ rfl (fun hc=>absurd (of_decide_eq_true hc) h11) (fun _=>?_)
  refine run ?_
  refine aj _ rfl (fun hc=>absurd (of_decide_eq_true hc) h12) (fun _=>?_)
  refine run ?_
  refine aj _ rfl (fun hc=>absurd (of_decide_eq_true hc) h13) (fun _=>?_)
  refine run ?_
  exact fin1 rfl
def qK (i:Int):Nat:=(i % 4096).toNat
theorem uM (i:Int):qK i<4096:=by unfold qK;omega
def nY (n:Nat):Int:=bif decide (2047<n) then (n:Int) - 4096 else n
theorem QF (n:Nat) (h:n<4096):-2048≤nY n∧nY n≤2047:=by
 unfold nY
 cases hd:decide (2047<n) with
 | true=>have:=of_decide_eq_true hd;rw [cond_true];omega
 | false=>have:=of_decide_eq_false hd;rw [cond_false];omega
def bG.fds (x:bG):List qp:=[⟨27,5,x.op.toNat⟩,⟨24,3,x.d.toNat⟩,⟨21,3,x.n.toNat⟩,⟨18,3,x.m.toNat⟩,⟨0,12,qK x.aW⟩]
def bG.wd (x:bG):Nat:=(((x.op.toNat <<< 27 ||| x.d.toNat <<< 24) ||| x.n.toNat <<< 21) ||| x.m.toNat <<< 18) ||| qK x.aW
structure bG.Fit (x:bG):Prop where
 op:0≤x.op∧x.op<32
 d:0≤x.d∧x.d<8
 n:0≤x.n∧x.n<8
 m:0≤x.m∧x.m<8
 aW:-9223372036854775808≤x.aW∧x.aW<9223372036854775808
theorem bG.Aa {x:bG} (h:x.may=true):x.Fit:=by
 unfold bG.may bG.base at h
 simp [PtD.bY] at h
 constructor<;>omega
theorem bG.ER {x:bG} (h:x.Fit):∀ f∈x.fds,f.Ok:=by
 obtain ⟨h1,h2,h3,h4,h5⟩:=h
 have:=uM x.aW
 intro f hf
 simp only [bG.fds,List.mem_cons,List.mem_nil_iff,or_false] at hf
 rcases hf with rfl | rfl | rfl | rfl | rfl<;>exact ⟨by simp,by simp,by simp;omega⟩
theorem bG.join {x:bG} (h:x.Fit):joinL x.fds 0 0=some (x.wd,4294967295 - 258048):=by
 obtain ⟨h1,h2,h3,h4,h5⟩:=h
 have:=uM x.aW
 have e:joinL x.fds 0 0=some (((((0 ||| (x.op.toNat <<< 27) % 18446744073709551616) ||| (x.d.toNat <<< 24) % 18446744073709551616) ||| (x.n.toNat <<< 21) % 18446744073709551616) ||| (x.m.toNat <<< 18) % 18446744073709551616) ||| (qK x.aW <<< 0) % 18446744073709551616,4294709247):=by
  have m1:∀ v,qp.mask ⟨27,5,v⟩=4160749568:=fun v=>by show (iy 5 <<< 27) % 18446744073709551616=_;decide
  have m2:∀ v,qp.mask ⟨24,3,v⟩=117440512:=fun v=>by show (iy 3 <<< 24) % 18446744073709551616=_;decide
  have m3:∀ v,qp.mask ⟨21,3,v⟩=14680064:=fun v=>by show (iy 3 <<< 21) % 18446744073709551616=_;decide
  have m4:∀ v,qp.mask ⟨18,3,v⟩=1835008:=fun v=>by show (iy 3 <<< 18) % 18446744073709551616=_;decide
  have m5:∀ v,qp.mask ⟨0,12,v⟩=4095:=fun v=>by show (iy 12 <<< 0) % 18446744073709551616=_;decide
  simp only [bG.fds,joinL,m1,m2,m3,m4,m5,qp.bits,Nat.zero_and,Nat.reduceAnd,Nat.reduceOr,decide_true,cond_true]
 rw [e]
 unfold bG.wd
 simp only [Nat.shiftLeft_eq,Nat.zero_or,Nat.reducePow,Nat.pow_zero,Nat.mul_one]
 rw [Nat.mod_eq_of_lt au',Nat.mod_eq_of_lt au',Nat.mod_eq_of_lt au',Nat.mod_eq_of_lt au',Nat.mod_eq_of_lt au']
theorem G9 (x:bG) (w:World):Fn Tryz.prog 119 [.agg (Iu x).toArray].toArray w [] (fun u _=>u=.int .i64 (bif x.may then 0 else 1)):=by
 refine enter Tryz.func119 ?_
 refine run ?_
 intro B
 refine run ?_
 refine ax (fun wc hG=>Xx x wc) ?_
 refine run ?_
 refine aj _ rfl (fun hc=>?_) (fun hc=>?_)
 ·rw [show x.may=false by simpa using hc]
  refine run ?_
  exact fin1 rfl
 ·rw [show x.may=true by simpa using hc]
  refine run ?_
  exact fin1 rfl
theorem Nl (x:bG) (h:x.Fit) (w:World):Fn Tryz.prog 143 [.agg (Iu x).toArray].toArray w [] (fun u hn=>∃ h1,Own 149 3 u h1 (x.fds.map Ey)∧aF h1 hn):=by
 obtain ⟨h1,h2,h3,h4,h5⟩:=id h
 have h12:=uM x.aW
 refine enter Tryz.func143 ?_
 refine run ?_
 intro B
 refine eH av2 (jk ay rfl rfl rfl) ?_
 refine eH av2 (kT rfl rfl (IntKind.u64.wrap x.aW).toNat 4095 (by rw [IntKind.wrap_u64];omega) rfl (by rw [IntKind.wrap_u64];omega) av1) ?_
 rw [show (IntKind.u64.wrap x.aW).toNat &&& 4095=qK x.aW by rw [show (4095:Nat)=2 ^ 12 - 1 from rfl,Nat.and_two_pow_sub_one_eq_mod,IntKind.wrap_u64];unfold qK;omega]
 refine EI #[.int .i64 0,.int .i64 12,.int .u64 (qK x.aW:Nat)] ?_
 have e:zV x.fds=[.int .i64 27,.int .i64 5,.int .u64 x.op,.int .i64 24,.int .i64 3,.int .u64 x.d,.int .i64 21,.int .i64 3,.int .u64 x.n,.int .i64 18,.int .i64 3,.int .u64 x.m,.int .i64 0,.int .i64 12,.int .u64 (qK x.aW:Nat)]:=by
  simp [zV,bG.fds,Int.toNat_of_nonneg,h1.1,h2.1,h3.1,h4.1]
  omega
 refine qB ay (zl:=[.int .i64 0,.int .i64 0,.int .u64 0]) (out:=#[.int .i64 27,.int .i64 5,.int .u64 x.op,.int .i64 24,.int .i64 3,.int .u64 x.d,.int .i64 21,.int .i64 3,.int .u64 x.n,.int .i64 18,.int .i64 3,.int .u64 x.m,.int .i64 0,.int .i64 12,.int .u64 (qK x.aW:Nat)]) (out':=zV x.fds) av2 av2 av2 (by (first | ((simp only [Value.cells])<;>rfl) | rfl)) av2 av2 av2 aw6 (by rw [e]) (fun T=>?_)
 refine run ?_
 exact fin1 ⟨_,pK T 5 x.fds,by (exact ak)⟩
theorem yV (x:bG) (h:x.Fit) (w:World):Fn Tryz.prog 55 [.agg (Iu x).toArray].toArray w [] (fun u _=>u=.int .u32 (x.wd:Nat)):=by
 obtain ⟨h1,h2,h3,h4,h5⟩:=id h
 have h12:=uM x.aW
 refine enter Tryz.func55 ?_
 refine run ?_
 intro B
 refine run ?_
 refine eH av2 (jk ay rfl rfl rfl) ?_
 rw [show IntKind.u32.wrap x.op=(x.op.toNat:Int) by rw [IntKind.wrap_u32'];omega]
 refine eH av2 (wG rfl rfl av1 av1) ?_
 rw [show IntKind.u32.wrap ((x.op.toNat:Int) * 2 ^ (27:Int).toNat)=((x.op.toNat <<< 27:Nat):Int) by rw [IntKind.wrap_u32',Nat.shiftLeft_eq];simp;omega]
 refine run ?_
 refine eH av2 (jk ay rfl rfl rfl) ?_
 rw [show IntKind.u32.wrap x.d=(x.d.toNat:Int) by rw [IntKind.wrap_u32'];omega]
 refine eH av2 (wG rfl rfl av1 av1) ?_
 rw [show IntKind.u32.wrap ((x.d.toNat:Int) * 2 ^ (24:Int).toNat)=((x.d.toNat <<< 24:Nat):Int) by rw [IntKind.wrap_u32',Nat.shiftLeft_eq];simp;omega]
 refine run ?_
 refine eH av2 (EP rfl rfl (x.op.toNat <<< 27) (x.d.toNat <<< 24) rfl rfl av' av') ?_
 refine run ?_
 refine eH av2 (jk ay rfl rfl rfl) ?_
 rw [show IntKind.u32.wrap x.n=(x.n.toNat:Int) by rw [IntKind.wrap_u32'];omega]
 refine eH av2 (wG rfl rfl av1 av1) ?_
 rw [show IntKind.u32.wrap ((x.n.toNat:Int) * 2 ^ (21:Int).toNat)=((x.n.toNat <<< 21:Nat):Int) by rw [IntKind.wrap_u32',Nat.shiftLeft_eq];simp;omega]
 refine eH av2 (EP rfl rfl (x.op.toNat <<< 27 ||| x.d.toNat <<< 24) (x.n.toNat <<< 21) rfl rfl (Nat.or_lt_two_pow (n:=32) av' av') av') ?_
 refine run ?_
 refine eH av2 (jk ay rfl rfl rfl) ?_
 rw [show IntKind.u32.wrap x.m=(x.m.toNat:Int) by rw [IntKind.wrap_u32'];omega]
 refine eH av2 (wG rfl rfl av1 av1) ?_
 rw [show IntKind.u32.wrap ((x.m.toNat:Int) * 2 ^ (18:Int).toNat)=((x.m.toNat <<< 18:Nat):Int) by rw [IntKind.wrap_u32',Nat.shiftLeft_eq];simp;omega]
 refine eH av2 (EP rfl rfl ((x.op.toNat <<< 27 ||| x.d.toNat <<< 24) ||| x.n.toNat <<< 21) (x.m.toNat <<< 18) rfl rfl (Nat.or_lt_two_pow (n:=32) (Nat.or_lt_two_pow (n:=32) av' av') av') av') ?_
 refine run ?_
 refine eH av2 (jk ay rfl rfl rfl) ?_
 refine eH av2 (x9 rfl rfl (IntKind.u32.wrap x.aW).toNat 4095 (by rw [IntKind.wrap_u32'];omega) rfl (by rw [IntKind.wrap_u32'];omega) av1) ?_
 rw [show (IntKind.u32.wrap x.aW).toNat &&& 4095=qK x.aW by rw [show (4095:Nat)=2 ^ 12 - 1 from rfl,Nat.and_two_pow_sub_one_eq_mod,IntKind.wrap_u32'];unfold qK;omega]
 refine eH av2 (EP rfl rfl (((x.op.toNat <<< 27 ||| x.d.toNat <<< 24) ||| x.n.toNat <<< 21) ||| x.m.toNat <<< 18) (qK x.aW) rfl rfl (Nat.or_lt_two_pow (n:=32) (Nat.or_lt_two_pow (n:=32) (Nat.or_lt_two_pow (n:=32) av' av') av') av') au') ?_
 refine run ?_
 exact fin1 rfl
theorem bG.QG {x:bG} (h:x.Fit):x.wd<4294967296:=by
 obtain ⟨h1,h2,h3,h4,h5⟩:=h
 have h12:=uM x.aW
 unfold bG.wd
 exact Nat.or_lt_two_pow (n:=32) (Nat.or_lt_two_pow (n:=32) (Nat.or_lt_two_pow (n:=32) (Nat.or_lt_two_pow (n:=32) av' av') av') av') au'
theorem KI (x:bG) (w:World):Fn Tryz.prog 113 [.agg (Iu x).toArray].toArray w [] (fun u _=>u=bif x.may then .tuple #[.int .u32 (x.wd:Nat),.int .i64 0] else .tuple #[.int .u32 0,.int .i64 1]):=by
 refine enter Tryz.func113 ?_
 refine run ?_
 intro B
 refine run ?_
 refine ax (fun wc hG=>G9 x wc) ?_
 cases hm:x.may with
 | false=>
  refine aX ?_
  exact fin2 rfl
 | true=>
  have hF:=bG.Aa hm
  refine aX ?_
  refine gX (fun wc hG=>Nl x hF wc) ?_
  rintro u hn ⟨h1,hO,hle⟩
  obtain ⟨q,c,e⟩:=hO.opened
  subst e
  refine aJ h1 (cnt1 hle) ?_
  refine run ?_
  refine ax (fun wc hG=>zS x.fds (bG.ER hF) (hO.lie (fun b hb=>hG.here b hb) (by simp [bG.fds]))) ?_
  rw [bG.join hF]
  refine run ?_
  refine eH av2 (jk ay rfl rfl rfl) ?_
  rw [show IntKind.u32.wrap ((uC (some (x.wd,4294967295 - 258048)):Nat):Int)=(x.wd:Int) by rw [IntKind.wrap_u32'];have:=bG.QG hF;simp only [uC];omega]
  refine run ?_
  exact fin2 rfl
theorem Uy (v:Nat) (hv:v<4294967296) (w:World):Fn Tryz.prog 112 [.int .u64 (v:Nat),.int .i64 12].toArray w [] (fun u _=>u=.tuple #[.int .u64 (IntKind.u64.wrap (nY (v % 4096))),.int .i64 0]):=by
 refine enter Tryz.func112 ?_
 refine aX ?_
 refine eH av2 (wG rfl rfl av1 av1) ?_
 refine eH av2 (jk ay rfl rfl rfl) ?_
 refine aX ?_
 refine eH av2 (Bd rfl rfl av1 av1) ?_
 have e:IntKind.i64.wrap (IntKind.u64.wrap ((v:Int) * 2 ^ ((64:Int) - 12).toNat)) / 2 ^ ((64:Int) - 12).toNat=nY (v % 4096):=by
  rw [IntKind.wrap_u64,IntKind.wrap_i64]
  have h2:(2:Int) ^ ((64:Int) - 12).toNat=4503599627370496:=rfl
  rw [h2]
  unfold nY
  cases hd:decide (2047<v % 4096) with
  | true=>
   have:=of_decide_eq_true hd
   rw [cond_true]
   omega
  | false=>
   have:=of_decide_eq_false hd
   rw [cond_false]
   omega
 rw [e]
 refine eH av2 (jk ay rfl rfl rfl) ?_
 refine run ?_
 exact fin2 rfl
def bG.Np (v:Nat):bG:=⟨(aT v 27 5:Nat),(aT v 24 3:Nat),(aT v 21 3:Nat),(aT v 18 3:Nat),nY (v % 4096)⟩
def bG.Be (v:Nat):Bool:=(bG.Np v).may && decide ((bG.Np v).wd=v)
def bG.of (v:Nat):bG:=bif bG.Be v then bG.Np v else default
theorem ES (v:Nat) (hv:v<4294967296) (a n:Nat) (hn:1≤n) (Yk:a + n≤32) (B:Nat) (w:World) (hB:w.cell? ⟨B,0,none⟩=some (.int .u32 (v:Nat))):Fn Tryz.prog 110 ([]++[Value.int .i64 (a:Nat),Value.int .i64 (n:Nat)]++[Value.pointer (some ⟨B,0,none⟩)]).toArray w [] (fun u _=>u=.int .i64 (aT v a n:Nat)):=by
 have hg:aT v a n<4294967296:=Nat.lt_of_le_of_lt (Nat.le_trans Nat.and_le_left ax2) hv
 refine enter Tryz.func110 ?_
 refine run ?_
 refine run ?_
 refine ax (fun wc hG=>Ez v a n hn au' au' wc) ?_
 refine run ?_
 exact fin1 rfl
theorem Zn (v:Nat) (hv:v<4294967296) (w:World):Fn Tryz.prog 71 [.int .u32 (v:Nat)].toArray w [] (fun u _=>u=.tuple #[.agg (Iu (bG.of v)).toArray,.int .i64 (bif bG.Be v then 0 else 9)]):=by
 refine enter Tryz.func71 ?_
 refine run ?_
 intro B X
 refine ax (fun wc hG=>Uy v hv wc) ?_
 refine run ?_
 refine oP (fun wc hG=>ES v hv 27 5 av1 av1 B wc aw8) ?_
 refine run ?_
 refine oP (fun wc hG=>ES v hv 24 3 av1 av1 B wc aw8) ?_
 refine run ?_
 refine oP (fun wc hG=>ES v hv 21 3 av1 av1 B wc aw8) ?_
 refine run ?_
 refine oP (fun wc hG=>ES v hv 18 3 av1 av1 B wc aw8) ?_
 refine run ?_
 have hs:-2048≤nY (v % 4096)∧nY (v % 4096)≤2047:=QF _ (Nat.mod_lt _ av1)
 refine eH av2 (jk ay rfl rfl rfl) ?_
 rw [show IntKind.i64.wrap (IntKind.u64.wrap (nY (v % 4096)))=nY (v % 4096) by rw [IntKind.wrap_u64,IntKind.wrap_i64];omega]
 refine run ?_
 intro Y
 cases hm:(bG.Np v).may with
 | false=>
  have e1:bG.Be v=false:=by unfold bG.Be;rw [hm];rfl
  have e2:bG.of v=default:=by unfold bG.of;rw [e1];rfl
  rw [e1,e2]
  refine ax (v:=.tuple #[.int .u32 0,.int .i64 1]) (fun wc hG=>by have:=KI (bG.Np v) wc;rw [hm] at this;exact this) ?_
  refine az ?_
  refine aj _ rfl (fun hc=>?_) (fun hc=>absurd hc av4)
  refine run ?_
  refine gG ?_
  rfl
 | true=>
  refine ax (v:=.tuple #[.int .u32 ((bG.Np v).wd:Nat),.int .i64 0]) (fun wc hG=>by have:=KI (bG.Np v) wc;rw [hm] at this;exact this) ?_
  refine az ?_
  refine aj _ rfl (fun hc=>?_) (fun hc=>?_)
  ·have e1:bG.Be v=false:=by unfold bG.Be;rw [hm,Bool.true_and];exact decide_eq_false ax6
   have e2:bG.of v=default:=by unfold bG.of;rw [e1];rfl
   rw [e1,e2]
   refine run ?_
   refine gG ?_
   rfl
  ·have e1:bG.Be v=true:=by unfold bG.Be;rw [hm,Bool.true_and];exact decide_eq_true ax6
   have e2:bG.of v=bG.Np v:=by unfold bG.of;rw [e1];rfl
   rw [e1,e2]
   refine run ?_
   refine gG ?_
   rfl
theorem KJ (v:Nat) (hv:v<4294967296) (w:World):Fn Tryz.prog 57 [.int .u32 (v:Nat)].toArray w [] (fun u _=>u=.tuple #[.agg (Iu (bG.of v)).toArray,.bool (bG.Be v)]):=by
 have g1:aT v 27 5≤31:=oD v 27 5
 have g2:aT v 24 3≤7:=oD v 24 3
 have g3:aT v 21 3≤7:=oD v 21 3
 have g4:aT v 18 3≤7:=oD v 18 3
 refine enter Tryz.func57 ?_
 refine run ?_
 intro X
 refine eH av2 (Bd rfl rfl av1 av1) ?_
 rw [show (v:Int) / (2:Int) ^ (27:Int).toNat=(aT v 27 5:Nat) by unfold aT;rw [Nat.shiftRight_eq_div_pow,show iy 5=2 ^ 5 - 1 from rfl,Nat.and_two_pow_sub_one_eq_mod];simp;omega]
 refine eH av2 (og ay rfl rfl rfl au' au') ?_
 refine run ?_
 refine eH av2 (Bd rfl rfl av1 av1) ?_
 rw [show (v:Int) / (2:Int) ^ (24:Int).toNat=((v >>> 24:Nat):Int) by rw [Nat.shiftRight_eq_div_pow];simp]
 refine eH av2 (x9 rfl rfl (v >>> 24) 7 rfl rfl az8 av1) ?_
 rw [show v >>> 24 &&& 7=aT v 24 3 from rfl]
 refine eH av2 (og ay rfl rfl rfl au' au') ?_
 refine run ?_
 refine eH av2 (Bd rfl rfl av1 av1) ?_
 rw [show (v:Int) / (2:Int) ^ (21:Int).toNat=((v >>> 21:Nat):Int) by rw [Nat.shiftRight_eq_div_pow];simp]
 refine eH av2 (x9 rfl rfl (v >>> 21) 7 rfl rfl az8 av1) ?_
 rw [show v >>> 21 &&& 7=aT v 21 3 from rfl]
 refine eH av2 (og ay rfl rfl rfl au' au') ?_
 refine run ?_
 refine eH av2 (Bd rfl rfl av1 av1) ?_
 rw [show (v:Int) / (2:Int) ^ (18:Int).toNat=((v >>> 18:Nat):Int) by rw [Nat.shiftRight_eq_div_pow];simp]
 refine eH av2 (x9 rfl rfl (v >>> 18) 7 rfl rfl az8 av1) ?_
 rw [show v >>> 18 &&& 7=aT v 18 3 from rfl]
 refine eH av2 (og ay rfl rfl rfl au' au') ?_
 refine run ?_
 refine eH av2 (x9 rfl rfl v 4095 rfl rfl hv av1) ?_
 rw [show v &&& 4095=v % 4096 from Nat.and_two_pow_sub_one_eq_mod v 12]
 refine run ?_
 intro Y
 refine dX (σ:=Unit) (fun _=>[]) (fun _=>⟨Y,#[.int .i64 (aT v 27 5:Nat),.int .i64 (aT v 24 3:Nat),.int .i64 (aT v 21 3:Nat),.int .i64 (aT v 18 3:Nat),.int .i64 (nY (v % 4096))],41⟩::⟨X,#[.int .i64 0,.int .i64 0,.int .i64 0,.int .i64 0,.int .i64 0],41⟩::[]) (fun _=>True) ?_ ?_
 ·refine aj _ rfl (fun hc=>?_) (fun hc=>?_)
  ·have e:nY (v % 4096)=((v % 4096:Nat):Int) - 4096:=by
    unfold nY
    rw [show decide (2047<v % 4096)=true by simp at hc;exact decide_eq_true au'];rfl
   rw [e]
   refine run ?_
   exact dA () trivial (h2:=by (exact ak))
  ·have e:nY (v % 4096)=((v % 4096:Nat):Int):=by
    unfold nY
    rw [show decide (2047<v % 4096)=false by simp at hc;exact decide_eq_false au'];rfl
   rw [e]
   refine run ?_
   exact dA () trivial (h2:=by (exact ak))
 rintro ⟨⟩ -
 refine run ?_
 refine ax (fun wc hG=>KH (bG.Np v) wc) ?_
 cases hm:(bG.Np v).may with
 | false=>
  have e1:bG.Be v=false:=by unfold bG.Be;rw [hm];rfl
  have e2:bG.of v=default:=by unfold bG.of;rw [e1];rfl
  rw [e1,e2]
  refine az ?_
  refine aj _ rfl (fun hc=>?_) (fun hc=>absurd hc av4)
  refine run ?_
  refine gG ?_
  rfl
 | true=>
  refine az ?_
  refine aZ (fun hw wc hG=>yV (bG.Np v) (bG.Aa hm) wc) ?_
  refine az ?_
  refine aj _ rfl (fun hc=>?_) (fun hc=>?_)
  ·have e1:bG.Be v=false:=by unfold bG.Be;rw [hm,Bool.true_and];exact decide_eq_false ax6
   have e2:bG.of v=default:=by unfold bG.of;rw [e1];rfl
   rw [e1,e2]
   refine run ?_
   refine gG ?_
   rfl
  ·have e1:bG.Be v=true:=by unfold bG.Be;rw [hm,Bool.true_and];exact decide_eq_true ax6
   have e2:bG.of v=bG.Np v:=by unfold bG.of;rw [e1];rfl
   rw [e1,e2]
   refine run ?_
   refine gG ?_
   rfl
def Bf (x:bG) (n m:Nat):Int:=
 bif decide (x.op=1) then IntKind.u64.wrap x.aW
 else bif decide (x.op=2) then ((n:Int) + m + x.aW) % 18446744073709551616
 else bif decide (x.op=3) then ((n:Int) - m - x.aW) % 18446744073709551616
 else bif decide (x.op=4) then ((n &&& m:Nat):Int)
 else bif decide (x.op=5) then ((n ||| m:Nat):Int) else ((n ^^^ m:Nat):Int)
def sumW:List Int→Int→Int
 | [],a=>a
 | x::r,a=>sumW r (IntKind.u64.wrap (a + x))
theorem Nq {xs:List Int} {k:Nat} (h:k<xs.length) (a:Int):sumW (xs.drop k) a=sumW (xs.drop (k + 1)) (IntKind.u64.wrap (a + xs.getD k 0)):=by
 rw [List.drop_eq_getElem_cons h,sumW,List.getD_eq_getElem?_getD,List.getElem?_eq_getElem h];rfl
theorem QH (xs:List Int) {w:World} {v:Value} (h:aB w v 1 (xs.map fun a=>[Value.int .u64 a])):Fn Tryz.prog 120 [v].toArray w [] (fun u _=>u=.int .u64 (sumW xs 0)):=by
 obtain ⟨q,cap,rfl,hne,hle⟩:=h.opened
 refine enter Tryz.func120 ?_
 refine run ?_
 refine cO (σ:=Nat × Int) (fun s=>[(8,.int .i64 (s.1:Int)),(3,.int .u64 s.2)]) (fun _=>[]) (fun s=>s.1≤xs.length∧sumW (xs.drop s.1) s.2=sumW xs 0) (fun s=>xs.length - s.1) (0,0) ⟨Nat.zero_le _,rfl⟩ ?_
 rintro ⟨k,a⟩ m hm ⟨hk,hj⟩
 dsimp only at hm hk hj ⊢
 refine run ?_
 refine aj _ rfl (fun hc=>?_) (fun hc=>?_)
 ·have hlt:k<xs.length:=by simpa using hc
  obtain ⟨b,o,rfl⟩:=hne av5
  have hr:=h.row hlt
  rw [Nq hlt] at hj
  have h1:=cZ (h.row hlt)
  simp only [Nat.mul_one] at h1
  rw [show (xs.getD k 0)=xs.getD k default from rfl] at hj
  refine run ?_
  exact bH (k + 1,IntKind.u64.wrap (a + xs.getD k default)) ⟨hlt,hj⟩
 ·have hk0:k=xs.length:=by simp at hc;omega
  subst hk0
  rw [List.drop_length] at hj
  rw [← hj]
  refine run ?_
  exact fin1 rfl
theorem Xy (op d rn rm aW:Int) (h1:1≤op) (h6:op≤6) (n m:Nat) (hn:gq n) (hm:gq m) (w:World):Fn Tryz.prog 91 [.agg #[.int .i64 op,.int .i64 d,.int .i64 rn,.int .i64 rm,.int .i64 aW],.int .u64 (n:Nat),.int .u64 (m:Nat)].toArray w [] (fun u _=>u=.int .u64 (Bf ⟨op,d,rn,rm,aW⟩ n m)):=by
 refine enter Tryz.func91 ?_
 refine run ?_
 intro B
 refine run ?_
 refine eH av2 (jk ay rfl rfl rfl) ?_
 obtain rfl | rfl | rfl | rfl | rfl | rfl:op=1∨op=2∨op=3∨op=4∨op=5∨op=6:=by omega
 all_goals refine aX ?_
 ·exact fin1 rfl
 ·refine fin1 ?_
  show _=Value.int .u64 (((n:Int) + m + aW) % 18446744073709551616)
  congr 1
  simp only [IntKind.wrap_u64]
  omega
 ·refine fin1 ?_
  show _=Value.int .u64 (((n:Int) - m - aW) % 18446744073709551616)
  congr 1
  simp only [IntKind.wrap_u64]
  omega
 ·refine eH av2 (kT rfl rfl n m rfl rfl hn hm) ?_
  refine run ?_
  exact fin1 rfl
 ·refine eH av2 (uu rfl rfl n m rfl rfl hn hm) ?_
  refine run ?_
  exact fin1 rfl
 ·refine eH av2 (Jo rfl rfl n m rfl rfl hn hm) ?_
  refine run ?_
  exact fin1 rfl
theorem Xz (op d rn rm aW:Int) (hx:(⟨op,d,rn,rm,aW⟩:bG).may=true) (h6:op≤6) (n m:Nat) (hn:gq n) (hm:gq m) (w:World):Fn Tryz.prog 79 [.agg #[.int .i64 op,.int .i64 d,.int .i64 rn,.int .i64 rm,.int .i64 aW],.int .u64 (n:Nat),.int .u64 (m:Nat)].toArray w [] (fun u _=>u=.tuple #[.int .u64 (Bf ⟨op,d,rn,rm,aW⟩ n m),.int .i64 0]):=by
 refine enter Tryz.func79 ?_
 refine run ?_
 intro B
 refine run ?_
 refine ax (fun wc hG=>G9 ⟨op,d,rn,rm,aW⟩ wc) ?_
 rw [hx]
 refine aX ?_
 refine eH av2 (jk ay rfl rfl rfl) ?_
 have h1:1≤op:=by unfold bG.may bG.base at hx;simp [PtD.bY] at hx;omega
 clear hx
 obtain rfl | rfl | rfl | rfl | rfl | rfl:op=1∨op=2∨op=3∨op=4∨op=5∨op=6:=by omega
 all_goals refine aX ?_
 ·exact fin2 rfl
 ·intro T
  refine ax (fun wc hG=>QH [(n:Int),(m:Int),IntKind.u64.wrap aW] ((rJ (e:=25) (t:=25) T 3 [.int .u64 (n:Nat),.int .u64 (m:Nat),.int .u64 (IntKind.u64.wrap aW)] (xs:=[(n:Int),(m:Int),IntKind.u64.wrap aW].map fun a=>[Value.int .u64 a]) rfl rfl az6).lie (fun b hb=>hG.here b ay9) av4)) ?_
  refine run ?_
  refine fin2 ?_
  show _=Value.tuple #[.int .u64 (((n:Int) + m + aW) % 18446744073709551616),.int .i64 0]
  have e:sumW [(n:Int),(m:Int),IntKind.u64.wrap aW] 0=((n:Int) + m + aW) % 18446744073709551616:=by
   simp only [sumW,IntKind.wrap_u64]
   omega
  rw [e]
 ·refine eH av2 (QE rfl) ?_
  refine run ?_
  refine eH av2 (QE rfl) ?_
  refine run ?_
  intro T
  refine ax (fun wc hG=>QH [(n:Int),IntKind.u64.wrap (-(m:Int)),IntKind.u64.wrap (-(IntKind.u64.wrap aW))] ((rJ (e:=25) (t:=25) T 3 [.int .u64 (n:Nat),.int .u64 (IntKind.u64.wrap (-(m:Int))),.int .u64 (IntKind.u64.wrap (-(IntKind.u64.wrap aW)))] (xs:=[(n:Int),IntKind.u64.wrap (-(m:Int)),IntKind.u64.wrap (-(IntKind.u64.wrap aW))].map fun a=>[Value.int .u64 a]) rfl rfl az6).lie (fun b hb=>hG.here b ay9) av4)) ?_
  refine run ?_
  refine fin2 ?_
  show _=Value.tuple #[.int .u64 (((n:Int) - m - aW) % 18446744073709551616),.int .i64 0]
  have e:sumW [(n:Int),IntKind.u64.wrap (-(m:Int)),IntKind.u64.wrap (-(IntKind.u64.wrap aW))] 0=((n:Int) - m - aW) % 18446744073709551616:=by
   simp only [sumW,IntKind.wrap_u64]
   omega
  rw [e]
 ·refine eH av2 (kT rfl rfl n m rfl rfl hn hm) ?_
  refine run ?_
  exact fin2 rfl
 ·refine eH av2 (uu rfl rfl n m rfl rfl hn hm) ?_
  refine run ?_
  exact fin2 rfl
 ·refine eH av2 (Jo rfl rfl n m rfl rfl hn hm) ?_
  refine run ?_
  exact fin2 rfl
theorem Zo (x:bG) (h1:1≤x.op) (h6:x.op≤6) (n m:Nat) (hn:gq n) (hm:gq m) (w:World):Fn Tryz.prog 91 [.agg (Iu x).toArray,.int .u64 (n:Nat),.int .u64 (m:Nat)].toArray w [] (fun u _=>u=.int .u64 (Bf x n m)):=Xy _ _ _ _ _ h1 h6 n m hn hm w
theorem Zp (x:bG) (hx:x.may=true) (h6:x.op≤6) (n m:Nat) (hn:gq n) (hm:gq m) (w:World):Fn Tryz.prog 79 [.agg (Iu x).toArray,.int .u64 (n:Nat),.int .u64 (m:Nat)].toArray w [] (fun u _=>u=.tuple #[.int .u64 (Bf x n m),.int .i64 0]):=Xz _ _ _ _ _ hx h6 n m hn hm w
def nD.fds (f:nD):List qp:=[⟨0,3,f.kind.toNat⟩,⟨3,2,f.stage.toNat⟩,⟨5,2,f.level.toNat⟩,⟨7,1,bif f.walk then 1 else 0⟩,⟨8,12,f.page.toNat⟩]
def Jz (f:nD):Nat:=uC (joinL f.fds 0 0)
structure nD.Fit (f:nD):Prop where
 kind:0≤f.kind∧f.kind≤4
 stage:0≤f.stage∧f.stage≤2
 level:0≤f.level∧f.level≤3
 page:0≤f.page∧f.page≤4095
theorem nD.ER {f:nD} (h:f.Fit):∀ g∈f.fds,g.Ok:=by
 obtain ⟨h1,h2,h3,h4⟩:=h
 intro g hg
 simp only [nD.fds,List.mem_cons,List.mem_nil_iff,or_false] at hg
 rcases hg with rfl | rfl | rfl | rfl | rfl
 ·exact ⟨by simp,by simp,by simp;omega⟩
 ·exact ⟨by simp,by simp,by simp;omega⟩
 ·exact ⟨by simp,by simp,by simp;omega⟩
 ·exact ⟨by simp,by simp,by cases f.walk<;>simp⟩
 ·exact ⟨by simp,by simp,by simp;omega⟩
theorem QI (f:nD) (w:World):Fn Tryz.prog 161 [xZ f].toArray w [] (fun u hn=>∃ T,u=.slice (some ⟨T,0,none⟩) 5 5∧aF [⟨T,#[.int .i64 0,.int .i64 3,.int .u64 0,.int .i64 4,.int .i64 f.kind,.int .i64 3,.int .i64 2,.int .u64 0,.int .i64 2,.int .i64 f.stage,.int .i64 5,.int .i64 2,.int .u64 0,.int .i64 3,.int .i64 f.level,.int .i64 7,.int .i64 1,.int .u64 0,.int .i64 1,.int .i64 (bif f.walk then 1 else 0),.int .i64 8,.int .i64 12,.int .u64 0,.int .i64 4095,.int .i64 f.page],228⟩] hn):=by
 refine enter Tryz.func161 ?_
 refine run ?_
 intro B
 refine run ?_
 refine dX (σ:=Unit) (fun _=>[(3,.int .i64 (bif f.walk then 1 else 0))]) (fun _=>⟨B,#[.int .i64 f.kind,.int .i64 f.stage,.int .i64 f.level,.bool f.walk,.int .i64 f.page],43⟩::[]) (fun _=>True) ?_ ?_
 ·refine aj _ rfl (fun hc=>?_) (fun hc=>?_)
  ·rw [hc,cond_true]
   refine run ?_
   exact dA () trivial (h2:=by (exact ak))
  ·rw [hc,cond_false]
   refine run ?_
   exact dA () trivial (h2:=by (exact ak))
 rintro ⟨⟩ -
 refine VX ?_
 refine Ux #[.int .i64 0,.int .i64 3,.int .u64 0,.int .i64 4,.int .i64 f.kind,.int .i64 3,.int .i64 2,.int .u64 0,.int .i64 2,.int .i64 f.stage,.int .i64 5,.int .i64 2,.int .u64 0,.int .i64 3,.int .i64 f.level,.int .i64 7,.int .i64 1,.int .u64 0,.int .i64 1,.int .i64 (bif f.walk then 1 else 0),.int .i64 8,.int .i64 12,.int .u64 0,.int .i64 4095,.int .i64 f.page] (#[.int .i64 0,.int .i64 3,.int .u64 0,.int .i64 4,.int .i64 f.kind,.int .i64 3,.int .i64 2,.int .u64 0,.int .i64 2,.int .i64 f.stage,.int .i64 5,.int .i64 2,.int .u64 0,.int .i64 3,.int .i64 f.level,.int .i64 7,.int .i64 1,.int .u64 0,.int .i64 1,.int .i64 (bif f.walk then 1 else 0),.int .i64 8,.int .i64 12,.int .u64 0,.int .i64 4095,.int .i64 f.page]).toList (fun T=>?_) av2
 refine run ?_
 exact fin1 ⟨T,rfl,by (exact ak)⟩
theorem nD.Zq {f:nD} (h:f.Fit):zV f.fds=[.int .i64 0,.int .i64 3,.int .u64 f.kind,.int .i64 3,.int .i64 2,.int .u64 f.stage,.int .i64 5,.int .i64 2,.int .u64 f.level,.int .i64 7,.int .i64 1,.int .u64 (bif f.walk then 1 else 0),.int .i64 8,.int .i64 12,.int .u64 f.page]:=by
 obtain ⟨h1,h2,h3,h4⟩:=h
 cases hw:f.walk<;>simp [zV,nD.fds,hw]<;>omega
theorem XA (f:nD) (h:f.Fit) (w:World):Fn Tryz.prog 151 [xZ f].toArray w [] (fun u _=>u=.int .u64 (Jz f:Nat)):=by
 obtain ⟨h1,h2,h3,h4⟩:=id h
 have e:=nD.Zq h
 refine enter Tryz.func151 ?_
 refine run ?_
 intro B
 refine run ?_
 refine EK 28 19 [0,1,2,3,4,5,6,7,8,9,10,11,12,13,14,15,16,17,18] [(19,false),(20,false),(21,true),(22,true),(23,true),(24,true),(25,false),(26,false),(27,false)] _ ?_ (aF.refl _)
 refine dh ?_
 refine Et rfl ax1 (fun hx2=>fJ (fV 179 rfl) rfl (fun wc hG=>qh 7 f.walk wc)) ?_
 refine dh ?_
 refine xC ?_
 refine wC (out:=#[.int .i64 0,.int .i64 3,.int .u64 f.kind,.int .i64 3,.int .i64 2,.int .u64 f.stage,.int .i64 5,.int .i64 2,.int .u64 f.level,.int .i64 7,.int .i64 1,.int .u64 (bif f.walk then 1 else 0),.int .i64 8,.int .i64 12,.int .u64 f.page]) (zV f.fds) (fun T=>?_) (hf:=by kernel_rfl) (hn:=by rw [e])
 refine aH ?_
 refine xC ?_
 refine uy (fun wc hG=>xO f.fds (nD.ER h) ((pK T 5 f.fds).lie (fun b hb=>hG.here b ay9) (by simp [nD.fds]))) (fun u hn hR=>?_)
 obtain ⟨rfl,rfl⟩:=hR
 refine aH ?_
 refine VU ?_
 refine qJ ?_
 refine qJ ?_
 refine qJ ?_
 refine xC ?_
 refine sV (fun hx=>eY rfl) ?_
 refine aH ?_
 refine xC ?_
 refine sV (fun hx=>eY rfl) ?_
 refine aH ?_
 refine xC ?_
 refine sV (fun hx=>eY rfl) ?_
 refine aH ?_
 refine Um ?_
 refine zB ?_
 simp only [List.cons_append,List.nil_append,List.append_nil]
 refine run ?_
 exact fin1 rfl
def nD.rows (f:nD):List (List Value):=[[.int .i64 0,.int .i64 3,.int .u64 f.kind],[.int .i64 3,.int .i64 2,.int .u64 f.stage],[.int .i64 5,.int .i64 2,.int .u64 f.level],[.int .i64 7,.int .i64 1,.int .u64 (bif f.walk then 1 else 0)],[.int .i64 8,.int .i64 12,.int .u64 f.page]]
theorem nD.Zr {f:nD} (h:f.Fit):f.rows=f.fds.map Ey:=by
 obtain ⟨h1,h2,h3,h4⟩:=h
 cases hw:f.walk<;>simp [nD.rows,nD.fds,hw]<;>omega
theorem Uz (f:nD) (h:f.Fit) (w:World):Fn Tryz.prog 135 [xZ f].toArray w [] (fun u _=>∃ e,u=.tuple #[.int .u64 (Jz f:Nat),.int .i64 e]):=by
 obtain ⟨h1,h2,h3,h4⟩:=id h
 have hwk:(0:Int)≤(bif f.walk then 1 else 0)∧(bif f.walk then (1:Int) else 0)≤1:=by cases f.walk<;>decide
 refine enter Tryz.func135 ?_
 refine run ?_
 intro B
 refine run ?_
 refine gX (fun wc hG=>QI f wc) ?_
 rintro u hn ⟨T,rfl,hle⟩
 refine aJ (⟨T,#[.int .i64 0,.int .i64 3,.int .u64 0,.int .i64 4,.int .i64 f.kind,.int .i64 3,.int .i64 2,.int .u64 0,.int .i64 2,.int .i64 f.stage,.int .i64 5,.int .i64 2,.int .u64 0,.int .i64 3,.int .i64 f.level,.int .i64 7,.int .i64 1,.int .u64 0,.int .i64 1,.int .i64 (bif f.walk then 1 else 0),.int .i64 8,.int .i64 12,.int .u64 0,.int .i64 4095,.int .i64 f.page],228⟩::[]) (cnt1 hle) ?_
 refine run ?_
 refine cO (σ:=Nat × Value × Hp) (fun s=>[(4,s.2.1),(10,.int .i64 (s.1:Int))]) (fun s=>s.2.2++[⟨T,#[.int .i64 0,.int .i64 3,.int .u64 0,.int .i64 4,.int .i64 f.kind,.int .i64 3,.int .i64 2,.int .u64 0,.int .i64 2,.int .i64 f.stage,.int .i64 5,.int .i64 2,.int .u64 0,.int .i64 3,.int .i64 f.level,.int .i64 7,.int .i64 1,.int .u64 0,.int .i64 1,.int .i64 (bif f.walk then 1 else 0),.int .i64 8,.int .i64 12,.int .u64 0,.int .i64 4095,.int .i64 f.page],228⟩]) (fun s=>s.1≤5∧Acc 149 3 s.2.1 s.2.2 (f.rows.take s.1)) (fun s=>5 - s.1) (0,_,[]) ⟨by omega,Acc.nil _ _⟩ ?_
 rintro ⟨k,v,ha⟩ m hm ⟨hk,hA⟩
 dsimp only at hm hk hA ⊢
 refine run ?_
 refine aj _ rfl (fun hc=>?_) (fun hc=>?_)
 ·have hlt:k<5:=by simp at hc;omega
  obtain rfl | rfl | rfl | rfl | rfl:k=0∨k=1∨k=2∨k=3∨k=4:=by omega
  ·refine az ?_
   intro P
   refine aj _ rfl (fun hc=>absurd hc aw0) (fun _=>?_)
   refine run ?_
   intro X
   refine jD (hp':=⟨X,#[.int .i64 0,.int .i64 3,.int .u64 f.kind],149⟩::⟨P,#[.int .i64 0,.int .i64 3,.int .u64 f.kind,.int .i64 4,.int .i64 f.kind],228⟩::⟨T,#[.int .i64 0,.int .i64 3,.int .u64 0,.int .i64 4,.int .i64 f.kind,.int .i64 3,.int .i64 2,.int .u64 0,.int .i64 2,.int .i64 f.stage,.int .i64 5,.int .i64 2,.int .u64 0,.int .i64 3,.int .i64 f.level,.int .i64 7,.int .i64 1,.int .u64 0,.int .i64 1,.int .i64 (bif f.walk then 1 else 0),.int .i64 8,.int .i64 12,.int .u64 0,.int .i64 4095,.int .i64 f.page],228⟩::[]) (c:=[.int .i64 0,.int .i64 3,.int .u64 f.kind]) hA (fun v' ha' hA'=>?_) aA1 (bT (m:=3) mh rfl) (hperm:=by (exact au))
   refine run ?_
   exact bH (1,v',ha') ⟨by omega,hA'⟩ (h2:=by (exact ak))
  ·refine az ?_
   intro P
   refine aj _ rfl (fun hc=>absurd hc aw0) (fun _=>?_)
   refine run ?_
   intro X
   refine jD (hp':=⟨X,#[.int .i64 3,.int .i64 2,.int .u64 f.stage],149⟩::⟨P,#[.int .i64 3,.int .i64 2,.int .u64 f.stage,.int .i64 2,.int .i64 f.stage],228⟩::⟨T,#[.int .i64 0,.int .i64 3,.int .u64 0,.int .i64 4,.int .i64 f.kind,.int .i64 3,.int .i64 2,.int .u64 0,.int .i64 2,.int .i64 f.stage,.int .i64 5,.int .i64 2,.int .u64 0,.int .i64 3,.int .i64 f.level,.int .i64 7,.int .i64 1,.int .u64 0,.int .i64 1,.int .i64 (bif f.walk then 1 else 0),.int .i64 8,.int .i64 12,.int .u64 0,.int .i64 4095,.int .i64 f.page],228⟩::[]) (c:=[.int .i64 3,.int .i64 2,.int .u64 f.stage]) hA (fun v' ha' hA'=>?_) aA1 (bT (m:=3) mh rfl) (hperm:=by (exact au))
   refine run ?_
   exact bH (2,v',ha') ⟨by omega,hA'⟩ (h2:=by (exact ak))
  ·refine az ?_
   intro P
   refine aj _ rfl (fun hc=>absurd hc aw0) (fun _=>?_)
   refine run ?_
   intro X
   refine jD (hp':=⟨X,#[.int .i64 5,.int .i64 2,.int .u64 f.level],149⟩::⟨P,#[.int .i64 5,.int .i64 2,.int .u64 f.level,.int .i64 3,.int .i64 f.level],228⟩::⟨T,#[.int .i64 0,.int .i64 3,.int .u64 0,.int .i64 4,.int .i64 f.kind,.int .i64 3,.int .i64 2,.int .u64 0,.int .i64 2,.int .i64 f.stage,.int .i64 5,.int .i64 2,.int .u64 0,.int .i64 3,.int .i64 f.level,.int .i64 7,.int .i64 1,.int .u64 0,.int .i64 1,.int .i64 (bif f.walk then 1 else 0),.int .i64 8,.int .i64 12,.int .u64 0,.int .i64 4095,.int .i64 f.page],228⟩::[]) (c:=[.int .i64 5,.int .i64 2,.int .u64 f.level]) hA (fun v' ha' hA'=>?_) aA1 (bT (m:=3) mh rfl) (hperm:=by (exact au))
   refine run ?_
   exact bH (3,v',ha') ⟨by omega,hA'⟩ (h2:=by (exact ak))
  ·refine az ?_
   intro P
   refine aj _ rfl (fun hc=>absurd hc aw0) (fun _=>?_)
   refine run ?_
   intro X
   refine jD (hp':=⟨X,#[.int .i64 7,.int .i64 1,.int .u64 (bif f.walk then 1 else 0)],149⟩::⟨P,#[.int .i64 7,.int .i64 1,.int .u64 (bif f.walk then 1 else 0),.int .i64 1,.int .i64 (bif f.walk then 1 else 0)],228⟩::⟨T,#[.int .i64 0,.int .i64 3,.int .u64 0,.int .i64 4,.int .i64 f.kind,.int .i64 3,.int .i64 2,.int .u64 0,.int .i64 2,.int .i64 f.stage,.int .i64 5,.int .i64 2,.int .u64 0,.int .i64 3,.int .i64 f.level,.int .i64 7,.int .i64 1,.int .u64 0,.int .i64 1,.int .i64 (bif f.walk then 1 else 0),.int .i64 8,.int .i64 12,.int .u64 0,.int .i64 4095,.int .i64 f.page],228⟩::[]) (c:=[.int .i64 7,.int .i64 1,.int .u64 (bif f.walk then 1 else 0)]) hA (fun v' ha' hA'=>?_) aA1 (bT (m:=3) mh rfl) (hperm:=by (exact au))
   refine run ?_
   exact bH (4,v',ha') ⟨by omega,hA'⟩ (h2:=by (exact ak))
  ·refine az ?_
   intro P
   refine aj _ rfl (fun hc=>absurd hc aw0) (fun _=>?_)
   refine run ?_
   intro X
   refine jD (hp':=⟨X,#[.int .i64 8,.int .i64 12,.int .u64 f.page],149⟩::⟨P,#[.int .i64 8,.int .i64 12,.int .u64 f.page,.int .i64 4095,.int .i64 f.page],228⟩::⟨T,#[.int .i64 0,.int .i64 3,.int .u64 0,.int .i64 4,.int .i64 f.kind,.int .i64 3,.int .i64 2,.int .u64 0,.int .i64 2,.int .i64 f.stage,.int .i64 5,.int .i64 2,.int .u64 0,.int .i64 3,.int .i64 f.level,.int .i64 7,.int .i64 1,.int .u64 0,.int .i64 1,.int .i64 (bif f.walk then 1 else 0),.int .i64 8,.int .i64 12,.int .u64 0,.int .i64 4095,.int .i64 f.page],228⟩::[]) (c:=[.int .i64 8,.int .i64 12,.int .u64 f.page]) hA (fun v' ha' hA'=>?_) aA1 (bT (m:=3) mh rfl) (hperm:=by (exact au))
   refine run ?_
   exact bH (5,v',ha') ⟨by omega,hA'⟩ (h2:=by (exact ak))
 ·have:k=5:=by simp at hc;omega
  subst this
  refine run ?_
  rw [List.take_of_length_le aA1,nD.Zr h] at hA
  refine ax (fun wc hG=>zS f.fds (nD.ER h) (hA.ac9 hG (fun b hb=>List.mem_append_left _ hb) (by simp [nD.fds]))) ?_
  refine run ?_
  exact fin2 ⟨_,rfl⟩
end
abbrev He (w w':World):Prop:=∃ hp,Good w [] hp w'
section
attribute [local irreducible] Hy St Ops DH gB
theorem Hf {w:World} {F:Nat} {us:List Value} (p:Int→Bool) (xs:List (Int)) (v:Value) (h:aB w v 1 (xs.map dH)) (hF:∀ x,x∈xs→∀ w',He w w'→Fn Tryz.prog F ([]++[Value.int .i64 x]++us).toArray w' [] (fun u _=>u=.bool (p x))) (dY:mem mY F=true:=by rfl):
  Fn Tryz.prog 192 [v,.func (.func F) [].toArray us.toArray].toArray w [] (fun u _=>u=.int .i64 (fM p xs)):=by
 obtain ⟨q,cap,rfl,hne,hle⟩:=h.opened
 refine enter Tryz.func192 ?_
 refine run ?_
 refine cO (σ:=Nat) (fun k=>[(8,.int .i64 (k:Int))]) (fun _=>[]) (fun k=>k≤xs.length∧∀ j,j<k→p (xs.getD j default)=false) (fun k=>xs.length - k) 0 ⟨Nat.zero_le _,fun j hj=>absurd hj au'⟩ ?_
 rintro k m rfl ⟨hk,hno⟩
 refine run ?_
 refine aj _ rfl (fun hc=>?_) (fun hc=>?_)
 ·have hlt:k<xs.length:=by simpa using hc
  obtain ⟨b,o,rfl⟩:=hne av5
  have hr:=cZ (h.row hlt)
  simp only [Nat.mul_one] at hr
  refine run ?_
  refine oP (fun wc hG=>hF (xs.getD k default) (getD_mem hlt) wc ⟨_,hG⟩) (dY:=dY) ?_
  refine run ?_
  refine aj _ rfl (fun hp=>?_) (fun hp=>?_)
  ·refine run ?_
   refine fin1 ?_
   rw [iM hlt hp hno]
  ·refine run ?_
   refine bH (k + 1) ⟨hlt,fun j hj=>?_⟩
   rcases Nat.lt_succ_iff_lt_or_eq.1 hj with hj | rfl
   ·exact hno j hj
   ·exact hp
 ·have hge:k=xs.length:=by simp at hc;omega
  subst hge
  refine run ?_
  refine fin1 ?_
  rw [fO hno]
theorem JA {w:World} {F:Nat} {us:List Value} (p:dB→Bool) (xs:List (dB)) (v:Value) (h:aB w v 4 (xs.map dJ)) (hF:∀ x,x∈xs→∀ w',He w w'→Fn Tryz.prog F ([]++[Value.agg (dJ x).toArray]++us).toArray w' [] (fun u _=>u=.bool (p x))) (dY:mem mY F=true:=by rfl):
  Fn Tryz.prog 134 [v,.func (.func F) [].toArray us.toArray].toArray w [] (fun u _=>u=.int .i64 (fM p xs)):=by
 obtain ⟨q,cap,rfl,hne,hle⟩:=h.opened
 refine enter Tryz.func134 ?_
 refine run ?_
 refine cO (σ:=Nat) (fun k=>[(8,.int .i64 (k:Int))]) (fun _=>[]) (fun k=>k≤xs.length∧∀ j,j<k→p (xs.getD j default)=false) (fun k=>xs.length - k) 0 ⟨Nat.zero_le _,fun j hj=>absurd hj au'⟩ ?_
 rintro k m rfl ⟨hk,hno⟩
 refine run ?_
 refine aj _ rfl (fun hc=>?_) (fun hc=>?_)
 ·have hlt:k<xs.length:=by simpa using hc
  obtain ⟨b,o,rfl⟩:=hne av5
  have hr:=h.row hlt
  refine run ?_
  refine oP (fun wc hG=>hF (xs.getD k default) (getD_mem hlt) wc ⟨_,hG⟩) (dY:=dY) ?_
  refine run ?_
  refine aj _ rfl (fun hp=>?_) (fun hp=>?_)
  ·refine run ?_
   refine fin1 ?_
   rw [iM hlt hp hno]
  ·refine run ?_
   refine bH (k + 1) ⟨hlt,fun j hj=>?_⟩
   rcases Nat.lt_succ_iff_lt_or_eq.1 hj with hj | rfl
   ·exact hno j hj
   ·exact hp
 ·have hge:k=xs.length:=by simp at hc;omega
  subst hge
  refine run ?_
  refine fin1 ?_
  rw [fO hno]
theorem Bg {w:World} {F:Nat} {us:List Value} (p:bg→Bool) (xs:List (bg)) (v:Value) (h:aB w v 14 (xs.map bI)) (hF:∀ x,x∈xs→∀ w',He w w'→Fn Tryz.prog F ([]++[Value.agg (bI x).toArray]++us).toArray w' [] (fun u _=>u=.bool (p x))) (dY:mem mY F=true:=by rfl):
  Fn Tryz.prog 104 [v,.func (.func F) [].toArray us.toArray].toArray w [] (fun u _=>u=.int .i64 (fM p xs)):=by
 obtain ⟨q,cap,rfl,hne,hle⟩:=h.opened
 refine enter Tryz.func104 ?_
 refine run ?_
 refine cO (σ:=Nat) (fun k=>[(8,.int .i64 (k:Int))]) (fun _=>[]) (fun k=>k≤xs.length∧∀ j,j<k→p (xs.getD j default)=false) (fun k=>xs.length - k) 0 ⟨Nat.zero_le _,fun j hj=>absurd hj au'⟩ ?_
 rintro k m rfl ⟨hk,hno⟩
 refine run ?_
 refine aj _ rfl (fun hc=>?_) (fun hc=>?_)
 ·have hlt:k<xs.length:=by simpa using hc
  obtain ⟨b,o,rfl⟩:=hne av5
  have hr:=h.row hlt
  refine run ?_
  refine oP (fun wc hG=>hF (xs.getD k default) (getD_mem hlt) wc ⟨_,hG⟩) (dY:=dY) ?_
  refine run ?_
  refine aj _ rfl (fun hp=>?_) (fun hp=>?_)
  ·refine run ?_
   refine fin1 ?_
   rw [iM hlt hp hno]
  ·refine run ?_
   refine bH (k + 1) ⟨hlt,fun j hj=>?_⟩
   rcases Nat.lt_succ_iff_lt_or_eq.1 hj with hj | rfl
   ·exact hno j hj
   ·exact hp
 ·have hge:k=xs.length:=by simp at hc;omega
  subst hge
  refine run ?_
  refine fin1 ?_
  rw [fO hno]
theorem uN {w:World} {F:Nat} {us:List Value} (p:Int→Bool) (xs:List (Int)) (v:Value) (h:aB w v 1 (xs.map dH)) (hF:∀ x,x∈xs→∀ w',He w w'→Fn Tryz.prog F ([]++[Value.int .i64 x]++us).toArray w' [] (fun u _=>u=.bool (p x))) (dY:mem mY F=true:=by rfl):
  Fn Tryz.prog 159 [v,.func (.func F) [].toArray us.toArray].toArray w [] (fun u _=>u=.bool (xs.any p)):=by
 refine enter Tryz.func159 ?_
 refine run ?_
 refine ax (fun wc hG=>Hf p xs v (h.good hG) (fun x hx w' ha=>hF x hx w' ?_) dY) ?_
 ·obtain ⟨hp,hg⟩:=ha
  exact ⟨_,hG.trans hg⟩
 refine run ?_
 refine fin1 ?_
 rw [← xG]
theorem qj {w:World} {F:Nat} {us:List Value} (p:dB→Bool) (xs:List (dB)) (v:Value) (h:aB w v 4 (xs.map dJ)) (hF:∀ x,x∈xs→∀ w',He w w'→Fn Tryz.prog F ([]++[Value.agg (dJ x).toArray]++us).toArray w' [] (fun u _=>u=.bool (p x))) (dY:mem mY F=true:=by rfl):
  Fn Tryz.prog 101 [v,.func (.func F) [].toArray us.toArray].toArray w [] (fun u _=>u=.bool (xs.any p)):=by
 refine enter Tryz.func101 ?_
 refine run ?_
 refine ax (fun wc hG=>JA p xs v (h.good hG) (fun x hx w' ha=>hF x hx w' ?_) dY) ?_
 ·obtain ⟨hp,hg⟩:=ha
  exact ⟨_,hG.trans hg⟩
 refine run ?_
 refine fin1 ?_
 rw [← xG]
theorem uO {w:World} (v:Value) (xs:List (List Value)) (h:aB w v 14 xs) (hall:∀ c∈xs,c.length=14∧c.all (·.oneCell')=true) (hl:xs.length<1000000):Fn Tryz.prog 66 [v].toArray w [] (fun u hn=>Own 114 14 u hn xs):=by
 obtain ⟨⟨q,cap,rfl,hne⟩,_⟩:=h
 refine enter Tryz.func66 ?_
 refine run ?_
 refine eH av2 (Jd ay rfl rfl) ?_
 refine run ?_
 refine aj _ rfl (fun hp=>?_) (fun hp=>?_)
 ·obtain rfl:xs=[]:=by
   rcases Classical.em (xs=[]) with h | h
   ·exact h
   ·obtain ⟨b,o,rfl,_⟩:=hne h;cases hp
  refine run ?_
  refine fin1 ?_
  exact ⟨by simp,.inl ⟨rfl,rfl,rfl⟩⟩
 refine run ?_
 refine yN ay av2 av2 (fun g=>?_)
 refine run ?_
 rcases Classical.em (xs=[]) with rfl | hx
 ·cases q with
  | none=>cases hp
  | some q=>
  refine eH av2 (yM ay (jG:=0) rfl rfl rfl (Nat.le_refl _)) ?_
  refine run ?_
  refine fin1 ?_
  exact ⟨by simp,.inr ⟨g,0,#[],rfl,rfl,⟨rfl,Nat.le_refl _,by decide,rfl,rfl⟩⟩⟩
 ·obtain ⟨b,o,rfl,hr⟩:=hne hx
  refine uo ay av2 rfl ⟨rfl,Nat.le_refl _,by decide,rfl,rfl⟩ rfl rfl rfl rfl rfl rfl (.refl _) rfl hall hr av4 hl (fun v' ha' hA=>?_)
  refine run ?_
  refine fin1 ?_
  rw [List.append_nil]
  exact hA
theorem vT {w:World} (v:Value) (xs:List (List Value)) (h:aB w v 4 xs) (hall:∀ c∈xs,c.length=4∧c.all (·.oneCell')=true) (hl:xs.length<1000000):Fn Tryz.prog 67 [v].toArray w [] (fun u hn=>Own 121 4 u hn xs):=by
 obtain ⟨⟨q,cap,rfl,hne⟩,_⟩:=h
 refine enter Tryz.func67 ?_
 refine run ?_
 refine eH av2 (Jd ay rfl rfl) ?_
 refine run ?_
 refine aj _ rfl (fun hp=>?_) (fun hp=>?_)
 ·obtain rfl:xs=[]:=by
   rcases Classical.em (xs=[]) with h | h
   ·exact h
   ·obtain ⟨b,o,rfl,_⟩:=hne h;cases hp
  refine run ?_
  refine fin1 ?_
  exact ⟨by simp,.inl ⟨rfl,rfl,rfl⟩⟩
 refine run ?_
 refine yN ay av2 av2 (fun g=>?_)
 refine run ?_
 rcases Classical.em (xs=[]) with rfl | hx
 ·cases q with
  | none=>cases hp
  | some q=>
  refine eH av2 (yM ay (jG:=0) rfl rfl rfl (Nat.le_refl _)) ?_
  refine run ?_
  refine fin1 ?_
  exact ⟨by simp,.inr ⟨g,0,#[],rfl,rfl,⟨rfl,Nat.le_refl _,by decide,rfl,rfl⟩⟩⟩
 ·obtain ⟨b,o,rfl,hr⟩:=hne hx
  refine uo ay av2 rfl ⟨rfl,Nat.le_refl _,by decide,rfl,rfl⟩ rfl rfl rfl rfl rfl rfl (.refl _) rfl hall hr av4 hl (fun v' ha' hA=>?_)
  refine run ?_
  refine fin1 ?_
  rw [List.append_nil]
  exact hA
theorem Nr {w:World} (a:bg) (xs:List bg) (v:Value) (h:aB w v 14 (xs.map bI)):
  Fn Tryz.prog 133 [v,.agg (bI a).toArray].toArray w [] (fun u _=>u=.int .i64 (fM (fun t=>decide (t=a)) xs)):=by
 obtain ⟨q,cap,rfl,hne,hle⟩:=h.opened
 refine enter Tryz.func133 ?_
 refine run ?_
 intro B
 refine run ?_
 refine cO (σ:=Nat) (fun k=>[(8,.int .i64 (k:Int))]) (fun _=>[⟨B,(bI a).toArray,114⟩]) (fun k=>k≤xs.length∧∀ j,j<k→decide (xs.getD j default=a)=false) (fun k=>xs.length - k) 0 ⟨Nat.zero_le _,fun j hj=>absurd hj au'⟩ ?_
 rintro k m rfl ⟨hk,hno⟩
 refine run ?_
 refine aj _ rfl (fun hc=>?_) (fun hc=>?_)
 ·have hlt:k<xs.length:=by simpa using hc
  obtain ⟨b,o,rfl⟩:=hne av5
  have hr:=h.row hlt
  refine run ?_
  refine eU ?_
  refine cu ?_
  refine run ?_
  have hq:∀ x:bg,bF (bI a) (bI x)=decide (x=a):=fun x=>by rw [TZ,Bool.eq_iff_iff,decide_eq_true_eq,decide_eq_true_eq];exact eq_comm
  try rw [hq]
  try rw [TZ]
  refine aj _ rfl (fun hp=>?_) (fun hp=>?_)
  ·refine run ?_
   refine fin1 ?_
   rw [iM hlt hp hno]
  ·refine run ?_
   refine bH (k + 1) ⟨hlt,fun j hj=>?_⟩
   rcases Nat.lt_succ_iff_lt_or_eq.1 hj with hj | rfl
   ·exact hno j hj
   ·exact hp
 ·have hge:k=xs.length:=by simp at hc;omega
  subst hge
  refine run ?_
  refine fin1 ?_
  rw [fO hno]
theorem yc {w:World} (a:bg) (xs:List bg) (v:Value) (h:aB w v 14 (xs.map bI)):
  Fn Tryz.prog 100 [v,.agg (bI a).toArray].toArray w [] (fun u _=>u=.bool (xs.any fun t=>decide (t=a))):=by
 refine enter Tryz.func100 ?_
 refine run ?_
 intro B
 refine run ?_
 refine ax (fun wc hG=>Nr a xs v (h.good hG)) ?_
 refine run ?_
 refine fin1 ?_
 rw [← xG]
end
end Go.Proofs.YtndklbjnofdgeaaGreat
