/- Texts of one's own, merged: the engine, what the functions do, plain laws. -/
import Derived.Test.YtndklbjnofdgeaaGreatPx4
namespace Go.Proofs.YtndklbjnofdgeaaGreat
open Go.RowKit
set_option linter.unusedVariables false
set_option linter.unusedSimpArgs false
set_option maxRecDepth 20000
section
attribute [local irreducible] Hy St Ops DH gq iK iD fQ DS fB kz
def Nq (c:kU) (X:Yd) (M:Nat) (d:DsD):zo:=bif !decide (X.f.kind=0) then ⟨X.s,0,X.f⟩ else ⟨⟨bif c.pk.fill then fF X.s.es (yP c X.n M d X.a) else X.s.es,X.s.rd⟩,X.n,jO⟩
def Jt (c:kU) (s:qh):zo:=bif !decide ((gU c s).f.kind=0) then ⟨(gU c s).s,0,(gU c s).f⟩ else rO c (4 - oV c s) (oV c s) (gU c s).n (gU c s).s
theorem Nr {c:kU} (hk:kV c) {ds:List dh} {s:qh} (hE:gK c.ws.length s.es ds):EL c.ws.length ds 4 s (gU c s).s∧((gU c s).f.kind=0→oV c s<4∧dM c.ws.length (gU c s).n=true):=by
 unfold gU oV
 cases hc:(c.pk.use && decide (0≤fC c s.es)) with
 | true=>
  rw [Bool.and_eq_true] at hc
  obtain ⟨h1,h2,h3,h4⟩:=xX hE (of_decide_eq_true hc.2)
  simp only [cond_true]
  exact ⟨⟨hE,by simp⟩,fun _=>⟨by omega,h4⟩⟩
 | false=>
  simp only [cond_false]
  have ho:=eu.iC hk.one
  obtain ⟨h1,h2⟩:=rU hk hE (mid:=c.one.frame.toNat) (level:=0) at7 at7
  exact ⟨h1,fun h0=>⟨by omega,h2 h0⟩⟩
theorem Ns (c:kU) (s:qh) (l:Nat) (d:DsD):vG c s l d=Nq c (bif !decide ((gJ d.r d.w d.x d.af c.acc 1 l c.page).kind=0) then ⟨s,0,Ez,gJ d.r d.w d.x d.af c.acc 1 l c.page⟩ else dQ c s (iE c l d) c.acc) (iE c l d) d:=by
 unfold vG Nq
 cases hc:(!decide ((gJ d.r d.w d.x d.af c.acc 1 l c.page).kind=0)) with
 | true=>simp only [cond_true];rw [hc];rfl
 | false=>rfl
theorem QO {c:kU} (hk:kV c) {ds:List dh} {s:qh} (hE:gK c.ws.length s.es ds) {l:Nat} {d:DsD} (hM:iE c l d≤4095) {X:Yd} (hX:X=(bif !decide ((gJ d.r d.w d.x d.af c.acc 1 l c.page).kind=0) then ⟨s,0,Ez,gJ d.r d.w d.x d.af c.acc 1 l c.page⟩ else dQ c s (iE c l d) c.acc)):gK c.ws.length X.s.es ds∧X.s.rd.length≤s.rd.length + 4∧(X.f.kind=0→dM c.ws.length X.n=true∧X.f=jO):=by
 cases hc:(!decide ((gJ d.r d.w d.x d.af c.acc 1 l c.page).kind=0)) with
 | true=>
  rw [hc] at hX
  subst hX
  exact ⟨hE,by simp,fun h0=>by simp at hc;exact absurd h0 hc⟩
 | false=>
  rw [hc] at hX
  subst hX
  obtain ⟨h1,h2⟩:=pI hk hE hM c.acc
  exact ⟨h1.es,h1.rd,fun h0=>⟨(h2 h0).1,(h2 h0).2.1⟩⟩
structure XH where
 fr:Int
 lv:Int
 f:mW
 s:qh
 ev:Value
 dv:Value
 rv:Value
 he:Hp
 hd:Hp
 hr:Hp
structure af8 (c:kU) (ds:List dh) (R:zo) (z:XH):Prop where
 es:gK c.ws.length z.s.es ds
 rd:z.s.rd.length<40000
 on:z.f.kind=0→∃ L:Nat,z.lv=L∧L<4∧dM c.ws.length z.fr=true∧z.s.rd.length + 6 * (4 - L)≤2000∧rO c (4 - L) L z.fr z.s=R
 off:z.f.kind ≠ 0→(⟨z.s,0,z.f⟩:zo)=R
 h1:Own 114 14 z.ev z.he (z.s.es.map bG)
 h2:Own 121 4 z.dv z.hd (ds.map dG)
 h3:Own 3 1 z.rv z.hr (z.s.rd.map dN)
theorem Nu (c:kU) (hk:kV c) (cap:Nat) (hcc:c.ws.length≤cap) {p:Option Addr} {w:World} {Wb:Nat} {ev dv rv:Value} {he hd hr:Hp} (s:qh) (ds:List dh) (hE:gK c.ws.length s.es ds)  (ha:PtD.bV c.acc 0 2=true) (hrl:s.rd.length<1000)
  (hm:dK w (Wb::(he++hd++hr).map (·.b)) (.slice p c.ws.length cap) 1 (c.ws.map uV)) (h1:Own 114 14 ev he (s.es.map bG)) (h2:Own 121 4 dv hd (ds.map dG)) (h3:Own 3 1 rv hr (s.rd.map dN)) (hN:eF (⟨Wb,vw c (.slice p c.ws.length cap) ev dv rv,194⟩::(he++hd++hr)) w):
  Fn Tryz.prog 167 [.pointer (some ⟨Wb,0,none⟩)].toArray w (Wb::(he++hd++hr).map (·.b)) (fun u hn=>∃ (H:kT) (X:Yd) (M:Nat) (d:DsD) (ev' rQ rv':Value) (he' hd' hr':Hp),Nq c X M d=Jt c s∧gK c.ws.length X.s.es ds∧X.s.rd.length<50000∧u=.tuple #[RG H,xQ X.f]∧H.frame=X.n∧(X.f.kind=0→M≤4095∧dM c.ws.length X.n=true∧X.f=jO∧H.mid=(M:Int)∧H.soft=0∧(⟨H.r,H.w,H.x,H.af,H.ng⟩:AtD)=lU ⟨d.r,d.w,d.x,d.af,d.ng⟩ X.a)∧Own 114 14 ev' he' (X.s.es.map bG)∧Own 121 4 rQ hd' (ds.map dG)∧Own 3 1 rv' hr' (X.s.rd.map dN)∧aC (⟨Wb,vw c (.slice p c.ws.length cap) ev' rQ rv',194⟩::(he'++hd'++hr')) hn):=by
 simp only [vw] at hN ⊢
 have BF:=bC hk.mem
 have hem:=hE.may
 refine dY _ hN Tryz.func167 ?_
 refine run ?_
 intro R1 R2
 refine dH (⟨Wb,#[.slice p c.ws.length cap,ev,dv,.int .i64 c.pk.cpu,.bool c.pk.fill,.bool c.pk.aN,.bool c.pk.walk,.int .i64 c.pk.drop,.bool c.pk.use,.bool c.one.on,.int .i64 c.one.frame,.int .i64 c.one.tag,.bool c.two.on,.int .i64 c.two.frame,.int .i64 c.two.tag,.int .i64 (c.page:Int),.int .i64 c.acc,rv],194⟩::(he++hd++hr)) (⟨R2,#[.int .i64 0,.int .i64 0,.int .i64 0,.bool false,.int .i64 0],43⟩::⟨R1,#[.int .i64 0,.int .i64 0,.bool false,.bool false,.bool false,.bool false,.bool false,.int .i64 0,.int .i64 0],234⟩::[]) (fun wc hG=>Np c hk cap hcc s ds hE at7 (hm.into hG) h1 h2 h3 hG.dD) ?_ au
 rintro u1 hn1 ⟨lv,ev1,oU,pJ,he1,hd1,hr1,rfl,hlv,h11,h21,h31,hle1⟩
 simp only [vw] at hle1
 refine aI (⟨R2,#[.int .i64 0,.int .i64 0,.int .i64 0,.bool false,.int .i64 0],43⟩::⟨R1,#[.int .i64 0,.int .i64 0,.bool false,.bool false,.bool false,.bool false,.bool false,.int .i64 0,.int .i64 0],234⟩::⟨Wb,#[.slice p c.ws.length cap,ev1,oU,.int .i64 c.pk.cpu,.bool c.pk.fill,.bool c.pk.aN,.bool c.pk.walk,.int .i64 c.pk.drop,.bool c.pk.use,.bool c.one.on,.int .i64 c.one.frame,.int .i64 c.one.tag,.bool c.two.on,.int .i64 c.two.frame,.int .i64 c.two.tag,.int .i64 (c.page:Int),.int .i64 c.acc,pJ],194⟩::(he1++hd1++hr1)) (cnt1 hle1) ?_
 obtain ⟨hFs,hFl⟩:=Nr hk hE
 have hFr:=hFs.rd
 refine run ?_
 intro F
 have hm':=hm
 refine cu (σ:=XH) (fun z=>[(4,.int .i64 z.fr),(5,.int .i64 z.lv)]) (fun z=>⟨F,#[.int .i64 z.f.kind,.int .i64 z.f.stage,.int .i64 z.f.level,.bool z.f.walk,.int .i64 z.f.page],43⟩::⟨R2,#[.int .i64 0,.int .i64 0,.int .i64 0,.bool false,.int .i64 0],43⟩::⟨R1,#[.int .i64 0,.int .i64 0,.bool false,.bool false,.bool false,.bool false,.bool false,.int .i64 0,.int .i64 0],234⟩::⟨Wb,#[.slice p c.ws.length cap,z.ev,z.dv,.int .i64 c.pk.cpu,.bool c.pk.fill,.bool c.pk.aN,.bool c.pk.walk,.int .i64 c.pk.drop,.bool c.pk.use,.bool c.one.on,.int .i64 c.one.frame,.int .i64 c.one.tag,.bool c.two.on,.int .i64 c.two.frame,.int .i64 c.two.tag,.int .i64 (c.page:Int),.int .i64 c.acc,z.rv],194⟩::(z.he++z.hd++z.hr)) (af8 c ds (Jt c s)) (fun z=>bif decide (z.f.kind=0) then 6 - z.lv.toNat else 0) ⟨(gU c s).n,lv,(gU c s).f,(gU c s).s,ev1,oU,pJ,he1,hd1,hr1⟩ ⟨hFs.es,by dsimp only;omega,fun h0=>?_,fun h0=>?_,h11,h21,h31⟩ ?_
 ·obtain ⟨g1,g2⟩:=hFl h0
  exact ⟨oV c s,hlv h0,g1,g2,by dsimp only;omega,by dsimp only;rw [Jt,show decide ((gU c s).f.kind=0)=true from decide_eq_true h0];rfl⟩
 ·dsimp only at h0 ⊢
  rw [Jt,show decide ((gU c s).f.kind=0)=false from decide_eq_false h0];rfl
 rintro ⟨fr,lv,f,S,ev,dv,rv,he,hd,hr⟩ m hm ⟨yj,hrd,hon,hoff,h1,h2,h3⟩
 dsimp only at hm yj hrd hon hoff h1 h2 h3 ⊢
 refine run ?_
 refine aj _ rfl (fun hc=>?_) (fun hc=>?_)
 ·have hf0:f.kind=0:=by simpa using hc
  obtain ⟨L,rfl,hl,VO,Xy,hwk⟩:=hon hf0
  clear hon hoff
  generalize Jt c s=R at hwk ⊢
  refine run ?_
  intro T
  refine xy (c:=dN fr) (⟨T,#[.int .i64 fr],3⟩::⟨F,#[.int .i64 f.kind,.int .i64 f.stage,.int .i64 f.level,.bool f.walk,.int .i64 f.page],43⟩::⟨R2,#[.int .i64 0,.int .i64 0,.int .i64 0,.bool false,.int .i64 0],43⟩::⟨R1,#[.int .i64 0,.int .i64 0,.bool false,.bool false,.bool false,.bool false,.bool false,.int .i64 0,.int .i64 0],234⟩::⟨Wb,#[.slice p c.ws.length cap,ev,dv,.int .i64 c.pk.cpu,.bool c.pk.fill,.bool c.pk.aN,.bool c.pk.walk,.int .i64 c.pk.drop,.bool c.pk.use,.bool c.one.on,.int .i64 c.one.frame,.int .i64 c.one.tag,.bool c.two.on,.int .i64 c.two.frame,.int .i64 c.two.tag,.int .i64 (c.page:Int),.int .i64 c.acc,rv],194⟩::(he++hd)) h3 (fun v' ha' hA'=>?_) au' (bP (m:=1) mh rfl) (hperm:=by (exact au))
  rw [show S.rd.map dN++[dN fr]=(S.rd++[fr]).map dN by simp] at hA'
  obtain ⟨q4,c4,e4⟩:=hA'.opened
  rw [List.length_map] at e4
  subst e4
  refine aI (⟨F,#[.int .i64 f.kind,.int .i64 f.stage,.int .i64 f.level,.bool f.walk,.int .i64 f.page],43⟩::⟨R2,#[.int .i64 0,.int .i64 0,.int .i64 0,.bool false,.int .i64 0],43⟩::⟨R1,#[.int .i64 0,.int .i64 0,.bool false,.bool false,.bool false,.bool false,.bool false,.int .i64 0,.int .i64 0],234⟩::⟨Wb,#[.slice p c.ws.length cap,ev,dv,.int .i64 c.pk.cpu,.bool c.pk.fill,.bool c.pk.aN,.bool c.pk.walk,.int .i64 c.pk.drop,.bool c.pk.use,.bool c.one.on,.int .i64 c.one.frame,.int .i64 c.one.tag,.bool c.two.on,.int .i64 c.two.frame,.int .i64 c.two.tag,.int .i64 (c.page:Int),.int .i64 c.acc,rv],194⟩::(he++hd++ha')) ak ?_
  refine run ?_
  have hT:=fun {wc:World} (h:aB wc (.slice p c.ws.length cap) 1 (c.ws.map uV))=>G6 c.ws hk.uX cap hk.mem hcc h 1 (.inl rfl) L hl fr VO c.page hk.page
  have hmay:=rG c.ws 1 (rZ fr L c.page) L
  rw [show 4 - L=(3 - L) + 1 by omega,rO] at hwk
  generalize BI c.ws 1 (rZ fr L c.page) L=d at hwk hmay hT
  obtain ⟨hkk,hk0,hk1,hk2⟩:=jQ hmay
  refine oN 16 15 [0,1,2,3,4,5,6,7,8,9,10,11,12,13] [14] [15] (⟨F,#[.int .i64 f.kind,.int .i64 f.stage,.int .i64 f.level,.bool f.walk,.int .i64 f.page],43⟩::⟨R2,#[.int .i64 0,.int .i64 0,.int .i64 0,.bool false,.int .i64 0],43⟩::⟨R1,#[.int .i64 0,.int .i64 0,.bool false,.bool false,.bool false,.bool false,.bool false,.int .i64 0,.int .i64 0],234⟩::⟨Wb,#[.slice p c.ws.length cap,ev,dv,.int .i64 c.pk.cpu,.bool c.pk.fill,.bool c.pk.aN,.bool c.pk.walk,.int .i64 c.pk.drop,.bool c.pk.use,.bool c.one.on,.int .i64 c.one.frame,.int .i64 c.one.tag,.bool c.two.on,.int .i64 c.two.frame,.int .i64 c.two.tag,.int .i64 (c.page:Int),.int .i64 c.acc,.slice q4 (S.rd++[fr]).length c4],194⟩::(he++hd++ha')) ?_
  refine bY ?_
  refine kS (fun wc hx hG=>hT (hm'.good hG)) ?_
  refine bY ?_
  refine dL ?_
  refine gW ?_
  rintro _ _ ⟨D,rfl,rfl⟩
  simp only [DN,List.cons_append,List.nil_append,List.append_nil]
  refine aU (b:=D) (tb:=258) (cs:=#[.int .i64 0,.int .i64 0,.bool false,.bool false,.bool false,.bool false,.bool false,.int .i64 0,.int .i64 0]) (cs':=#[.int .i64 d.kind,.int .i64 d.frame,.bool d.r,.bool d.w,.bool d.x,.bool d.af,.bool d.ng,.int .i64 d.soft,.int .i64 d.note]) (hp':=⟨F,#[.int .i64 f.kind,.int .i64 f.stage,.int .i64 f.level,.bool f.walk,.int .i64 f.page],43⟩::⟨R2,#[.int .i64 0,.int .i64 0,.int .i64 0,.bool false,.int .i64 0],43⟩::⟨R1,#[.int .i64 0,.int .i64 0,.bool false,.bool false,.bool false,.bool false,.bool false,.int .i64 0,.int .i64 0],234⟩::⟨Wb,#[.slice p c.ws.length cap,ev,dv,.int .i64 c.pk.cpu,.bool c.pk.fill,.bool c.pk.aN,.bool c.pk.walk,.int .i64 c.pk.drop,.bool c.pk.use,.bool c.one.on,.int .i64 c.one.frame,.int .i64 c.one.tag,.bool c.two.on,.int .i64 c.two.frame,.int .i64 c.two.tag,.int .i64 (c.page:Int),.int .i64 c.acc,.slice q4 (S.rd++[fr]).length c4],194⟩::(he++hd++ha')) ?_ au
  refine aG ?_
  refine cO ?_
  refine run ?_
  refine aj _ rfl (fun hc2=>?_) (fun hc2=>?_)
  ·have Na:d.kind=2:=by simpa using hc2
   obtain ⟨hlf,O4⟩:=qF hmay Na hl c.page
   simp only [Na,show decide ((2:Int)=1)=false from rfl,show decide ((2:Int)=0)=false from rfl,cond_false] at hwk
   refine run ?_
   refine dH (⟨Wb,#[.slice p c.ws.length cap,ev,dv,.int .i64 c.pk.cpu,.bool c.pk.fill,.bool c.pk.aN,.bool c.pk.walk,.int .i64 c.pk.drop,.bool c.pk.use,.bool c.one.on,.int .i64 c.one.frame,.int .i64 c.one.tag,.bool c.two.on,.int .i64 c.two.frame,.int .i64 c.two.tag,.int .i64 (c.page:Int),.int .i64 c.acc,.slice q4 (S.rd++[fr]).length c4],194⟩::(he++hd++ha')) (⟨D,#[.int .i64 d.kind,.int .i64 d.frame,.bool d.r,.bool d.w,.bool d.x,.bool d.af,.bool d.ng,.int .i64 d.soft,.int .i64 d.note],258⟩::⟨F,#[.int .i64 f.kind,.int .i64 f.stage,.int .i64 f.level,.bool f.walk,.int .i64 f.page],43⟩::⟨R2,#[.int .i64 0,.int .i64 0,.int .i64 0,.bool false,.int .i64 0],43⟩::⟨R1,#[.int .i64 0,.int .i64 0,.bool false,.bool false,.bool false,.bool false,.bool false,.int .i64 0,.int .i64 0],234⟩::[]) (fun wc hG=>QN c hk cap hcc ⟨S.es,S.rd++[fr]⟩ ds yj ha L hl d hmay Na aw4 (hm'.into hG) h1 h2 hA' hG.dD) ?_ au
   rintro u1 hn1 ⟨H,X,wG,yR,EO,he2,hd2,hr2,hX,rfl,hH1,hH2,h12,h22,h32,hle2⟩
   simp only [vw] at hle2
   rw [Ns,← hX] at hwk
   obtain ⟨hX1,hX2,hX3⟩:=QO hk (s:=⟨S.es,S.rd++[fr]⟩) yj hlf hX
   simp only [List.length_append,List.length_singleton] at hX2
   refine aI (⟨R2,#[.int .i64 0,.int .i64 0,.int .i64 0,.bool false,.int .i64 0],43⟩::⟨R1,#[.int .i64 0,.int .i64 0,.bool false,.bool false,.bool false,.bool false,.bool false,.int .i64 0,.int .i64 0],234⟩::⟨Wb,#[.slice p c.ws.length cap,wG,yR,.int .i64 c.pk.cpu,.bool c.pk.fill,.bool c.pk.aN,.bool c.pk.walk,.int .i64 c.pk.drop,.bool c.pk.use,.bool c.one.on,.int .i64 c.one.frame,.int .i64 c.one.tag,.bool c.two.on,.int .i64 c.two.frame,.int .i64 c.two.tag,.int .i64 (c.page:Int),.int .i64 c.acc,EO],194⟩::(he2++hd2++hr2)) (cnt1 hle2) ?_
   refine run ?_
   exact nI (cs:=#[.int .i64 H.frame,.int .i64 H.mid,.bool H.r,.bool H.w,.bool H.x,.bool H.af,.bool H.ng,.int .i64 H.soft,.int .i64 H.level]) (cs2:=#[.int .i64 X.f.kind,.int .i64 X.f.stage,.int .i64 X.f.level,.bool X.f.walk,.int .i64 X.f.page]) ⟨H,X,iE c L d,d,wG,yR,EO,he2,hd2,hr2,hwk,hX1,by omega,rfl,hH1,fun h0=>⟨hlf,(hX3 h0).1,(hX3 h0).2,hH2 h0⟩,h12,h22,h32,by (exact ak)⟩
  refine run ?_
  refine aj _ rfl (fun hc3=>?_) (fun hc3=>?_)
  ·have af9:d.kind=0:=by simpa using hc3
   simp only [af9,show decide ((0:Int)=1)=false from rfl,show decide ((0:Int)=0)=true from rfl,cond_false,cond_true] at hwk
   refine run ?_
   refine dI 9 7 [0,1,2,3,4,5,6] [7,8] (⟨D,#[.int .i64 d.kind,.int .i64 d.frame,.bool d.r,.bool d.w,.bool d.x,.bool d.af,.bool d.ng,.int .i64 d.soft,.int .i64 d.note],258⟩::⟨F,#[.int .i64 f.kind,.int .i64 f.stage,.int .i64 f.level,.bool f.walk,.int .i64 f.page],43⟩::⟨Wb,#[.slice p c.ws.length cap,ev,dv,.int .i64 c.pk.cpu,.bool c.pk.fill,.bool c.pk.aN,.bool c.pk.walk,.int .i64 c.pk.drop,.bool c.pk.use,.bool c.one.on,.int .i64 c.one.frame,.int .i64 c.one.tag,.bool c.two.on,.int .i64 c.two.frame,.int .i64 c.two.tag,.int .i64 (c.page:Int),.int .i64 c.acc,.slice q4 (S.rd++[fr]).length c4],194⟩::(he++hd++ha')) ?_
   refine bY ?_
   refine aU (b:=R1) (tb:=234) (cs:=#[.int .i64 0,.int .i64 0,.bool false,.bool false,.bool false,.bool false,.bool false,.int .i64 0,.int .i64 0]) (cs':=#[.int .i64 0,.int .i64 0,.bool false,.bool false,.bool false,.bool false,.bool false,.int .i64 0,.int .i64 0]) (hp':=⟨D,#[.int .i64 d.kind,.int .i64 d.frame,.bool d.r,.bool d.w,.bool d.x,.bool d.af,.bool d.ng,.int .i64 d.soft,.int .i64 d.note],258⟩::⟨F,#[.int .i64 f.kind,.int .i64 f.stage,.int .i64 f.level,.bool f.walk,.int .i64 f.page],43⟩::⟨R2,#[.int .i64 0,.int .i64 0,.int .i64 0,.bool false,.int .i64 0],43⟩::⟨Wb,#[.slice p c.ws.length cap,ev,dv,.int .i64 c.pk.cpu,.bool c.pk.fill,.bool c.pk.aN,.bool c.pk.walk,.int .i64 c.pk.drop,.bool c.pk.use,.bool c.one.on,.int .i64 c.one.frame,.int .i64 c.one.tag,.bool c.two.on,.int .i64 c.two.frame,.int .i64 c.two.tag,.int .i64 (c.page:Int),.int .i64 c.acc,.slice q4 (S.rd++[fr]).length c4],194⟩::(he++hd++ha')) ?_ au
   refine aU (b:=R2) (tb:=43) (cs:=#[.int .i64 0,.int .i64 0,.int .i64 0,.bool false,.int .i64 0]) (cs':=#[.int .i64 2,.int .i64 1,.int .i64 (L:Int),.bool false,.int .i64 (c.page:Int)]) (hp':=⟨R1,#[.int .i64 0,.int .i64 0,.bool false,.bool false,.bool false,.bool false,.bool false,.int .i64 0,.int .i64 0],234⟩::⟨D,#[.int .i64 d.kind,.int .i64 d.frame,.bool d.r,.bool d.w,.bool d.x,.bool d.af,.bool d.ng,.int .i64 d.soft,.int .i64 d.note],258⟩::⟨F,#[.int .i64 f.kind,.int .i64 f.stage,.int .i64 f.level,.bool f.walk,.int .i64 f.page],43⟩::⟨Wb,#[.slice p c.ws.length cap,ev,dv,.int .i64 c.pk.cpu,.bool c.pk.fill,.bool c.pk.aN,.bool c.pk.walk,.int .i64 c.pk.drop,.bool c.pk.use,.bool c.one.on,.int .i64 c.one.frame,.int .i64 c.one.tag,.bool c.two.on,.int .i64 c.two.frame,.int .i64 c.two.tag,.int .i64 (c.page:Int),.int .i64 c.acc,.slice q4 (S.rd++[fr]).length c4],194⟩::(he++hd++ha')) ?_ au
   refine aG ?_
   refine cO ?_
   refine run ?_
   exact nI (cs:=#[.int .i64 0,.int .i64 0,.bool false,.bool false,.bool false,.bool false,.bool false,.int .i64 0,.int .i64 0]) (cs2:=#[.int .i64 2,.int .i64 1,.int .i64 (L:Int),.bool false,.int .i64 (c.page:Int)]) ⟨⟨0,0,false,false,false,false,false,0,0⟩,⟨⟨S.es,S.rd++[fr]⟩,0,Ez,⟨2,1,L,false,c.page⟩⟩,0,default,_,_,_,he,hd,ha',hwk,yj,by dsimp only;simp only [List.length_append,List.length_singleton];omega,rfl,rfl,fun h0=>by simp at h0,h1,h2,hA',by (exact ak)⟩
  have Us:d.kind=1:=by simp at hc2 hc3;omega
  obtain ⟨k1,k2,k3,k4⟩:=hk1 Us
  simp only [Us,show decide ((1:Int)=1)=true from rfl,cond_true] at hwk
  have hcl:=fun (wc:World) (hG:eF (⟨Wb,#[.slice p c.ws.length cap,ev,dv,.int .i64 c.pk.cpu,.bool c.pk.fill,.bool c.pk.aN,.bool c.pk.walk,.int .i64 c.pk.drop,.bool c.pk.use,.bool c.one.on,.int .i64 c.one.frame,.int .i64 c.one.tag,.bool c.two.on,.int .i64 c.two.frame,.int .i64 c.two.tag,.int .i64 (c.page:Int),.int .i64 c.acc,.slice q4 (S.rd++[fr]).length c4],194⟩::(he++hd++ha')) wc) (hm:dK wc (Wb::(he++hd++ha').map (·.b)) (.slice p c.ws.length cap) 1 (c.ws.map uV))=>Dj c hk cap hcc ⟨S.es,S.rd++[fr]⟩ ds d.frame.toNat (L + 1) at7 at7 yj aw4 hm h1 h2 hA' hG
  rw [show ((d.frame.toNat:Nat):Int)=d.frame by omega] at hcl
  refine run ?_
  refine dH (⟨Wb,#[.slice p c.ws.length cap,ev,dv,.int .i64 c.pk.cpu,.bool c.pk.fill,.bool c.pk.aN,.bool c.pk.walk,.int .i64 c.pk.drop,.bool c.pk.use,.bool c.one.on,.int .i64 c.one.frame,.int .i64 c.one.tag,.bool c.two.on,.int .i64 c.two.frame,.int .i64 c.two.tag,.int .i64 (c.page:Int),.int .i64 c.acc,.slice q4 (S.rd++[fr]).length c4],194⟩::(he++hd++ha')) (⟨D,#[.int .i64 d.kind,.int .i64 d.frame,.bool d.r,.bool d.w,.bool d.x,.bool d.af,.bool d.ng,.int .i64 d.soft,.int .i64 d.note],258⟩::⟨F,#[.int .i64 f.kind,.int .i64 f.stage,.int .i64 f.level,.bool f.walk,.int .i64 f.page],43⟩::⟨R2,#[.int .i64 0,.int .i64 0,.int .i64 0,.bool false,.int .i64 0],43⟩::⟨R1,#[.int .i64 0,.int .i64 0,.bool false,.bool false,.bool false,.bool false,.bool false,.int .i64 0,.int .i64 0],234⟩::[]) (fun wc hG=>hcl wc hG.dD (hm'.into hG)) ?_ au
  rintro u1 hn1 ⟨lv2,wG,yR,EO,he2,hd2,hr2,rfl,hlv2,h12,h22,h32,hle2⟩
  simp only [vw] at hle2
  obtain ⟨hYs,hYf⟩:=rU hk (s:=⟨S.es,S.rd++[fr]⟩) yj (mid:=d.frame.toNat) (level:=L + 1) at7 at7
  have hYr:=hYs.rd
  simp only [List.length_append,List.length_singleton] at hYr
  generalize jE c ⟨S.es,S.rd++[fr]⟩ d.frame.toNat (L + 1)=Y at hlv2 h12 h32 hYs hYf hYr hwk ⊢
  refine aI (⟨F,#[.int .i64 f.kind,.int .i64 f.stage,.int .i64 f.level,.bool f.walk,.int .i64 f.page],43⟩::⟨R2,#[.int .i64 0,.int .i64 0,.int .i64 0,.bool false,.int .i64 0],43⟩::⟨R1,#[.int .i64 0,.int .i64 0,.bool false,.bool false,.bool false,.bool false,.bool false,.int .i64 0,.int .i64 0],234⟩::⟨Wb,#[.slice p c.ws.length cap,wG,yR,.int .i64 c.pk.cpu,.bool c.pk.fill,.bool c.pk.aN,.bool c.pk.walk,.int .i64 c.pk.drop,.bool c.pk.use,.bool c.one.on,.int .i64 c.one.frame,.int .i64 c.one.tag,.bool c.two.on,.int .i64 c.two.frame,.int .i64 c.two.tag,.int .i64 (c.page:Int),.int .i64 c.acc,EO],194⟩::(he2++hd2++hr2)) (cnt1 hle2) ?_
  refine run ?_
  refine bI (⟨Y.n,lv2,Y.f,Y.s,wG,yR,EO,he2,hd2,hr2⟩:XH) ⟨hYs.es,by dsimp only;omega,fun h0=>?_,fun h0=>?_,h12,h22,h32⟩ (hm:=?_) (h2:=by (exact ak))
  ·dsimp only at h0 ⊢
   rw [show decide (Y.f.kind=0)=true from decide_eq_true h0] at hwk
   exact ⟨L + 1,hlv2 h0,by omega,hYf h0,by omega,by rw [show 4 - (L + 1)=3 - L by omega];exact hwk⟩
  ·dsimp only at h0 ⊢
   rw [show decide (Y.f.kind=0)=false from decide_eq_false h0] at hwk
   exact hwk
  ·dsimp only
   rw [show decide (f.kind=0)=true from decide_eq_true hf0,cond_true] at hm
   cases h0:decide (Y.f.kind=0) with
   | true=>rw [cond_true,hlv2 (of_decide_eq_true h0)];omega
   | false=>rw [cond_false];omega
 ·have hf0:f.kind ≠ 0:=by simpa using hc
  have hwk:=hoff hf0
  refine run ?_
  refine dI 4 2 [0,1] [2,3] (⟨F,#[.int .i64 f.kind,.int .i64 f.stage,.int .i64 f.level,.bool f.walk,.int .i64 f.page],43⟩::⟨Wb,#[.slice p c.ws.length cap,ev,dv,.int .i64 c.pk.cpu,.bool c.pk.fill,.bool c.pk.aN,.bool c.pk.walk,.int .i64 c.pk.drop,.bool c.pk.use,.bool c.one.on,.int .i64 c.one.frame,.int .i64 c.one.tag,.bool c.two.on,.int .i64 c.two.frame,.int .i64 c.two.tag,.int .i64 (c.page:Int),.int .i64 c.acc,rv],194⟩::(he++hd++hr)) ?_
  refine bY ?_
  refine aU (b:=R1) (tb:=234) (cs:=#[.int .i64 0,.int .i64 0,.bool false,.bool false,.bool false,.bool false,.bool false,.int .i64 0,.int .i64 0]) (cs':=#[.int .i64 0,.int .i64 0,.bool false,.bool false,.bool false,.bool false,.bool false,.int .i64 0,.int .i64 0]) (hp':=⟨F,#[.int .i64 f.kind,.int .i64 f.stage,.int .i64 f.level,.bool f.walk,.int .i64 f.page],43⟩::⟨R2,#[.int .i64 0,.int .i64 0,.int .i64 0,.bool false,.int .i64 0],43⟩::⟨Wb,#[.slice p c.ws.length cap,ev,dv,.int .i64 c.pk.cpu,.bool c.pk.fill,.bool c.pk.aN,.bool c.pk.walk,.int .i64 c.pk.drop,.bool c.pk.use,.bool c.one.on,.int .i64 c.one.frame,.int .i64 c.one.tag,.bool c.two.on,.int .i64 c.two.frame,.int .i64 c.two.tag,.int .i64 (c.page:Int),.int .i64 c.acc,rv],194⟩::(he++hd++hr)) ?_ au
  refine aU (b:=R2) (tb:=43) (cs:=#[.int .i64 0,.int .i64 0,.int .i64 0,.bool false,.int .i64 0]) (cs':=#[.int .i64 f.kind,.int .i64 f.stage,.int .i64 f.level,.bool f.walk,.int .i64 f.page]) (hp':=⟨R1,#[.int .i64 0,.int .i64 0,.bool false,.bool false,.bool false,.bool false,.bool false,.int .i64 0,.int .i64 0],234⟩::⟨F,#[.int .i64 f.kind,.int .i64 f.stage,.int .i64 f.level,.bool f.walk,.int .i64 f.page],43⟩::⟨Wb,#[.slice p c.ws.length cap,ev,dv,.int .i64 c.pk.cpu,.bool c.pk.fill,.bool c.pk.aN,.bool c.pk.walk,.int .i64 c.pk.drop,.bool c.pk.use,.bool c.one.on,.int .i64 c.one.frame,.int .i64 c.one.tag,.bool c.two.on,.int .i64 c.two.frame,.int .i64 c.two.tag,.int .i64 (c.page:Int),.int .i64 c.acc,rv],194⟩::(he++hd++hr)) ?_ au
  refine aG ?_
  refine cO ?_
  refine run ?_
  exact nI (cs:=#[.int .i64 0,.int .i64 0,.bool false,.bool false,.bool false,.bool false,.bool false,.int .i64 0,.int .i64 0]) (cs2:=#[.int .i64 f.kind,.int .i64 f.stage,.int .i64 f.level,.bool f.walk,.int .i64 f.page]) ⟨⟨0,0,false,false,false,false,false,0,0⟩,⟨S,0,Ez,f⟩,0,default,_,_,_,he,hd,hr,by rw [Nq,show decide (f.kind=0)=false from decide_eq_false hf0];exact hwk,yj,by dsimp only;omega,rfl,rfl,fun h0=>absurd h0 hf0,h1,h2,h3,by (exact ak)⟩
theorem Nv (c:kU) (es:List bf):lS c es=bif !c.one.on then ⟨(dQ c ⟨es,[]⟩ c.page c.acc).s,(dQ c ⟨es,[]⟩ c.page c.acc).n,(dQ c ⟨es,[]⟩ c.page c.acc).f⟩ else bif c.pk.use && decide (0≤iw c es) then ⟨⟨es,[]⟩,(es.getD (iw c es).toNat default).frame,jO⟩ else Jt c ⟨es,[]⟩:=by
 unfold lS vI Jt gU oV
 cases hc:(c.pk.use && decide (0≤fC c es)) with
 | true=>simp only [hc,cond_true,jO,decide_true,Bool.not_true,cond_false]
 | false=>
  simp only [hc,cond_false]
  rw [vH]
theorem Nw (c:kU) (hk:kV c) (cap:Nat) (hcc:c.ws.length≤cap) {p:Option Addr} {w:World} {Wb:Nat} {ev dv rv:Value} {he hd hr:Hp} (es:List bf) (ds:List dh) (hE:gK c.ws.length es ds) (ha:PtD.bV c.acc 0 2=true)
  (hm:dK w (Wb::(he++hd++hr).map (·.b)) (.slice p c.ws.length cap) 1 (c.ws.map uV)) (h1:Own 114 14 ev he ((⟨es,[]⟩:qh).es.map bG)) (h2:Own 121 4 dv hd (ds.map dG)) (h3:Own 3 1 rv hr ((⟨es,[]⟩:qh).rd.map dN)) (hN:eF (⟨Wb,vw c (.slice p c.ws.length cap) ev dv rv,194⟩::(he++hd++hr)) w):
  Fn Tryz.prog 138 [.pointer (some ⟨Wb,0,none⟩)].toArray w (Wb::(he++hd++hr).map (·.b)) (fun u hn=>∃ (ev' rQ rv':Value) (he' hd' hr':Hp),u=.tuple #[.int .i64 (lS c es).n,xQ (lS c es).f]∧Own 114 14 ev' he' ((lS c es).s.es.map bG)∧Own 121 4 rQ hd' (ds.map dG)∧Own 3 1 rv' hr' ((lS c es).s.rd.map dN)∧aC (⟨Wb,vw c (.slice p c.ws.length cap) ev' rQ rv',194⟩::(he'++hd'++hr')) hn):=by
 have hcap:=h1.cap
 obtain ⟨qe,ce,ee⟩:=h1.opened
 obtain ⟨qd,cd,ed⟩:=h2.opened
 obtain ⟨qr,cr,er⟩:=h3.opened
 rw [List.length_map] at ee ed er
 subst ee ed er
 simp only [vw] at hN ⊢
 have BF:=bC hk.mem
 have hem:=hE.may
 have ho:=eu.iC hk.one
 have htw:=eu.iC hk.two
 have hm':=hm
 rw [Nv]
 refine dY _ hN Tryz.func138 ?_
 refine run ?_
 intro R
 refine run ?_
 refine aj _ rfl (fun hc=>?_) (fun hc=>?_)
 ·rw [hc,cond_true]
  refine run ?_
  have hcall:=fun (wc:World) (hG:eF (⟨Wb,#[.slice p c.ws.length cap,.slice qe es.length ce,.slice qd ds.length cd,.int .i64 c.pk.cpu,.bool c.pk.fill,.bool c.pk.aN,.bool c.pk.walk,.int .i64 c.pk.drop,.bool c.pk.use,.bool c.one.on,.int .i64 c.one.frame,.int .i64 c.one.tag,.bool c.two.on,.int .i64 c.two.frame,.int .i64 c.two.tag,.int .i64 (c.page:Int),.int .i64 c.acc,.slice qr ([]:List Int).length cr],194⟩::(he++hd++hr)) wc) (hm:dK wc (Wb::(he++hd++hr).map (·.b)) (.slice p c.ws.length cap) 1 (c.ws.map uV))=>ET c hk cap hcc ⟨es,[]⟩ ds c.page hk.page c.acc ha hE au3 hm h1 h2 h3 hG
  refine P6 15 9 (⟨Wb,#[.slice p c.ws.length cap,.slice qe es.length ce,.slice qd ds.length cd,.int .i64 c.pk.cpu,.bool c.pk.fill,.bool c.pk.aN,.bool c.pk.walk,.int .i64 c.pk.drop,.bool c.pk.use,.bool c.one.on,.int .i64 c.one.frame,.int .i64 c.one.tag,.bool c.two.on,.int .i64 c.two.frame,.int .i64 c.two.tag,.int .i64 (c.page:Int),.int .i64 c.acc,.slice qr ([]:List Int).length cr],194⟩::(he++hd++hr)) (⟨R,#[.int .i64 0,.int .i64 0,.int .i64 0,.bool false,.int .i64 0],43⟩::[]) [0,1,2,3,4,5,6,7,8] [9,13,14] [10,11,12] [] [15,16] ?_
  refine eX ?_
  refine VH (fun wc hG=>hcall wc hG.dD (hm.into hG)) (hcall w hN hm).some ?_
  refine Ep ?_
  refine Ep ?_
  refine Y5 ?_
  rintro _ _ ⟨A2,rfl,rfl⟩ _ _ ⟨A1,rfl,rfl⟩ u1 hn1 ⟨H,ev1,oU,pJ,he1,hd1,hr1,rfl,⟨hH1,hH2⟩,h11,h21,h31,hle1⟩
  simp only [vw] at hle1
  generalize dQ c ⟨es,[]⟩ c.page c.acc=Y at hH1 hH2 h11 h31 ⊢
  refine mP ?_
  refine aQ ?_
  refine aQ ?_
  refine eY ?_
  refine eY ?_
  simp only [DN,List.cons_append,List.nil_append,List.append_nil]
  refine aU (b:=A1) (tb:=234) (cs:=#[.int .i64 0,.int .i64 0,.bool false,.bool false,.bool false,.bool false,.bool false,.int .i64 0,.int .i64 0]) (cs':=#[.int .i64 H.frame,.int .i64 H.mid,.bool H.r,.bool H.w,.bool H.x,.bool H.af,.bool H.ng,.int .i64 H.soft,.int .i64 H.level]) (hp':=⟨A2,#[.int .i64 0,.int .i64 0,.int .i64 0,.bool false,.int .i64 0],43⟩::(hn1++[⟨R,#[.int .i64 0,.int .i64 0,.int .i64 0,.bool false,.int .i64 0],43⟩])) ?_ au
  refine aU (b:=A2) (tb:=43) (cs:=#[.int .i64 0,.int .i64 0,.int .i64 0,.bool false,.int .i64 0]) (cs':=#[.int .i64 Y.f.kind,.int .i64 Y.f.stage,.int .i64 Y.f.level,.bool Y.f.walk,.int .i64 Y.f.page]) (hp':=⟨A1,#[.int .i64 H.frame,.int .i64 H.mid,.bool H.r,.bool H.w,.bool H.x,.bool H.af,.bool H.ng,.int .i64 H.soft,.int .i64 H.level],234⟩::(hn1++[⟨R,#[.int .i64 0,.int .i64 0,.int .i64 0,.bool false,.int .i64 0],43⟩])) ?_ au
  refine aG ?_
  refine cO ?_
  refine aI (⟨A2,#[.int .i64 Y.f.kind,.int .i64 Y.f.stage,.int .i64 Y.f.level,.bool Y.f.walk,.int .i64 Y.f.page],43⟩::⟨A1,#[.int .i64 H.frame,.int .i64 H.mid,.bool H.r,.bool H.w,.bool H.x,.bool H.af,.bool H.ng,.int .i64 H.soft,.int .i64 H.level],234⟩::⟨R,#[.int .i64 0,.int .i64 0,.int .i64 0,.bool false,.int .i64 0],43⟩::⟨Wb,#[.slice p c.ws.length cap,ev1,oU,.int .i64 c.pk.cpu,.bool c.pk.fill,.bool c.pk.aN,.bool c.pk.walk,.int .i64 c.pk.drop,.bool c.pk.use,.bool c.one.on,.int .i64 c.one.frame,.int .i64 c.one.tag,.bool c.two.on,.int .i64 c.two.frame,.int .i64 c.two.tag,.int .i64 (c.page:Int),.int .i64 c.acc,pJ],194⟩::(he1++hd1++hr1)) (cnt1 hle1) ?_
  refine run ?_
  refine gZ 2 ?_
  refine dI 5 4 [0,1,2,3] [4] (⟨A2,#[.int .i64 Y.f.kind,.int .i64 Y.f.stage,.int .i64 Y.f.level,.bool Y.f.walk,.int .i64 Y.f.page],43⟩::⟨A1,#[.int .i64 H.frame,.int .i64 H.mid,.bool H.r,.bool H.w,.bool H.x,.bool H.af,.bool H.ng,.int .i64 H.soft,.int .i64 H.level],234⟩::⟨Wb,#[.slice p c.ws.length cap,ev1,oU,.int .i64 c.pk.cpu,.bool c.pk.fill,.bool c.pk.aN,.bool c.pk.walk,.int .i64 c.pk.drop,.bool c.pk.use,.bool c.one.on,.int .i64 c.one.frame,.int .i64 c.one.tag,.bool c.two.on,.int .i64 c.two.frame,.int .i64 c.two.tag,.int .i64 (c.page:Int),.int .i64 c.acc,pJ],194⟩::(he1++hd1++hr1)) ?_
  refine bY ?_
  refine aU (b:=R) (tb:=43) (cs:=#[.int .i64 0,.int .i64 0,.int .i64 0,.bool false,.int .i64 0]) (cs':=#[.int .i64 Y.f.kind,.int .i64 Y.f.stage,.int .i64 Y.f.level,.bool Y.f.walk,.int .i64 Y.f.page]) (hp':=⟨A2,#[.int .i64 Y.f.kind,.int .i64 Y.f.stage,.int .i64 Y.f.level,.bool Y.f.walk,.int .i64 Y.f.page],43⟩::⟨A1,#[.int .i64 H.frame,.int .i64 H.mid,.bool H.r,.bool H.w,.bool H.x,.bool H.af,.bool H.ng,.int .i64 H.soft,.int .i64 H.level],234⟩::⟨Wb,#[.slice p c.ws.length cap,ev1,oU,.int .i64 c.pk.cpu,.bool c.pk.fill,.bool c.pk.aN,.bool c.pk.walk,.int .i64 c.pk.drop,.bool c.pk.use,.bool c.one.on,.int .i64 c.one.frame,.int .i64 c.one.tag,.bool c.two.on,.int .i64 c.two.frame,.int .i64 c.two.tag,.int .i64 (c.page:Int),.int .i64 c.acc,pJ],194⟩::(he1++hd1++hr1)) ?_ au
  refine aG ?_
  refine cO ?_
  refine run ?_
  exact vK (v:=.int .i64 H.frame) (cs:=#[.int .i64 Y.f.kind,.int .i64 Y.f.stage,.int .i64 Y.f.level,.bool Y.f.walk,.int .i64 Y.f.page]) ⟨_,_,_,he1,hd1,hr1,by rw [hH1],h11,h21,h31,by (exact ak)⟩
 rw [hc,cond_false]
 refine run ?_
 refine dW (σ:=Unit) (fun _=>[]) (fun _=>⟨R,#[.int .i64 0,.int .i64 0,.int .i64 0,.bool false,.int .i64 0],43⟩::⟨Wb,#[.slice p c.ws.length cap,.slice qe es.length ce,.slice qd ds.length cd,.int .i64 c.pk.cpu,.bool c.pk.fill,.bool c.pk.aN,.bool c.pk.walk,.int .i64 c.pk.drop,.bool c.pk.use,.bool c.one.on,.int .i64 c.one.frame,.int .i64 c.one.tag,.bool c.two.on,.int .i64 c.two.frame,.int .i64 c.two.tag,.int .i64 (c.page:Int),.int .i64 c.acc,.slice qr ([]:List Int).length cr],194⟩::(he++hd++hr)) (fun _=>(c.pk.use && decide (0≤iw c es))=false) ?_ ?_
 ·refine aj _ rfl (fun hc1=>?_) (fun hc1=>?_)
  ·refine run ?_
   have hmm:=fun {wc:World} (ha1:aB wc (.slice qe es.length ce) 14 (es.map bG)) (hb1:aB wc (.slice qd ds.length cd) 4 (ds.map dG))=>QK ha1 hb1 hcap hE.vg c.two.tag c.one.tag c.page c.acc (lQ htw.2.1 htw.2.2) (lQ ho.2.1 ho.2.2) hk.page ha
   rw [pK,show fJ (jX c.two.tag c.one.tag c.page c.acc) es=iw c es from rfl] at hmm
   obtain ⟨E,hEE⟩:∃ E,E=(bif decide (0≤iw c es) then es.getD (iw c es).toNat default else default):=⟨_,rfl⟩
   rw [← hEE] at hmm
   refine oN 28 27 [0,1,2,3,4,5,6,7,8,9,10,11,12,13,14,15,16,17,18,19,20,21,22,23,24,25] [26] [27] (⟨R,#[.int .i64 0,.int .i64 0,.int .i64 0,.bool false,.int .i64 0],43⟩::⟨Wb,#[.slice p c.ws.length cap,.slice qe es.length ce,.slice qd ds.length cd,.int .i64 c.pk.cpu,.bool c.pk.fill,.bool c.pk.aN,.bool c.pk.walk,.int .i64 c.pk.drop,.bool c.pk.use,.bool c.one.on,.int .i64 c.one.frame,.int .i64 c.one.tag,.bool c.two.on,.int .i64 c.two.frame,.int .i64 c.two.tag,.int .i64 (c.page:Int),.int .i64 c.acc,.slice qr ([]:List Int).length cr],194⟩::(he++hd++hr)) ?_
   refine bY ?_
   refine kS (fun wc hx hG=>hmm (h1.lie (fun b hb=>hG.here b av9) (by rw [List.length_map];dsimp only;omega)) (h2.lie (fun b hb=>hG.here b av9) au1)) ?_
   refine bY ?_
   refine dL ?_
   refine gW ?_
   rintro _ _ ⟨X,rfl,rfl⟩
   simp only [DN,List.cons_append,List.nil_append,List.append_nil]
   refine aU (b:=X) (tb:=114) (cs:=#[.int .i64 0,.int .i64 0,.int .i64 0,.bool false,.int .i64 0,.int .i64 0,.int .i64 0,.int .i64 0,.bool false,.bool false,.bool false,.bool false,.bool false,.int .i64 0]) (cs':=#[.int .i64 E.kind,.int .i64 E.jh,.int .i64 E.jW,.bool E.all,.int .i64 E.page,.int .i64 E.level,.int .i64 E.frame,.int .i64 E.mid,.bool E.r,.bool E.w,.bool E.x,.bool E.af,.bool E.ng,.int .i64 E.soft]) (hp':=⟨R,#[.int .i64 0,.int .i64 0,.int .i64 0,.bool false,.int .i64 0],43⟩::⟨Wb,#[.slice p c.ws.length cap,.slice qe es.length ce,.slice qd ds.length cd,.int .i64 c.pk.cpu,.bool c.pk.fill,.bool c.pk.aN,.bool c.pk.walk,.int .i64 c.pk.drop,.bool c.pk.use,.bool c.one.on,.int .i64 c.one.frame,.int .i64 c.one.tag,.bool c.two.on,.int .i64 c.two.frame,.int .i64 c.two.tag,.int .i64 (c.page:Int),.int .i64 c.acc,.slice qr ([]:List Int).length cr],194⟩::(he++hd++hr)) ?_ au
   refine aG ?_
   refine cO ?_
   refine run ?_
   refine aj _ rfl (fun hc2=>?_) (fun hc2=>?_)
   ·have h0:0≤iw c es:=by
     cases hq:decide (0≤iw c es) with
     | true=>exact of_decide_eq_true hq
     | false=>rw [hq] at hc2;simp at hc2
    simp only [h0,decide_true,cond_true] at hEE
    rw [show (c.pk.use && decide (0≤iw c es))=true by rw [hc1,decide_eq_true h0];rfl,cond_true,← hEE]
    refine run ?_
    exact vK (v:=.int .i64 E.frame) (cs:=#[.int .i64 0,.int .i64 0,.int .i64 0,.bool false,.int .i64 0]) ⟨_,_,_,he,hd,hr,rfl,h1,h2,h3,by (exact ak)⟩
   ·refine run ?_
    exact dA () (by
     rw [hc1,Bool.true_and]
     cases hq:decide (0≤iw c es) with
     | false=>rfl
     | true=>rw [hq] at hc2;simp at hc2)
  ·refine run ?_
   exact dA () (by rw [hc1];rfl)
 rintro ⟨⟩ hcut
 rw [hcut,cond_false]
 refine run ?_
 refine dH (⟨Wb,#[.slice p c.ws.length cap,.slice qe es.length ce,.slice qd ds.length cd,.int .i64 c.pk.cpu,.bool c.pk.fill,.bool c.pk.aN,.bool c.pk.walk,.int .i64 c.pk.drop,.bool c.pk.use,.bool c.one.on,.int .i64 c.one.frame,.int .i64 c.one.tag,.bool c.two.on,.int .i64 c.two.frame,.int .i64 c.two.tag,.int .i64 (c.page:Int),.int .i64 c.acc,.slice qr ([]:List Int).length cr],194⟩::(he++hd++hr)) [⟨R,#[.int .i64 0,.int .i64 0,.int .i64 0,.bool false,.int .i64 0],43⟩] (fun wc hG=>Nu c hk cap hcc ⟨es,[]⟩ ds hE ha au3 (hm.into hG) h1 h2 h3 hG.dD) ?_ au
 rintro u1 hn1 ⟨H,X,M,d,ev1,oU,pJ,he1,hd1,hr1,hX,Z8,hXr,rfl,hH1,hH2,h11,h21,h31,hle1⟩
 simp only [vw] at hle1
 refine aI (⟨R,#[.int .i64 0,.int .i64 0,.int .i64 0,.bool false,.int .i64 0],43⟩::⟨Wb,#[.slice p c.ws.length cap,ev1,oU,.int .i64 c.pk.cpu,.bool c.pk.fill,.bool c.pk.aN,.bool c.pk.walk,.int .i64 c.pk.drop,.bool c.pk.use,.bool c.one.on,.int .i64 c.one.frame,.int .i64 c.one.tag,.bool c.two.on,.int .i64 c.two.frame,.int .i64 c.two.tag,.int .i64 (c.page:Int),.int .i64 c.acc,pJ],194⟩::(he1++hd1++hr1)) (cnt1 hle1) ?_
 refine run ?_
 intro HB F
 refine aj _ rfl (fun hc3=>?_) (fun hc3=>?_)
 ·rw [← hX,Nq,hc3,cond_true]
  refine run ?_
  refine gZ 2 ?_
  refine dI 3 2 [0,1] [2] (⟨F,#[.int .i64 X.f.kind,.int .i64 X.f.stage,.int .i64 X.f.level,.bool X.f.walk,.int .i64 X.f.page],43⟩::⟨HB,#[.int .i64 H.frame,.int .i64 H.mid,.bool H.r,.bool H.w,.bool H.x,.bool H.af,.bool H.ng,.int .i64 H.soft,.int .i64 H.level],234⟩::⟨Wb,#[.slice p c.ws.length cap,ev1,oU,.int .i64 c.pk.cpu,.bool c.pk.fill,.bool c.pk.aN,.bool c.pk.walk,.int .i64 c.pk.drop,.bool c.pk.use,.bool c.one.on,.int .i64 c.one.frame,.int .i64 c.one.tag,.bool c.two.on,.int .i64 c.two.frame,.int .i64 c.two.tag,.int .i64 (c.page:Int),.int .i64 c.acc,pJ],194⟩::(he1++hd1++hr1)) ?_
  refine bY ?_
  refine aU (b:=R) (tb:=43) (cs:=#[.int .i64 0,.int .i64 0,.int .i64 0,.bool false,.int .i64 0]) (cs':=#[.int .i64 X.f.kind,.int .i64 X.f.stage,.int .i64 X.f.level,.bool X.f.walk,.int .i64 X.f.page]) (hp':=⟨F,#[.int .i64 X.f.kind,.int .i64 X.f.stage,.int .i64 X.f.level,.bool X.f.walk,.int .i64 X.f.page],43⟩::⟨HB,#[.int .i64 H.frame,.int .i64 H.mid,.bool H.r,.bool H.w,.bool H.x,.bool H.af,.bool H.ng,.int .i64 H.soft,.int .i64 H.level],234⟩::⟨Wb,#[.slice p c.ws.length cap,ev1,oU,.int .i64 c.pk.cpu,.bool c.pk.fill,.bool c.pk.aN,.bool c.pk.walk,.int .i64 c.pk.drop,.bool c.pk.use,.bool c.one.on,.int .i64 c.one.frame,.int .i64 c.one.tag,.bool c.two.on,.int .i64 c.two.frame,.int .i64 c.two.tag,.int .i64 (c.page:Int),.int .i64 c.acc,pJ],194⟩::(he1++hd1++hr1)) ?_ au
  refine aG ?_
  refine cO ?_
  refine run ?_
  exact vK (v:=.int .i64 0) (cs:=#[.int .i64 X.f.kind,.int .i64 X.f.stage,.int .i64 X.f.level,.bool X.f.walk,.int .i64 X.f.page]) ⟨_,_,_,he1,hd1,hr1,rfl,h11,h21,h31,by (exact ak)⟩
 have hf0:X.f.kind=0:=by simpa using hc3
 obtain ⟨hM,Zw,af',hHm,hHs,hHa⟩:=hH2 hf0
 have hEq:bG (yP c H.frame M d X.a)=[.int .i64 1,.int .i64 c.two.tag,.int .i64 c.one.tag,.bool !H.ng,.int .i64 (c.page:Int),.int .i64 0,.int .i64 H.frame,.int .i64 H.mid,.bool H.r,.bool H.w,.bool H.x,.bool H.af,.bool H.ng,.int .i64 H.soft]:=by
  rw [AtD.mk.injEq] at hHa
  obtain ⟨e1,e2,e3,e4,e5⟩:=hHa
  rw [hHm,hHs,e1,e2,e3,e4,e5]
  rfl
 rw [← hX,Nq,hc3,cond_false]
 refine run ?_
 obtain ⟨es',hes⟩:∃ es',es'=(bif c.pk.fill then fF X.s.es (yP c X.n M d X.a) else X.s.es):=⟨_,rfl⟩
 rw [← hes]
 have hXm:=Z8.may
 refine dW (σ:=Value × Value × Hp × Hp) (fun _=>[]) (fun z=>⟨F,#[.int .i64 X.f.kind,.int .i64 X.f.stage,.int .i64 X.f.level,.bool X.f.walk,.int .i64 X.f.page],43⟩::⟨HB,#[.int .i64 H.frame,.int .i64 H.mid,.bool H.r,.bool H.w,.bool H.x,.bool H.af,.bool H.ng,.int .i64 H.soft,.int .i64 H.level],234⟩::⟨R,#[.int .i64 0,.int .i64 0,.int .i64 0,.bool false,.int .i64 0],43⟩::⟨Wb,#[.slice p c.ws.length cap,z.1,z.2.1,.int .i64 c.pk.cpu,.bool c.pk.fill,.bool c.pk.aN,.bool c.pk.walk,.int .i64 c.pk.drop,.bool c.pk.use,.bool c.one.on,.int .i64 c.one.frame,.int .i64 c.one.tag,.bool c.two.on,.int .i64 c.two.frame,.int .i64 c.two.tag,.int .i64 (c.page:Int),.int .i64 c.acc,pJ],194⟩::(z.2.2.1++z.2.2.2++hr1)) (fun z=>Own 114 14 z.1 z.2.2.1 (es'.map bG)∧Own 121 4 z.2.1 z.2.2.2 (ds.map dG)) ?_ ?_
 ·refine aj _ rfl (fun hc4=>?_) (fun hc4=>?_)
  ·rw [hc4,cond_true] at hes
   subst hes
   have hF:=fun (wc:World) (hG:eF (⟨Wb,#[.slice p c.ws.length cap,ev1,oU,.int .i64 c.pk.cpu,.bool c.pk.fill,.bool c.pk.aN,.bool c.pk.walk,.int .i64 c.pk.drop,.bool c.pk.use,.bool c.one.on,.int .i64 c.one.frame,.int .i64 c.one.tag,.bool c.two.on,.int .i64 c.two.frame,.int .i64 c.two.tag,.int .i64 (c.page:Int),.int .i64 c.acc,pJ],194⟩::(he1++hd1++hr1)) wc)=>Bc c X.s.es ds Z8.vg (yP c H.frame M d X.a) (GY hk hM (by rw [hH1];exact Zw)) ⟨_,_,_,rfl⟩ ⟨_,_,_,h31.opened.choose_spec.choose_spec⟩ h11 h21 hG
   rw [hEq] at hF
   refine run ?_
   refine iT 26 ?_
   refine bW ?_
   refine dH (⟨Wb,#[.slice p c.ws.length cap,ev1,oU,.int .i64 c.pk.cpu,.bool c.pk.fill,.bool c.pk.aN,.bool c.pk.walk,.int .i64 c.pk.drop,.bool c.pk.use,.bool c.one.on,.int .i64 c.one.frame,.int .i64 c.one.tag,.bool c.two.on,.int .i64 c.two.frame,.int .i64 c.two.tag,.int .i64 (c.page:Int),.int .i64 c.acc,pJ],194⟩::(he1++hd1++hr1)) (⟨F,#[.int .i64 X.f.kind,.int .i64 X.f.stage,.int .i64 X.f.level,.bool X.f.walk,.int .i64 X.f.page],43⟩::⟨HB,#[.int .i64 H.frame,.int .i64 H.mid,.bool H.r,.bool H.w,.bool H.x,.bool H.af,.bool H.ng,.int .i64 H.soft,.int .i64 H.level],234⟩::⟨R,#[.int .i64 0,.int .i64 0,.int .i64 0,.bool false,.int .i64 0],43⟩::[]) (fun wc hG=>hF wc hG.dD) ?_ au
   rintro u7 Zr ⟨Zt,Zu,Zv,hd7,rfl,h17,h27,BP⟩
   simp only [vw] at BP
   rw [hH1] at h17
   refine run ?_
   exact dA (Zt,Zu,Zv,hd7) ⟨h17,h27⟩ (h2:=by (exact cnt1 BP))
  ·rw [hc4,cond_false] at hes
   subst hes
   refine run ?_
   exact dA (ev1,oU,he1,hd1) ⟨h11,h21⟩ (h2:=by (exact ak))
 rintro ⟨wG,yR,he2,hd2⟩ ⟨h1',h2'⟩
 dsimp only at h1' h2' ⊢
 refine run ?_
 refine gZ 2 ?_
 refine dI 5 4 [0,1,2,3] [4] (⟨F,#[.int .i64 X.f.kind,.int .i64 X.f.stage,.int .i64 X.f.level,.bool X.f.walk,.int .i64 X.f.page],43⟩::⟨HB,#[.int .i64 H.frame,.int .i64 H.mid,.bool H.r,.bool H.w,.bool H.x,.bool H.af,.bool H.ng,.int .i64 H.soft,.int .i64 H.level],234⟩::⟨Wb,#[.slice p c.ws.length cap,wG,yR,.int .i64 c.pk.cpu,.bool c.pk.fill,.bool c.pk.aN,.bool c.pk.walk,.int .i64 c.pk.drop,.bool c.pk.use,.bool c.one.on,.int .i64 c.one.frame,.int .i64 c.one.tag,.bool c.two.on,.int .i64 c.two.frame,.int .i64 c.two.tag,.int .i64 (c.page:Int),.int .i64 c.acc,pJ],194⟩::(he2++hd2++hr1)) ?_
 refine bY ?_
 refine aU (b:=R) (tb:=43) (cs:=#[.int .i64 0,.int .i64 0,.int .i64 0,.bool false,.int .i64 0]) (cs':=#[.int .i64 X.f.kind,.int .i64 X.f.stage,.int .i64 X.f.level,.bool X.f.walk,.int .i64 X.f.page]) (hp':=⟨F,#[.int .i64 X.f.kind,.int .i64 X.f.stage,.int .i64 X.f.level,.bool X.f.walk,.int .i64 X.f.page],43⟩::⟨HB,#[.int .i64 H.frame,.int .i64 H.mid,.bool H.r,.bool H.w,.bool H.x,.bool H.af,.bool H.ng,.int .i64 H.soft,.int .i64 H.level],234⟩::⟨Wb,#[.slice p c.ws.length cap,wG,yR,.int .i64 c.pk.cpu,.bool c.pk.fill,.bool c.pk.aN,.bool c.pk.walk,.int .i64 c.pk.drop,.bool c.pk.use,.bool c.one.on,.int .i64 c.one.frame,.int .i64 c.one.tag,.bool c.two.on,.int .i64 c.two.frame,.int .i64 c.two.tag,.int .i64 (c.page:Int),.int .i64 c.acc,pJ],194⟩::(he2++hd2++hr1)) ?_ au
 refine aG ?_
 refine cO ?_
 refine run ?_
 exact vK (v:=.int .i64 H.frame) (cs:=#[.int .i64 X.f.kind,.int .i64 X.f.stage,.int .i64 X.f.level,.bool X.f.walk,.int .i64 X.f.page]) ⟨_,_,_,he2,hd2,hr1,by rw [hH1,af'],h1',h2',h31,by (exact ak)⟩
theorem vM {w:World} {F:Nat} {us:List Value} (p:bf→Bool) (xs:List (bf)) (v:Value) (h:aB w v 14 (xs.map bG)) (hF:∀ x,x∈xs→∀ w',GN w w'→Fn Tryz.prog F ([]++[Value.agg (bG x).toArray]++us).toArray w' [] (fun u _=>u=.bool (p x))) (dU:mem mM F=true:=by rfl):
  Fn Tryz.prog 65 [v,.func (.func F) [].toArray us.toArray].toArray w [] (fun u _=>u=.bool (xs.any p)):=by
 refine enter Tryz.func65 ?_
 refine run ?_
 refine ax (fun wc hG=>AU p xs v (h.good hG) (fun x hx w' ha=>hF x hx w' ?_) dU) ?_
 ·obtain ⟨hp,hg⟩:=ha
  exact ⟨_,hG.trans hg⟩
 refine run ?_
 refine fin1 ?_
 rw [← xw]
theorem QS (n:Int) (x:bf) (B:Nat) (w:World) (hB:w.cell? ⟨B,0,none⟩=some (.int .i64 n)):Fn Tryz.prog 163 ([]++[Value.agg (bG x).toArray]++[Value.pointer (some ⟨B,0,none⟩)]).toArray w [] (fun u _=>u=.bool (decide (n≤x.frame))):=by
 refine enter Tryz.func163 ?_
 refine run ?_
 intro E
 refine run ?_
 exact fin1 rfl
theorem VQ (r:eu):(decide (r.frame<0) || decide (4095<r.frame) || decide (r.tag<0) || decide (15<r.tag))=!r.may:=by
 have e2:∀ a:Int,decide (a<0)=!decide (0≤a):=fun a=>by rw [Bool.eq_iff_iff];simp
 have e3:∀ a b:Int,decide (b<a)=!decide (a≤b):=fun a b=>by rw [Bool.eq_iff_iff];simp
 rw [eu.may,PtD.bV,PtD.bV,e2,e2,e3,e3]
 simp only [Bool.not_and,Bool.or_assoc]
theorem UH (ws:List Nat) (hw:ws.length<1000000) (cap:Nat) (hcc:ws.length≤cap) {p:Option Addr} {w:World} {Wb:Nat} (es:List bf) (ds:List dh) (pk:BJ) (one two:eu) (page acc:Int) {ev dv rv:Value} (he:dK w [Wb] ev 14 (es.map bG)) (hd:dK w [Wb] dv 4 (ds.map dG)) (hcap:∃ q c,ev=.slice q es.length c∧es.length≤c) (hel:es.length<1000000)
  (hN:eF [⟨Wb,#[.slice p ws.length cap,ev,dv,.int .i64 pk.cpu,.bool pk.fill,.bool pk.aN,.bool pk.walk,.int .i64 pk.drop,.bool pk.use,.bool one.on,.int .i64 one.frame,.int .i64 one.tag,.bool two.on,.int .i64 two.frame,.int .i64 two.tag,.int .i64 page,.int .i64 acc,rv],194⟩] w):
  Fn Tryz.prog 136 [.pointer (some ⟨Wb,0,none⟩)].toArray w [Wb] (fun u hn=>u=.bool (wB ws.length es ds one two page acc)∧aC [⟨Wb,#[.slice p ws.length cap,ev,dv,.int .i64 pk.cpu,.bool pk.fill,.bool pk.aN,.bool pk.walk,.int .i64 pk.drop,.bool pk.use,.bool one.on,.int .i64 one.frame,.int .i64 one.tag,.bool two.on,.int .i64 two.frame,.int .i64 two.tag,.int .i64 page,.int .i64 acc,rv],194⟩] hn):=by
 refine dY _ hN Tryz.func136 ?_
 obtain ⟨qe,ce,rfl,hlc⟩:=hcap
 obtain ⟨qd,cd,rfl,_⟩:=hd.at_.opened
 refine run ?_
 refine ax (fun wc hG=>Df ws.length cap at7 p wc) ?_
 refine run ?_
 intro Nb
 refine ax (fun wc hG=>A8 false false false false false 0 acc wc) ?_
 refine az ?_
 refine aZ (fun hg wc hG=>kL es ds _ _ (he.good hG) (hd.good hG) ⟨_,_,rfl,hlc⟩) ?_
 refine az ?_
 have hg:(!decide ((bif dP ws.length then (0:Int) else 1)=0) || !decide ((bif PtD.bV acc 0 2 then (0:Int) else 1)=0) || !decide ((bif bJ es ds then (0:Int) else 1)=0) || !two.on || decide (page<0) || decide (4095<page))=!(dP ws.length && PtD.bV acc 0 2 && bJ es ds && two.on && PtD.bV page 0 4095):=by
  have e1:∀ b,decide ((bif b then (0:Int) else 1)=0)=b:=by decide
  rw [e1,e1,e1]
  have e2:decide (page<0)=!decide (0≤page):=by rw [Bool.eq_iff_iff];simp
  have e3:decide (4095<page)=!decide (page≤4095):=by rw [Bool.eq_iff_iff];simp
  rw [e2,e3,PtD.bV,PtD.bV]
  simp only [Bool.not_and,Bool.or_assoc]
 rw [hg]
 refine aj _ rfl (fun hc=>?_) (fun hc=>?_)
 ·have hf:wB ws.length es ds one two page acc=false:=by
   rw [wB,BM]
   simp only [Bool.not_eq_true',Bool.and_eq_false_iff] at hc
   rcases hc with (((h | h) | h) | h) | h<;>simp [h]
  rw [hf]
  refine run ?_
  exact fin1 ⟨rfl,by (exact ak)⟩
 have hcc:dP ws.length=true∧PtD.bV acc 0 2=true∧bJ es ds=true∧two.on=true∧PtD.bV page 0 4095=true:=by
  simp only [Bool.not_eq_false',Bool.and_eq_true] at hc
  exact ⟨hc.1.1.1.1,hc.1.1.1.2,hc.1.1.2,hc.1.2,hc.2⟩
 obtain ⟨g1,g2,g3,g4,g5⟩:=hcc
 have hmay:wB ws.length es ds one two page acc=(one.may && two.may && lK ws.length es):=by
  rw [wB,BM,g1,g2,g3,g4,g5];simp
 rw [hmay]
 simp only [g1,cond_true]
 refine run ?_
 refine dI 11 8 [0,1,2,3,4,5,6,7,10] [8,9] [⟨Nb,#[.int .i64 ((ws.length / 8:Nat):Int)],3⟩,⟨Wb,#[.slice p ws.length cap,.slice qe es.length ce,.slice qd ds.length cd,.int .i64 pk.cpu,.bool pk.fill,.bool pk.aN,.bool pk.walk,.int .i64 pk.drop,.bool pk.use,.bool one.on,.int .i64 one.frame,.int .i64 one.tag,.bool two.on,.int .i64 two.frame,.int .i64 two.tag,.int .i64 page,.int .i64 acc,rv],194⟩] ?_
 refine bY ?_
 refine vY [.bool one.on,.int .i64 one.frame,.int .i64 one.tag,.bool two.on,.int .i64 two.frame,.int .i64 two.tag] (fun Z=>?_)
 refine sH (fun hx=>x_len ay rfl rfl) ?_
 refine aG ?_
 refine cO ?_
 refine run ?_
 refine cu (σ:=Nat) (fun j=>[(72,.int .i64 (j:Int))]) (fun j=>[⟨Z,#[.bool one.on,.int .i64 one.frame,.int .i64 one.tag,.bool two.on,.int .i64 two.frame,.int .i64 two.tag],33⟩,⟨Nb,#[.int .i64 ((ws.length / 8:Nat):Int)],3⟩,⟨Wb,#[.slice p ws.length cap,.slice qe es.length ce,.slice qd ds.length cd,.int .i64 pk.cpu,.bool pk.fill,.bool pk.aN,.bool pk.walk,.int .i64 pk.drop,.bool pk.use,.bool one.on,.int .i64 one.frame,.int .i64 one.tag,.bool two.on,.int .i64 two.frame,.int .i64 two.tag,.int .i64 page,.int .i64 acc,rv],194⟩]) (fun j=>j≤2∧(1≤j→one.may=true)∧(2≤j→two.may=true)) (fun j=>2 - j) 0 ⟨by omega,fun h=>by omega,fun h=>by omega⟩ ?_
 rintro j m hmj ⟨hj2,hj0,hj1⟩
 obtain rfl | rfl | rfl:j=0∨j=1∨j=2:=by omega
 ·refine aW ?_
  intro B
  rw [VQ]
  refine aj _ rfl (fun hc2=>?_) (fun hc2=>?_)
  ·refine run ?_
   rw [show one.may=false by simpa using hc2]
   exact fin1 ⟨rfl,by (exact ak)⟩
  ·refine run ?_
   exact bI 1 ⟨by omega,fun _=>by simpa using hc2,fun h=>by omega⟩ (h2:=by (exact ak))
 ·refine aW ?_
  intro B
  rw [VQ]
  refine aj _ rfl (fun hc2=>?_) (fun hc2=>?_)
  ·refine run ?_
   rw [show two.may=false by simpa using hc2,Bool.and_false,Bool.false_and]
   exact fin1 ⟨rfl,by (exact ak)⟩
  ·refine run ?_
   exact bI 2 ⟨by omega,fun _=>hj0 at7,fun _=>by simpa using hc2⟩ (h2:=by (exact ak))
 refine aW ?_
 refine ax (fun wc hG=>vM (us:=[.pointer (some ⟨Nb,0,none⟩)]) (fun x=>decide (((ws.length / 8:Nat):Int)≤x.frame)) es _ (he.good hG) (fun x _ w' ha=>QS _ x Nb w' ?_)) ?_
 ·obtain ⟨hp,hg⟩:=ha
  exact hg.cell ax1 au3
 refine run ?_
 rw [hj0 at7,hj1 at7]
 refine fin1 ⟨?_,by (exact ak)⟩
 rw [Bool.true_and,Bool.true_and,lK,List.not_any_eq_all_not]
 congr 2
 funext x
 rw [Bool.eq_iff_iff];simp
end
section
section
variable {P : Program} {n : Nat} {w0 : World} {mu : List Nat} {l : Fm} {h0 hp : Hp} {Q : Exit → Fm → Hp → Prop} {all : Array Oper} {aF : Fm} {k t0 : Nat} {ds : List (Nat × Nat)}
theorem Dk {aK BH:Fm} {h h':Hp} {listed:Array Bool} {a:Act} {w w':World} {i:Nat} {o:Oper} {v:Value} (hm:nD n w0 mu all l aF aK h listed a w) (ho:all[i]?=some o) (hi:i<k) (hun:listed.getD i true=false) (hs:i<listed.size)
  (hd:o9 all k n=true) (hf:∀ i d u,i<k→aP all i=some d→look l d=some u→lk aF i=some u) (hG:Good w0 mu h' w') (WI:∀ j v,lk aF j=some v→j<k) (hEk:∀ j v,(j,v)∈aK→j<k)
  (hv:(lk aF i=some v∧BH=aK)∨(lk aF i=none∧BH=(i,v)::aK)):nD n w0 mu all l aF BH h' (listed.setIfInBounds i true) (a.put o.dst v) w':=by
 have hod:aP all i=o.dst:=by simp [aP,ho]
 have hput:∀ t,(∀ d,o.dst=some d→t ≠ d)→(a.put o.dst v).tmps.getD t undef=a.tmps.getD t undef:=by
  intro t ht
  cases hdd:o.dst with
  | none=>rfl
  | some d=>simp [Act.put,Array.getElem?_setIfInBounds_ne (Ne.symm (ht d hdd))]
 have hself:∀ d,o.dst=some d→(a.put o.dst v).tmps.getD d undef=v:=by
  intro d hdd
  have:=J4 hd hi (hod.trans hdd)
  rw [hdd]
  simp [Act.put,hm.size,this]
 have hother:∀ j d,j<k→j ≠ i→aP all j=some d→(a.put o.dst v).tmps.getD d undef=a.tmps.getD d undef:=fun j d hj hji hdj=>hput d fun d' hd'=>J5 hd hj hi hji hdj (hod.trans hd')
 refine ⟨?_,?_,fun t u hu=>?_,hG,fun j u hj hl d hdj=>?_,fun j u hj=>?_⟩
 ·cases o.dst<;>simpa [Act.put] using hm.size
 ·cases o.dst<;>exact hm.defers
 ·by_cases hit:o.dst=some t
  ·have h1:=hf i t u hi (hod.trans hit) hu
   rcases hv with ⟨h2,_⟩ | ⟨h2,_⟩
   ·rw [h1] at h2;cases h2;exact hself t hit
   ·rw [h1] at h2;cases h2
  ·rw [hput t fun d hdd e=>hit (by rw [e];exact hdd)]
   exact hm.has t u hu
 ·by_cases hji:j=i
  ·subst hji
   rcases hv with ⟨h1,_⟩ | ⟨h1,_⟩
   ·rw [h1] at hj;cases hj
    exact hself d (hod▸hdj)
   ·rw [h1] at hj;cases hj
  ·rw [hother j d (WI j u hj) hji hdj]
   exact hm.nO j u hj ay0 d hdj
 ·have hold:(j,u)∈aK→(listed.setIfInBounds i true).getD j false=true∧∀ d,aP all j=some d→(a.put o.dst v).tmps.getD d undef=u:=fun hj=>by
   have h1:=hm.jV j u hj
   have hji:j ≠ i:=fun e=>by subst e;rw [getD_both hun] at h1;cases h1.1
   exact ⟨getD_set_true h1.1,fun d hdj=>by rw [hother j d (hEk j u hj) hji hdj];exact h1.2 d hdj⟩
  rcases hv with ⟨_,rfl⟩ | ⟨_,rfl⟩
  ·exact hold hj
  ·rcases List.mem_cons.1 hj with hj | hj
   ·cases hj
    exact ⟨by simp [hs],fun d hdj=>hself d (hod▸hdj)⟩
   ·exact hold hj
theorem Ju (hds:∀ k d,lk ds k=some d→aP all k=some d) {g:Nat} {Q':Exit→Act→World→Prop} {X:Fm→Hp→Prop} (hk:k≤all.size) (hd:o9 all k n=true) (hf:∀ i d u,i<k→aP all i=some d→look l d=some u→lk aF i=some u) (hback:lF all=true) (hle0:aC h0 hp)
  (pV:∀ i,i<k→aP all i=none→i=t0∨Region.waitsFor .any all i t0=true)
  (hS:∀ i v,lk aF i=some v→i<k∧∃ o bu,all[i]?=some o∧lD bu aF∧∀ hx,o7 P n w0 mu all (aA ds bu o.after.toList++l) (bif Region.waitsFor .any all t0 i then hx++hp else hx++h0) o v)
  (htail:∀ aK h listed,HeadInv .any all k listed→(∀ i,i<k→listed.getD i true=true)→X aK h→∀ a w,nD n w0 mu all l aF aK h listed a w→(∀ i v,(i,v)∈aK→i<k)→wpAny P .any all Q' g listed a w)
  (jT:∀ listed,HeadInv .any all k listed→∀ i,i<k→listed.getD i true=false→∀ t,k≤t→t ∉ Region.ready .any all listed):
  ∀ f r aK h listed a w,leftOf k listed=f→HeadInv .any all k listed→nD n w0 mu all l aF aK h listed a w→(∀ i v,(i,v)∈aK→i<k)→(∀ i∈r,i<k∧listed.getD i true=false∧lk aF i=none)→r.Nodup→nN all r=true→(∀ i,i<k→listed.getD i true=false→(∃ v,lk aF i=some v)∨i∈r) →
   aC h0 h→(listed.getD t0 false=false→aC hp h)→fB P n w0 mu all ds l h0 aF X r aK h→wpAny P .any all Q' (f + g) listed a w:=by
 intro f
 induction f with
 | zero=>
  intro r aK h listed a w hlf inv hm hEk hr hnd dO hcov hle mQ hD
  have hall:∀ i,i<k→listed.getD i true=true:=by
   intro i hi
   cases hc:listed.getD i true with
   | true=>rfl
   | false=>
    exfalso
    have:i∈(List.range k).filter fun i=>!listed.getD i true:=List.mem_filter.2 ⟨List.mem_range.2 hi,by simp only [hc,Bool.not_false]⟩
    have h2:=List.length_pos_of_mem this
    unfold leftOf at hlf
    omega
  cases r with
  | nil=>
   rw [Nat.zero_add]
   exact htail aK h listed inv hall hD a w hm hEk
  | cons c r=>
   have h1:=hr c (List.mem_cons_self ..)
   rw [hall c h1.1] at h1
   exact absurd h1.2.1 au0
 | succ f ih=>
  intro r aK h listed a w hlf inv hm hEk hr hnd dO hcov hle mQ hD
  rw [show f + 1 + g=(f + g) + 1 by omega]
  have hex:∃ i,i<k∧listed.getD i true=false:=by
   have h2:0<leftOf k listed:=by omega
   obtain ⟨i,hi⟩:=List.exists_mem_of_length_pos h2
   rw [List.mem_filter] at hi
   exact ⟨i,List.mem_range.1 hi.1,by simpa using hi.2⟩
  obtain ⟨i0,jC,hi0⟩:=hex
  refine ⟨fun hnil=>?_,fun i hi=>?_⟩
  ·exfalso
   obtain ⟨i,⟨hik,hil⟩,hmin⟩:=exists_least (p:=fun i=>i<k∧listed.getD i true=false) ⟨i0,jC,hi0⟩
   have hr:i∈Region.ready .any all listed:=by
    rw [mem_ready]
    have hs:i<all.size:=by omega
    refine ⟨hil,all[i],by simp [hs],fun e he hb=>?_⟩
    have hb2:=List.all_eq_true.1 hback i (List.mem_range.2 hs)
    simp only [Array.getElem?_eq_getElem hs] at hb2
    have hb3:=(Array.all_eq_true_iff_forall_mem.1 hb2) e he
    simp only [hb,Bool.not_true,Bool.false_or,Nat.blt_eq] at hb3
    cases hc:listed.getD e.on false with
    | true=>rfl
    | false=>
     have h5:=hmin e.on ⟨by omega,getD_in au6 hc⟩
     omega
   rw [hnil] at hr;cases hr
  ·have hik:i<k:=by
    rcases Nat.lt_or_ge i k with h | h
    ·exact h
    ·exact absurd hi (jT listed inv i0 jC hi0 i h)
   obtain ⟨hun,o,ho,hall⟩:=mem_ready.1 hi
   have hsz:i<listed.size:=by rw [inv.size];omega
   have mZ:listed.getD i false=false:=getD_both hun
   have hleft:leftOf k (listed.setIfInBounds i true)=f:=by have:=jF hik au6 hun;omega
   have hwl:∀ t,Region.waitsFor .any all i t=true→listed.getD t false=true:=fun t ht=>by
    obtain ⟨oj,h6,e,he,hb,heq⟩:=Region.waitsFor_spec ht
    rw [ho] at h6;cases h6
    rw [← heq];exact hall e he hb
   unfold wpOp
   simp only [ho]
   cases qJ:lk aF i with
   | some v=>
    obtain ⟨_,o',bu,ho',hmo,hy⟩:=hS i v qJ
    rw [ho] at ho';cases ho'
    have hkn:=iP (o:=o) hds hm (bu:=bu) (fun j u hu=>.inr (hmo j u av4)) hall
    have hir:i ∉ r:=fun hm'=>by rw [(hr i hm').2.2] at qJ;cases qJ
    have hnext:∀ w',Good w0 mu h w'→wpAny P .any all Q' (f + g) (listed.setIfInBounds i true) (a.put o.dst v) w':=fun w' hG'=>by
     refine ih r aK h _ _ _ hleft (inv.set hi hik) (Dk hm ho hik hun hsz hd hf hG' (fun j u hu=>(hS j u hu).1) hEk (.inl ⟨qJ,rfl⟩)) hEk (fun j hj=>?_) hnd dO (fun j hj hl=>?_) hle (fun ht=>?_) hD
     ·have hji:i ≠ j:=fun e=>hir (e▸hj)
      exact ⟨(hr j hj).1,by rw [getD_set_ne true hji];exact (hr j hj).2.1,(hr j hj).2.2⟩
     ·refine hcov j hj ?_
      by_cases hji:i=j
      ·subst hji;simp [hsz] at hl
      ·rwa [getD_set_ne true hji] at hl
     ·refine mQ ?_
      by_cases hji:i=t0
      ·subst hji;exact mZ
      ·rwa [getD_set_ne false hji] at ht
    obtain ⟨hx,h3,jm⟩:∃ hx,o7 P n w0 mu all (aA ds bu o.after.toList++l) hx o v∧hx.Perm h:=by
     cases hwt:Region.waitsFor .any all t0 i with
     | true=>
      have ht0:listed.getD t0 false=false:=by
       cases hc:listed.getD t0 false with
       | false=>rfl
       | true=>
        obtain ⟨oj,h6,e,he,hb,heq⟩:=Region.waitsFor_spec hwt
        have:=inv.closed t0 oj h6 hc e he hb
        rw [heq,mZ] at this;cases this
      obtain ⟨x,hxp⟩:=(mQ ht0).perm
      have h4:=hy x
      rw [hwt] at h4
      exact ⟨x++hp,h4,List.perm_append_comm.trans hxp⟩
     | false=>
      obtain ⟨x,hxp⟩:=hle.perm
      have h4:=hy x
      rw [hwt] at h4
      exact ⟨x++h0,h4,List.perm_append_comm.trans hxp⟩
    have hgd:Good w0 mu hx w:=hm.good.perm jm
    replace hnext:∀ w',Good w0 mu hx w'→wpAny P .any all Q' (f + g) (listed.setIfInBounds i true) (a.put o.dst v) w':=fun w' hG'=>hnext w' (hG'.perm jm.symm)
    unfold o7 at h3
    cases hg:o.guard with
    | none=>
     rw [hg] at h3
     rw [if_pos av2]
     exact .inl (h3 a w hkn hgd _ _ hnext)
    | some jw=>
     obtain ⟨j,want⟩:=jw
     rw [hg] at h3
     obtain ⟨dj,c0,b,u,hj,hb,hdj,hy,hvv⟩:=h3
     have hw:=gV hkn hg hj hb hdj
     cases hc:(c0 && jd b want) with
     | true=>
      rw [hc] at hw hvv
      rw [if_pos hw]
      rw [Bool.and_eq_true] at hc
      rw [show v=u from hvv] at hnext
      exact .inl (hy hc.1 hc.2 a w hkn hgd _ _ hnext)
     | false=>
      rw [hc] at hw hvv
      rw [if_neg aw6]
      rw [show v=undef from hvv] at hnext
      exact hnext w hgd
   | none=>
    have hir:i∈r:=by
     rcases hcov i hik hun with ⟨v,hv⟩ | h
     ·rw [qJ] at hv;cases hv
     ·exact h
    cases r with
    | nil=>cases hir
    | cons c r=>
     have hic:i=c:=by
      rcases List.mem_cons.1 hir with h | h
      ·exact h
      ·exfalso
       obtain ⟨p,hp⟩:=rq dO h
       rcases hp with ⟨h1,_,h3⟩ | ⟨_,h3⟩ | ⟨p,h1,h3⟩
       ·have:=(hr p h1).2.1;have h5:=hwl p h3
        rw [getD_both this] at h5;cases h5
       ·exact h3
       ·have:=(hr p h1).2.1;have h5:=hwl p h3
        rw [getD_both this] at h5;cases h5
     subst hic
     rw [List.nodup_cons] at hnd
     have nG:nN all r=true:=by
      cases r with
      | nil=>rfl
      | cons j r=>simp only [nN,Bool.and_eq_true] at dO;exact dO.2
     have hr':∀ j∈r,j<k∧(listed.setIfInBounds i true).getD j true=false∧lk aF j=none:=fun j hj=>by
      have h1:=hr j (List.mem_cons_of_mem _ hj)
      have hji:i ≠ j:=fun e=>hnd.1 (e▸hj)
      exact ⟨h1.1,by rw [getD_set_ne true hji];exact h1.2.1,h1.2.2⟩
     have lg:∀ j,j<k→(listed.setIfInBounds i true).getD j true=false→(∃ v,lk aF j=some v)∨j∈r:=fun j hj hl=>by
      by_cases hji:i=j
      ·subst hji;simp [hsz] at hl
      ·rw [getD_set_ne true hji] at hl
       rcases hcov j hj hl with h | h
       ·exact .inl h
       ·exact .inr ((List.mem_cons.1 h).resolve_left (Ne.symm hji))
     have hkn:=iP (o:=o) hds hm (bu:=aK++aF) (fun j u hu=>by
      rw [dX,Aj] at hu
      cases hE:lk aK j with
      | some v=>rw [hE] at hu;exact .inl hu
      | none=>rw [hE] at hu;exact .inr hu) hall
     unfold fB at hD
     obtain ⟨o',ho',hD⟩:=hD
     rw [ho] at ho';cases ho'
     rcases hD with ⟨hds',R,⟨hg,hE⟩,hD⟩ | ⟨hdn,h',⟨hg,_,hSt⟩,hle',hD⟩
     ·rw [if_pos (hg _ hkn)]
      refine .inl (hE a w [] hkn az7 _ _ fun v hn w' hR hG'=>?_)
      rw [List.nil_append] at hG'
      have hlen:∀ x:Hp,aC x h→aC x (hn++h):=fun x hx=>bQ fun b=>by have:=hx.cnt b;rw [dV];omega
      refine ih r ((i,v)::aK) (hn++h) _ _ _ hleft (inv.set hi hik) (Dk hm ho hik hun hsz hd hf hG' (fun j u hu=>(hS j u hu).1) hEk (.inr ⟨qJ,rfl⟩)) (fun j u hu=>?_) hr' hnd.2 nG lg (hlen _ hle) (fun ht=>hlen _ (mQ ?_)) (hD v hn hR)
      ·rcases List.mem_cons.1 hu with hu | hu
       ·cases hu;exact hik
       ·exact hEk j u hu
      ·by_cases hji:i=t0
       ·subst hji;exact mZ
       ·rwa [getD_set_ne false hji] at ht
     ·rw [if_pos av2]
      refine .inl (hSt a w hkn hm.good _ _ fun w' hG'=>?_)
      have hmc:nD n w0 mu all l aF aK h' (listed.setIfInBounds i true) a w':=by
       refine ⟨hm.size,hm.defers,hm.has,hG',fun j u hj hl d hdj=>?_,fun j u hj=>⟨getD_set_true (hm.jV j u hj).1,(hm.jV j u hj).2⟩⟩
       have hji:i ≠ j:=fun e=>by subst e;rw [qJ] at hj;cases hj
       exact hm.nO j u hj ax7 d hdj
      refine ih r aK h' _ _ _ hleft (inv.set hi hik) hmc hEk hr' hnd.2 nG lg hle' (fun ht=>?_) hD
      exfalso
      rcases pV i hik (by simp [aP,ho,hdn]) with e | e
      ·subst e
       rw [show (listed.setIfInBounds i true).getD i false=true by simp [hsz]] at ht;cases ht
      ·have:=getD_set_true (i:=i) (hwl t0 e)
       rw [this] at ht;cases ht
theorem Ny {ops:List Oper} (k t0 m:Nat) (S C:List Nat) (h0:Hp) (hB:yL ops.toArray n k t0 S C=true) (hf:bg l ((List.range k).map fun i=>bif Nat.beq i m then none else aP ops.toArray i)=true) (hle0:aC h0 hp) (hds:bM ops 0=ds)
  (h:DS P n w0 mu ops.toArray ds l h0 hp t0 (fun aF=>(((aP ops.toArray m).bind (look l)).isNone=true∨lk aF m=(aP ops.toArray m).bind (look l))∧fB P n w0 mu ops.toArray ds l h0 aF (fun aK hc=>Ops P n w0 mu ops.toArray (ops.drop k) (aX ds (aK++aF)++l) hc Q) C [] hp) S []):kZ P n w0 mu ops.toArray l hp Q:=by
 intro a w hk hG
 simp only [yL,Bool.and_eq_true] at hB
 obtain ⟨⟨⟨⟨⟨hd,hback⟩,oM⟩,dO⟩,fM⟩,pV⟩:=hB
 simp only [nC,Bool.and_eq_true,decide_eq_true_eq] at oM
 obtain ⟨⟨hnd,hlt⟩,hcov⟩:=oM
 have hlt':∀ i∈S++C,i<k:=fun i hi=>by have:=List.all_eq_true.1 hlt i hi;simpa using this
 rw [List.nodup_append] at hnd
 obtain ⟨vV,yM,YK⟩:=hnd
 obtain ⟨aF,⟨hfm,hX⟩,FX,nJ,hsS⟩:=Ec S [] vV (fun _ _=>rfl) (fun _ _ h=>by cases h) h (fun i v hv=>by cases hv)
 simp only [lk,reduceCtorEq,exists_false,or_false] at nJ
 have hks:k≤ops.toArray.size:=by
  simp only [oL,Bool.or_eq_true,Bool.and_eq_true,decide_eq_true_eq] at fM
  rcases fM with h | h<;>omega
 have jP:∀ i d,lk ds i=some d→aP ops.toArray i=some d:=fun i d h=>by rw [← hds] at h;have:=(iZ ops 0 i d h).2;simpa [aP] using this
 have inv0:HeadInv .any ops.toArray k (Array.replicate ops.toArray.size false):=
  ⟨by simp,fun j oj _ hl=>au5,fun t _ ht=>getD_in ax3 (getD_replicate_false _ _)⟩
 have zn:∀ i,i<k→(Array.replicate ops.toArray.size false).getD i true=false:=fun i hi=>getD_in ax4 (getD_replicate_false _ _)
 have hleft:leftOf k (Array.replicate ops.toArray.size false)=k:=by
  unfold leftOf
  rw [List.filter_eq_self.2]
  ·simp
  ·intro i hi
   simp only [zn i aw',Bool.not_false]
 have VO:∀ i d u,i<k→aP ops.toArray i=some d→look l d=some u→lk aF i=some u:=fun i d u hi hdi hu=>by
  by_cases him:i=m
  ·subst him
   rw [hdi] at hfm
   rcases hfm with h1 | h1
   ·simp only [Option.bind_some,hu,Option.isNone_some,Bool.false_eq_true] at h1
   ·rw [h1];exact hu
  ·have h1:=vU (d:=d) _ hf (List.mem_map.2 ⟨i,List.mem_range.2 hi,by
    have:Nat.beq i m=false:=by
     cases hb:Nat.beq i m with
     | false=>rfl
     | true=>exact absurd (Nat.eq_of_beq_eq_true hb) him
    rw [this];exact hdi⟩)
   rw [h1] at hu;cases hu
 have key:=Ju jP (P:=P) (n:=n) (w0:=w0) (mu:=mu) (l:=l) (hp:=hp) (h0:=h0) (all:=ops.toArray) (aF:=aF) (k:=k) (t0:=t0) (g:=ops.toArray.size - k) (Q':=QQ n w0 mu Q) (X:=fun aK hc=>Ops P n w0 mu ops.toArray (ops.drop k) (aX ds (aK++aF)++l) hc Q) hks hd VO hback hle0
  (fun i hi hdn=>by
   have:=List.all_eq_true.1 pV i (List.mem_range.2 hi)
   rw [hdn] at this
   simp only [Option.isSome_none,Bool.false_or,Bool.or_eq_true] at this
   rcases this with h | h
   ·exact .inl (Nat.eq_of_beq_eq_true h)
   ·exact .inr h)
  (fun i v hv=>⟨hlt' i (List.mem_append_left _ ((nJ i).1 ⟨v,hv⟩)),hsS i v hv⟩)
  (fun aK h listed inv hall hX a w hmid hEk=>by
   have lZ:Knows n (aX ds (aK++aF)++l) a:=by
    refine ⟨hmid.size,hmid.defers,fun t v ht=>?_⟩
    rcases dS ht with ht | ⟨_,ht⟩
    ·obtain ⟨j,h1,h2⟩:=gX (fV ht)
     rcases List.mem_append.1 h1 with h1 | h1
     ·exact (hmid.jV j v h1).2 t (jP _ _ h2)
     ·have hj:=FX j v h1
      have hjk:=hlt' j (List.mem_append_left _ ((nJ j).1 ⟨v,hj⟩))
      refine hmid.nO j v hj ?_ t (jP _ _ h2)
      have h5:=hall j hjk
      cases hcc:listed.getD j false with
      | true=>rfl
      | false=>rw [getD_in au6 hcc] at h5;cases h5
    ·exact hmid.has t v ht
   have hfin:=hX a w lZ hmid.good
   simp only [oL,Bool.or_eq_true,Bool.and_eq_true,decide_eq_true_eq] at fM
   rcases fM with Ak | ⟨⟨⟨qQ,hs⟩,hc⟩,hseq⟩
   ·have e0:ops.drop k=[]:=List.drop_eq_nil_of_le (by simp at Ak;omega)
    rw [e0] at hfin
    rw [show ops.toArray.size - k=0 by omega]
    refine ⟨?_,hfin⟩
    rw [List.eq_nil_iff_forall_not_mem]
    intro i hi
    obtain ⟨hun,o,ho,_⟩:=mem_ready.1 hi
    have hi':i<k:=by rw [Ak];exact (Array.getElem?_eq_some_iff.1 ho).1
    rw [hall i hi'] at hun;cases hun
   ·have hl:listed=(Array.replicate k true)++(Array.replicate (ops.toArray.size - k) false):=by
     apply Array.ext
     ·simp [inv.size];simp at qQ;omega
     ·intro i h1 h2
      by_cases hi:i<k
      ·have:=hall i hi
       simp [h1] at this
       rw [Array.getElem_append_left aw']
       simpa using this
      ·have h3:=inv.tail i at7 aw9
       simp [h1] at h3
       rw [Array.getElem_append_right au']
       simpa using h3
    have hdl:(ops.drop k).length=ops.toArray.size - k:=by simp
    rw [← hdl]
    exact wpAny_of_seq (ops.drop k) k listed a w (fun j=>by simp) ax5 hfin)
  (fun listed inv i hi hun t ht=>by
   simp only [oL,Bool.or_eq_true,Bool.and_eq_true,decide_eq_true_eq] at fM
   rcases fM with h | ⟨⟨⟨qQ,hs⟩,hc⟩,hseq⟩
   ·intro hr
    obtain ⟨_,o,ho,_⟩:=mem_ready.1 hr
    have:=(Array.getElem?_eq_some_iff.1 ho).1
    omega
   ·exact tail_waits hs hc qQ inv _ i rfl hi hun t ht)
  k C [] hp _ a { w with drawn:=w.drawn + 1 } hleft inv0 ⟨hk.size,hk.defers,hk.has,hG.drawn _,fun i v _ hl=>au5,fun i v hv=>by cases hv⟩ (fun i v hv=>by cases hv)
  (fun i hi=>⟨hlt' i (List.mem_append_right _ hi),zn i (hlt' i (List.mem_append_right _ hi)),by
   cases hv:lk aF i with
   | none=>rfl
   | some v=>exact absurd rfl (YK i ((nJ i).1 ⟨v,hv⟩) i hi)⟩) yM dO
  (fun i hi _=>by
   have:=bT (List.all_eq_true.1 hcov i (List.mem_range.2 hi))
   rcases List.mem_append.1 this with h | h
   ·exact .inl ((nJ i).2 h)
   ·exact .inr h) hle0 (fun _=>aC.refl _) hX
 have e:k + (ops.toArray.size - k)=ops.toArray.size:=by omega
 rw [e] at key
 exact key
end
section
variable {n : Nat} {w0 : World} {mu : List Nat} {l lf : Fm} {h0 hp hc : Hp} {Q : Exit → Fm → Hp → Prop} {all : Array Oper} {aF iv aK : Fm} {k t0 i d : Nat} {ds : List (Nat × Nat)} {S r : List Nat} {X : Fm → Prop} {Y : Fm → Hp → Prop} {op : Op} {ty : TypeId} {pos : String} {af : Array Edge} {v : Value}
theorem XI {id:Nat} {ops tl:List Oper} (k t0 m:Nat) (S C:List Nat) (h0:Hp) (h:DS Tryz.prog n w0 mu ops.toArray ds l h0 hp t0 (fun aF=>(((aP ops.toArray m).bind (look l)).isNone=true∨lk aF m=(aP ops.toArray m).bind (look l))∧fB Tryz.prog n w0 mu ops.toArray ds l h0 aF (fun aK hc=>Ops Tryz.prog n w0 mu ops.toArray tl (aX ds (aK++aF)++l) hc Q) C [] hp) S [])
  (hle0:aC h0 hp:=by (exact ak)) (hds:bM ops 0=ds:=by (simp only [bM,Nat.reduceAdd,Nat.zero_add];rfl)) (htl:ops.drop k=tl:=by (simp only [List.drop_succ_cons,List.drop_zero,List.drop_nil];rfl)) (hm:Tryz.prog.follows .mixedOrders=true:=by kernel_rfl) (hB:yL ops.toArray n k t0 S C=true:=by decide +kernel) (hf:bg l ((List.range k).map fun i=>bif Nat.beq i m then none else aP ops.toArray i)=true:=by rfl):St Tryz.prog n w0 mu (.region id ops.toArray true) l hp Q:=
 qP hm (Ny k t0 m S C h0 hB hf hle0 hds ay7)
end
end
section
attribute [local irreducible] Hy St Ops DH gq iK iD fQ DS fB kz
theorem G9 {fn:Func} {R:Value→Hp→Prop} {l:Fm} {hp:Hp} {s0 s2 s3 a t b a2 t2 b2:Nat} {cs cs2:Array Value} {tb tb2:TypeId} {v v2 v3:Value} (h:R (.tuple #[v,.agg cs,.agg cs2,v2,v3]) hp) (hr:fn.results=#[.tmp s0,.cell a t,.cell a2 t2,.tmp s2,.tmp s3]:=by rfl) (h0:look l s0=some v:=by rfl) (hv:look l a=some (.pointer (some ⟨b,0,none⟩)):=by rfl) (hw:look l a2=some (.pointer (some ⟨b2,0,none⟩)):=by rfl) (h3:look l s2=some v2:=by rfl) (h4:look l s3=some v3:=by rfl) (hag:mem Tb.ag t=true:=by rfl) (hm:(⟨b,cs,tb⟩:aH)∈hp:=by (first | (with_reducible apply mh) | (focus ((repeat (first | (with_reducible apply mh) | (with_reducible apply mt) | (with_reducible apply List.mem_append_right)));done)))) (hz:lk Tb.sz t=some cs.size:=by rfl) (wo:mem Tb.ag t2=true:=by rfl) (hm2:(⟨b2,cs2,tb2⟩:aH)∈hp:=by (first | (with_reducible apply mh) | (focus ((repeat (first | (with_reducible apply mh) | (with_reducible apply mt) | (with_reducible apply List.mem_append_right)));done)))) (hz2:lk Tb.sz t2=some cs2.size:=by rfl):Fin Tryz.prog fn R .ret l hp:=
 ⟨.inl rfl,[v,.agg cs,.agg cs2,v2,v3],by rw [hr];exact ⟨h0,⟨⟨b,cs,tb⟩,hm,hv,.inr ⟨ay.zq hag,ay.sV hz,rfl⟩⟩,⟨⟨b2,cs2,tb2⟩,hm2,hw,.inr ⟨ay.zq wo,ay.sV hz2,rfl⟩⟩,h3,h4,trivial⟩,h⟩
theorem UI (ws:List Nat) (hw:uy ws) (hwl:ws.length<1000000) (cap:Nat) (hcc:ws.length≤cap) {p:Option Addr} {w:World} (es:List bf) (ds:List dh) (pk:BJ) (one two:eu) (page acc:Int) {ev dv:Value} (hm:aB w (.slice p ws.length cap) 1 (ws.map uV)) (he:aB w ev 14 (es.map bG)) (hd:aB w dv 4 (ds.map dG)) (hcap:∃ q c,ev=.slice q es.length c∧es.length≤c) (hel:es.length<1000000) (hdl:ds.length<1000000):
  Fn Tryz.prog 106 [.agg #[.slice p ws.length cap],.agg #[ev,dv],.agg (iI one).toArray,.agg (iI two).toArray,.int .i64 page,.int .i64 acc,.agg (l7 pk).toArray].toArray w [] (fun u hn=>(wB ws.length es ds one two page acc=true→∃ (ev' rQ rv':Value) (he' hd' hr':Hp),u=.tuple #[.int .i64 (nR ⟨ws,one,two,pk,page.toNat,acc⟩ es).n,xQ (nR ⟨ws,one,two,pk,page.toNat,acc⟩ es).f,.agg #[ev',rQ],rv',.int .i64 0]∧Own 114 14 ev' he' ((nR ⟨ws,one,two,pk,page.toNat,acc⟩ es).s.es.map bG)∧Own 121 4 rQ hd' (ds.map dG)∧Own 3 1 rv' hr' ((nR ⟨ws,one,two,pk,page.toNat,acc⟩ es).s.rd.map dN)∧aC (he'++hd'++hr') hn)∧(wB ws.length es ds one two page acc=false→u=.tuple #[.int .i64 0,xQ jO,.agg #[.slice none 0 0,.slice none 0 0],.slice none 0 0,.int .i64 1])):=by
 obtain ⟨qe,ce,rfl,hlc⟩:=hcap
 obtain ⟨qd,cd,rfl,_⟩:=hd.opened
 refine enter Tryz.func106 ?_
 refine GH ?_
 intro B1 B2 B3 B4 B5 B6 B7
 refine Es #[.slice p ws.length cap,.slice qe es.length ce,.slice qd ds.length cd,.int .i64 pk.cpu,.bool pk.fill,.bool pk.aN,.bool pk.walk,.int .i64 pk.drop,.bool pk.use,.bool one.on,.int .i64 one.frame,.int .i64 one.tag,.bool two.on,.int .i64 two.frame,.int .i64 two.tag,.int .i64 page,.int .i64 acc,.slice none 0 0] ?_
 refine run ?_
 intro Wb
 refine dH [⟨Wb,#[.slice p ws.length cap,.slice qe es.length ce,.slice qd ds.length cd,.int .i64 pk.cpu,.bool pk.fill,.bool pk.aN,.bool pk.walk,.int .i64 pk.drop,.bool pk.use,.bool one.on,.int .i64 one.frame,.int .i64 one.tag,.bool two.on,.int .i64 two.frame,.int .i64 two.tag,.int .i64 page,.int .i64 acc,.slice none 0 0],194⟩] (⟨B7,#[.slice none 0 0,.slice none 0 0],77⟩::⟨B6,#[.int .i64 0,.int .i64 0,.int .i64 0,.bool false,.int .i64 0],43⟩::⟨B5,(l7 pk).toArray,51⟩::⟨B4,(iI two).toArray,33⟩::⟨B3,(iI one).toArray,33⟩::⟨B2,#[.slice qe es.length ce,.slice qd ds.length cd],77⟩::⟨B1,#[.slice p ws.length cap],24⟩::[]) (fun wc hG=>UH ws hwl cap hcc es ds pk one two page acc ((dK.old he).into hG) ((dK.old hd).into hG) ⟨_,_,rfl,hlc⟩ hel hG.dD) ?_ au
 rintro _ hn1 ⟨rfl,hle1⟩
 refine aI (⟨Wb,#[.slice p ws.length cap,.slice qe es.length ce,.slice qd ds.length cd,.int .i64 pk.cpu,.bool pk.fill,.bool pk.aN,.bool pk.walk,.int .i64 pk.drop,.bool pk.use,.bool one.on,.int .i64 one.frame,.int .i64 one.tag,.bool two.on,.int .i64 two.frame,.int .i64 two.tag,.int .i64 page,.int .i64 acc,.slice none 0 0],194⟩::⟨B7,#[.slice none 0 0,.slice none 0 0],77⟩::⟨B6,#[.int .i64 0,.int .i64 0,.int .i64 0,.bool false,.int .i64 0],43⟩::⟨B5,(l7 pk).toArray,51⟩::⟨B4,(iI two).toArray,33⟩::⟨B3,(iI one).toArray,33⟩::⟨B2,#[.slice qe es.length ce,.slice qd ds.length cd],77⟩::⟨B1,#[.slice p ws.length cap],24⟩::[]) (cnt1 hle1) ?_
 refine run ?_
 refine aj _ rfl (fun hc=>?_) (fun hc=>?_)
 ·have hf:wB ws.length es ds one two page acc=false:=by simpa using hc
  rw [hf]
  refine run ?_
  refine gZ 14 ?_
  refine gZ 17 ?_
  refine gZ 18 ?_
  refine dI 7 3 [0,1,2] [3,4,5,6] (⟨Wb,#[.slice p ws.length cap,.slice qe es.length ce,.slice qd ds.length cd,.int .i64 pk.cpu,.bool pk.fill,.bool pk.aN,.bool pk.walk,.int .i64 pk.drop,.bool pk.use,.bool one.on,.int .i64 one.frame,.int .i64 one.tag,.bool two.on,.int .i64 two.frame,.int .i64 two.tag,.int .i64 page,.int .i64 acc,.slice none 0 0],194⟩::⟨B7,#[.slice none 0 0,.slice none 0 0],77⟩::⟨B6,#[.int .i64 0,.int .i64 0,.int .i64 0,.bool false,.int .i64 0],43⟩::⟨B5,(l7 pk).toArray,51⟩::⟨B4,(iI two).toArray,33⟩::⟨B3,(iI one).toArray,33⟩::⟨B2,#[.slice qe es.length ce,.slice qd ds.length cd],77⟩::⟨B1,#[.slice p ws.length cap],24⟩::[]) ?_
  refine bY ?_
  refine cSame ?_
  refine cSame ?_
  refine sH (fun hx=>eP rfl) ?_
  refine sH (fun hx=>eP rfl) ?_
  refine aG ?_
  refine cO ?_
  refine run ?_
  exact G9 (v:=.int .i64 0) (v2:=.slice none 0 0) (v3:=.int .i64 1) (cs:=#[.int .i64 0,.int .i64 0,.int .i64 0,.bool false,.int .i64 0]) (cs2:=#[.slice none 0 0,.slice none 0 0]) ⟨fun h=>(by cases h),fun _=>rfl⟩
 have hf:wB ws.length es ds one two page acc=true:=by simpa using hc
 have hpg:PtD.bV page 0 4095=true:=by
  simp only [wB,Bool.and_eq_true] at hf
  exact hf.1.1.2
 have hac:PtD.bV acc 0 2=true:=by
  simp only [wB,Bool.and_eq_true] at hf
  exact hf.1.2
 obtain ⟨c,hws,hone,ag0,hpk,Zx,hacc⟩:∃ c:kU,ws=c.ws∧one=c.one∧two=c.two∧pk=c.pk∧page=(c.page:Int)∧acc=c.acc:=⟨⟨ws,one,two,pk,page.toNat,acc⟩,rfl,rfl,rfl,rfl,by simp only [PtD.bV,Bool.and_eq_true,decide_eq_true_eq] at hpg;dsimp only;omega,rfl⟩
 subst hws hone ag0 hpk Zx hacc
 obtain ⟨hk,hE,_,_⟩:=Ut hw hf
 rw [hf,Int.toNat_natCast]
 have hco:(⟨c.ws,c.one,c.two,c.pk,c.page,c.acc⟩:kU)=c:=rfl
 rw [hco]
 refine run ?_
 refine gY (fun wc hG=>oG es ds _ _ ((dK.old he).good hG) ((dK.old hd).good hG) hel hdl) ?_
 rintro _ hn2 ⟨v1,h1,v2,h2,rfl,hA1,hA2,hle2⟩
 obtain ⟨q1,c1,e1⟩:=hA1.opened
 obtain ⟨q2,c2,e2⟩:=hA2.opened
 rw [List.length_map] at e1 e2
 subst e1 e2
 refine aI (⟨Wb,#[.slice p c.ws.length cap,.slice qe es.length ce,.slice qd ds.length cd,.int .i64 c.pk.cpu,.bool c.pk.fill,.bool c.pk.aN,.bool c.pk.walk,.int .i64 c.pk.drop,.bool c.pk.use,.bool c.one.on,.int .i64 c.one.frame,.int .i64 c.one.tag,.bool c.two.on,.int .i64 c.two.frame,.int .i64 c.two.tag,.int .i64 (c.page:Int),.int .i64 c.acc,.slice none 0 0],194⟩::((h1++h2)++⟨B7,#[.slice none 0 0,.slice none 0 0],77⟩::⟨B6,#[.int .i64 0,.int .i64 0,.int .i64 0,.bool false,.int .i64 0],43⟩::⟨B5,(l7 c.pk).toArray,51⟩::⟨B4,(iI c.two).toArray,33⟩::⟨B3,(iI c.one).toArray,33⟩::⟨B2,#[.slice qe es.length ce,.slice qd ds.length cd],77⟩::⟨B1,#[.slice p c.ws.length cap],24⟩::[])) (cnt1 hle2) ?_
 refine run ?_
 refine gY (fun wc hG=>UG ((dK.old he).good hG) ((dK.old hd).good hG) ⟨_,_,rfl,hlc⟩ hE.vg c.pk.drop) ?_
 rintro _ hn3 ⟨v3,h3,v4,h4,rfl,hD1,hD2,hle3⟩
 have hE':=zO hE c.pk.drop
 have hAc:nR c es=lS c (kK es c.pk.drop):=rfl
 rw [hAc]
 obtain ⟨DB,hDB⟩:∃ DB,DB=(decide (0≤c.pk.drop) && decide (c.pk.drop<(es.length:Int))):=⟨_,rfl⟩
 rw [← hDB] at hD1 hD2
 obtain ⟨q3,n3,c3,q4,n4,c4,e3,e4⟩:∃ q3 n3 c3 q4 n4 c4,v3=.slice q3 n3 c3∧v4=.slice q4 n4 c4:=by
  cases DB with
  | true=>
   obtain ⟨g1,g2⟩:=hD1 rfl
   obtain ⟨q3,c3,e3⟩:=g1.opened
   obtain ⟨q4,c4,e4⟩:=g2.opened
   exact ⟨_,_,_,_,_,_,e3,e4⟩
  | false=>
   obtain ⟨e3,e4⟩:=hD2 rfl
   exact ⟨_,_,_,_,_,_,e3,e4⟩
 subst e3 e4
 refine aI (⟨Wb,#[.slice p c.ws.length cap,.slice q1 es.length c1,.slice q2 ds.length c2,.int .i64 c.pk.cpu,.bool c.pk.fill,.bool c.pk.aN,.bool c.pk.walk,.int .i64 c.pk.drop,.bool c.pk.use,.bool c.one.on,.int .i64 c.one.frame,.int .i64 c.one.tag,.bool c.two.on,.int .i64 c.two.frame,.int .i64 c.two.tag,.int .i64 (c.page:Int),.int .i64 c.acc,.slice none 0 0],194⟩::((h3++h4)++((h1++h2)++⟨B7,#[.slice none 0 0,.slice none 0 0],77⟩::⟨B6,#[.int .i64 0,.int .i64 0,.int .i64 0,.bool false,.int .i64 0],43⟩::⟨B5,(l7 c.pk).toArray,51⟩::⟨B4,(iI c.two).toArray,33⟩::⟨B3,(iI c.one).toArray,33⟩::⟨B2,#[.slice qe es.length ce,.slice qd ds.length cd],77⟩::⟨B1,#[.slice p c.ws.length cap],24⟩::[]))) (cnt1 hle3) ?_
 rw [← hDB]
 refine run ?_
 intro Y
 refine dW (σ:=Value × Value × Hp × Hp) (fun _=>[]) (fun z=>⟨Wb,#[.slice p c.ws.length cap,z.1,z.2.1,.int .i64 c.pk.cpu,.bool c.pk.fill,.bool c.pk.aN,.bool c.pk.walk,.int .i64 c.pk.drop,.bool c.pk.use,.bool c.one.on,.int .i64 c.one.frame,.int .i64 c.one.tag,.bool c.two.on,.int .i64 c.two.frame,.int .i64 c.two.tag,.int .i64 (c.page:Int),.int .i64 c.acc,.slice none 0 0],194⟩::((z.2.2.1++z.2.2.2)++⟨B7,#[.slice none 0 0,.slice none 0 0],77⟩::⟨B6,#[.int .i64 0,.int .i64 0,.int .i64 0,.bool false,.int .i64 0],43⟩::⟨B5,(l7 c.pk).toArray,51⟩::⟨B4,(iI c.two).toArray,33⟩::⟨B3,(iI c.one).toArray,33⟩::⟨B2,#[.slice qe es.length ce,.slice qd ds.length cd],77⟩::⟨B1,#[.slice p c.ws.length cap],24⟩::[])) (fun z=>Own 114 14 z.1 z.2.2.1 ((kK es c.pk.drop).map bG)∧Own 121 4 z.2.1 z.2.2.2 (ds.map dG)) ?_ ?_
 ·refine aj _ rfl (fun hc3=>?_) (fun hc3=>?_)
  ·have hDt:DB=true:=by cases DB with
    | true=>rfl
    | false=>simp at hc3
   obtain ⟨g1,g2⟩:=hD1 hDt
   refine run ?_
   exact dA (.slice q3 n3 c3,.slice q4 n4 c4,h3,h4) ⟨g1,g2⟩ (h2:=by (exact ak))
  ·have hDf:DB=false:=by cases DB with
    | true=>simp at hc3
    | false=>rfl
   have hdr:kK es c.pk.drop=es:=by unfold kK;rw [← hDB,hDf];rfl
   refine run ?_
   exact dA (.slice q1 es.length c1,.slice q2 ds.length c2,h1,h2) ⟨by rw [hdr];exact hA1,hA2⟩ (h2:=by (exact ak))
 rintro ⟨ev1,oU,he1,hd1⟩ ⟨g1,g2⟩
 dsimp only at g1 g2 ⊢
 refine run ?_
 refine dH (⟨Wb,#[.slice p c.ws.length cap,ev1,oU,.int .i64 c.pk.cpu,.bool c.pk.fill,.bool c.pk.aN,.bool c.pk.walk,.int .i64 c.pk.drop,.bool c.pk.use,.bool c.one.on,.int .i64 c.one.frame,.int .i64 c.one.tag,.bool c.two.on,.int .i64 c.two.frame,.int .i64 c.two.tag,.int .i64 (c.page:Int),.int .i64 c.acc,.slice none 0 0],194⟩::(he1++hd1++[])) (⟨B7,#[.slice none 0 0,.slice none 0 0],77⟩::⟨B6,#[.int .i64 0,.int .i64 0,.int .i64 0,.bool false,.int .i64 0],43⟩::⟨B5,(l7 c.pk).toArray,51⟩::⟨B4,(iI c.two).toArray,33⟩::⟨B3,(iI c.one).toArray,33⟩::⟨B2,#[.slice qe es.length ce,.slice qd ds.length cd],77⟩::⟨B1,#[.slice p c.ws.length cap],24⟩::[]) (fun wc hG=>Nw c hk cap hcc (kK es c.pk.drop) ds hE' hac ((dK.old hm).into hG) g1 g2 (Own.nil _ _) hG.dD) ?_ au
 rintro u5 RI ⟨wG,yR,EO,he2,hd2,hr2,rfl,h12,h22,h32,wz⟩
 simp only [vw] at wz
 generalize lS c (kK es c.pk.drop)=X at h12 h32 ⊢
 obtain ⟨q5,c5,e5⟩:=h12.opened
 obtain ⟨q6,c6,e6⟩:=h22.opened
 obtain ⟨q7,c7,e7⟩:=h32.opened
 rw [List.length_map] at e5 e6 e7
 subst e5 e6 e7
 refine aI (⟨Wb,#[.slice p c.ws.length cap,.slice q5 X.s.es.length c5,.slice q6 ds.length c6,.int .i64 c.pk.cpu,.bool c.pk.fill,.bool c.pk.aN,.bool c.pk.walk,.int .i64 c.pk.drop,.bool c.pk.use,.bool c.one.on,.int .i64 c.one.frame,.int .i64 c.one.tag,.bool c.two.on,.int .i64 c.two.frame,.int .i64 c.two.tag,.int .i64 (c.page:Int),.int .i64 c.acc,.slice q7 X.s.rd.length c7],194⟩::⟨B7,#[.slice none 0 0,.slice none 0 0],77⟩::⟨B6,#[.int .i64 0,.int .i64 0,.int .i64 0,.bool false,.int .i64 0],43⟩::⟨B5,(l7 c.pk).toArray,51⟩::⟨B4,(iI c.two).toArray,33⟩::⟨B3,(iI c.one).toArray,33⟩::⟨B2,#[.slice qe es.length ce,.slice qd ds.length cd],77⟩::⟨B1,#[.slice p c.ws.length cap],24⟩::(he2++hd2++hr2)) (cnt1 wz) ?_
 refine run ?_
 refine gZ 17 ?_
 refine gZ 18 ?_
 refine XI 15 11 10 [0,1,2,3,4,5,6,7,8,9,10] [11,12,13,14] (⟨B6,#[.int .i64 X.f.kind,.int .i64 X.f.stage,.int .i64 X.f.level,.bool X.f.walk,.int .i64 X.f.page],43⟩::⟨Wb,#[.slice p c.ws.length cap,.slice q5 X.s.es.length c5,.slice q6 ds.length c6,.int .i64 c.pk.cpu,.bool c.pk.fill,.bool c.pk.aN,.bool c.pk.walk,.int .i64 c.pk.drop,.bool c.pk.use,.bool c.one.on,.int .i64 c.one.frame,.int .i64 c.one.tag,.bool c.two.on,.int .i64 c.two.frame,.int .i64 c.two.tag,.int .i64 (c.page:Int),.int .i64 c.acc,.slice q7 X.s.rd.length c7],194⟩::⟨B5,(l7 c.pk).toArray,51⟩::⟨B4,(iI c.two).toArray,33⟩::⟨B3,(iI c.one).toArray,33⟩::⟨B2,#[.slice qe es.length ce,.slice qd ds.length cd],77⟩::⟨B1,#[.slice p c.ws.length cap],24⟩::(he2++hd2++hr2)) ?_
 refine bY ?_
 refine ⟨.inr rfl,?_⟩
 refine cSame (b:=B6) (tb:=43) (cs:=#[.int .i64 X.f.kind,.int .i64 X.f.stage,.int .i64 X.f.level,.bool X.f.walk,.int .i64 X.f.page]) ?_
 refine aU (b:=B7) (tb:=77) (cs:=#[.slice none 0 0,.slice none 0 0]) (cs':=#[.slice q5 X.s.es.length c5,.slice q6 ds.length c6]) (hp':=⟨B6,#[.int .i64 X.f.kind,.int .i64 X.f.stage,.int .i64 X.f.level,.bool X.f.walk,.int .i64 X.f.page],43⟩::⟨Wb,#[.slice p c.ws.length cap,.slice q5 X.s.es.length c5,.slice q6 ds.length c6,.int .i64 c.pk.cpu,.bool c.pk.fill,.bool c.pk.aN,.bool c.pk.walk,.int .i64 c.pk.drop,.bool c.pk.use,.bool c.one.on,.int .i64 c.one.frame,.int .i64 c.one.tag,.bool c.two.on,.int .i64 c.two.frame,.int .i64 c.two.tag,.int .i64 (c.page:Int),.int .i64 c.acc,.slice q7 X.s.rd.length c7],194⟩::⟨B5,(l7 c.pk).toArray,51⟩::⟨B4,(iI c.two).toArray,33⟩::⟨B3,(iI c.one).toArray,33⟩::⟨B2,#[.slice qe es.length ce,.slice qd ds.length cd],77⟩::⟨B1,#[.slice p c.ws.length cap],24⟩::(he2++hd2++hr2)) ?_ au
 refine sH (fun hx=>eP rfl) ?_
 refine sH (fun hx=>eP rfl) ?_
 refine aG ?_
 refine cO ?_
 refine run ?_
 exact G9 (v:=.int .i64 X.n) (v2:=.slice q7 X.s.rd.length c7) (v3:=.int .i64 0) (cs:=#[.int .i64 X.f.kind,.int .i64 X.f.stage,.int .i64 X.f.level,.bool X.f.walk,.int .i64 X.f.page]) (cs2:=#[.slice q5 X.s.es.length c5,.slice q6 ds.length c6]) ⟨fun _=>⟨_,_,_,he2,hd2,hr2,rfl,h12,h22,h32,by (exact ak)⟩,fun h=>by cases h⟩
def jf (ws:List Nat) (at_ size:Nat):Nat:=aS (ws.getD (at_ / 8) default) (at_ % 8 * 8) (8 * size)
def Zy (w sh size v:Nat):Nat:=(w &&& (18446744073709551615 - (ig (8 * size) <<< sh) % 18446744073709551616)) ||| (((v &&& ig (8 * size)) <<< sh) % 18446744073709551616)
def gG (ws:List Nat) (at_ size v:Nat):List Nat:=ws.set (at_ / 8) (Zy (ws.getD (at_ / 8) default) (at_ % 8 * 8) size v)
structure xZ (ws:List Nat) (at_ size:Nat):Prop where
 ok:uy ws
 le:ws.length≤512
 fr:ws.length % 8=0
 lt:at_<8 * ws.length
 sz:size=1∨size=2∨size=4∨size=8
 al:at_ % size=0
theorem xZ.mem {ws:List Nat} {at_ size:Nat} (h:xZ ws at_ size):dP ws.length=true:=by
 obtain ⟨h1,h2,h3,h4,h5,h6⟩:=h
 unfold dP
 simp
 omega
theorem Jv (size:Nat) (h:size=1∨size=2∨size=4∨size=8) (w:World):Fn Tryz.prog 109 [.int .i64 (size:Nat)].toArray w [] (fun u _=>u=.int .u64 (ig (8 * size):Nat)):=by
 refine enter Tryz.func109 ?_
 refine run ?_
 refine fA au2 (vX rfl rfl 18446744073709551615 (64 - 8 * size) rfl at7 at7) ?_
 refine run ?_
 exact fin1 rfl
theorem Dl (ws:List Nat) (at_ size:Nat) (h:xZ ws at_ size) (p:Option Addr) (cap:Nat) (w:World):Fn Tryz.prog 108 [.agg #[.slice p ws.length cap],.int .i64 (at_:Nat),.int .i64 (size:Nat)].toArray w [] (fun u _=>u=.int .i64 0):=by
 have hk:=h.mem
 obtain ⟨h1,h2,h3,h4,h5,h6⟩:=id h
 refine enter Tryz.func108 ?_
 refine run ?_
 intro B
 refine run ?_
 refine ax (fun wc hG=>I9 ws.length cap at7 p wc) ?_
 rw [hk]
 refine az ?_
 refine aj _ rfl (fun hc=>absurd hc (by rcases h5 with rfl | rfl | rfl | rfl<;>simp)) (fun _=>?_)
 refine az ?_
 refine aj _ rfl (fun hc=>absurd hc au') (fun _=>?_)
 refine az ?_
 refine fA au2 (iG rfl rfl at_ size rfl rfl at7) ?_
 rw [h6]
 refine aW ?_
 exact fin1 rfl
theorem KL (ws:List Nat) (at_ size:Nat) (h:xZ ws at_ size) {w:World} {p:Option Addr} {cap:Nat} (hm:aB w (.slice p ws.length cap) 1 (ws.map uV)):Fn Tryz.prog 70 [.agg #[.slice p ws.length cap],.int .i64 (at_:Nat),.int .i64 (size:Nat)].toArray w [] (fun u _=>u=.tuple #[.int .u64 (jf ws at_ size:Nat),.int .i64 0]):=by
 obtain ⟨h1,h2,h3,h4,h5,h6⟩:=id h
 have hlt:at_ / 8<ws.length:=by omega
 have hv:ws.getD (at_ / 8) default<18446744073709551616:=h1.at _
 obtain ⟨q,c',e,hne,_⟩:=hm.opened
 obtain ⟨b,o,rfl⟩:=hne au4
 cases e
 have hr:=dm (hm.row hlt)
 simp only [uV,Nat.mul_one] at hr
 refine enter Tryz.func70 ?_
 refine run ?_
 intro B
 refine run ?_
 refine ax (fun wc hG=>Dl ws at_ size h _ _ wc) ?_
 refine aW ?_
 refine iT 13 ?_
 refine bW ?_
 refine qf (ny rfl rfl at_ 8 rfl rfl au0 at7) ?_
 refine bW ?_
 refine qf (iG rfl rfl at_ 8 rfl rfl au0) ?_
 refine bW ?_
 refine qf (vX rfl rfl (ws.getD (at_ / 8) default) (at_ % 8 * 8) rfl at7 at7) ?_
 refine bW ?_
 refine jU (fun wc hG=>Jv size h5 wc) ?_
 refine qf (kR rfl rfl (ws.getD (at_ / 8) default >>> (at_ % 8 * 8)) (ig (8 * size)) rfl rfl (Gp hv) (ru _)) ?_
 refine bW ?_
 refine run ?_
 exact fin2 rfl
theorem KN (ws:List Nat) (at_ size:Nat) (h:xZ ws at_ size) {w:World} {p:Option Addr} {cap:Nat} (hm:aB w (.slice p ws.length cap) 1 (ws.map uV)):Fn Tryz.prog 32 [.agg #[.slice p ws.length cap],.int .i64 (at_:Nat),.int .i64 (size:Nat)].toArray w [] (fun u _=>u=.int .u64 (jf ws at_ size:Nat)):=by
 obtain ⟨h1,h2,h3,h4,h5,h6⟩:=id h
 have hlt:at_ / 8<ws.length:=by omega
 have hv:ws.getD (at_ / 8) default<18446744073709551616:=h1.at _
 obtain ⟨q,c',e,hne,_⟩:=hm.opened
 obtain ⟨b,o,rfl⟩:=hne au4
 cases e
 have hr:=dm (hm.row hlt)
 simp only [uV,Nat.mul_one] at hr
 refine enter Tryz.func32 ?_
 refine run ?_
 intro B
 refine run ?_
 refine fA au2 (ny rfl rfl at_ 8 rfl rfl au0 at7) ?_
 refine run ?_
 refine fA au2 (iG rfl rfl at_ 8 rfl rfl au0) ?_
 refine run ?_
 rw [show ((at_ % 8:Nat):Int) * 8=((at_ % 8 * 8:Nat):Int) by omega,show (8:Int) * (size:Int)=((8 * size:Nat):Int) by omega]
 refine ax (fun wc hG=>oO (ws.getD (at_ / 8) default) (at_ % 8 * 8) (8 * size) at7 at7 hv wc) ?_
 refine run ?_
 exact fin1 rfl
theorem Own.Zz {e:Nat} {v:Value} {h:Hp} {xs:List Nat} (hA:Own e 1 v h (xs.map uV)) {k:Nat} (hk:k<xs.length):∃ g cap cur,v=.slice (some ⟨g,0,none⟩) xs.length cap∧h=[⟨g,cur,e⟩]∧nth cur.toList k=some (.int .u64 (xs.getD k default:Nat))∧k + 1≤cur.size ∧
  ∀ z:Nat,Own e 1 (.slice (some ⟨g,0,none⟩) xs.length cap) [⟨g,cur.setIfInBounds k (.int .u64 (z:Int)),e⟩] ((xs.set k z).map uV):=by
 have h0:=hA
 obtain ⟨g,cap,cur,rfl,rfl,hs,hz⟩:=hA.WX hk
 obtain ⟨g',cap',cur',e1,e2,hr⟩:=h0.row (n:=xs.length) au3 at7
 injection e2 with e2
 injection e2 with _ e2
 subst e2
 have hall:∀ c∈xs.map uV,c.length=1:=by
  intro c hc
  obtain ⟨x,_,rfl⟩:=List.mem_map.1 hc
  rfl
 have hi:(xs.map uV)[k]?=some (uV (xs.getD k default)):=by
  rw [List.getElem?_map,List.getD_eq_getElem?_getD,List.getElem?_eq_getElem hk];rfl
 have h1:=hr.nth hall hi (k:=0) rfl
 rw [Nat.mul_one,Nat.add_zero] at h1
 exact ⟨g,cap,cur,rfl,rfl,h1,hs,hz⟩
theorem x8 (xs:List Nat):∀ c∈xs.map uV,c.length=1∧c.all (·.oneCell')=true:=by
 intro c hc
 obtain ⟨x,_,rfl⟩:=List.mem_map.1 hc
 exact ⟨rfl,rfl⟩
theorem Nz (ws:List Nat) (hl:ws.length<1000000) {w:World} {v:Value} (hm:aB w v 1 (ws.map uV)):Fn Tryz.prog 144 [.agg #[v]].toArray w [] (fun u hn=>∃ v' h',u=.agg #[v']∧Own 25 1 v' h' (ws.map uV)∧aC h' hn):=by
 obtain ⟨q,cap,rfl,_⟩:=id hm.opened
 refine enter Tryz.func144 ?_
 refine run ?_
 intro B
 refine run ?_
 intro X
 refine gY (fun wc hG=>rD _ (ws.map uV) (hm.good hG) (x8 ws) (by simpa using hl)) ?_
 intro u hn hO
 obtain ⟨q2,c2,e2⟩:=hO.opened
 subst e2
 refine aI (⟨X,#[.slice none 0 0],152⟩::⟨B,#[.slice q ws.length cap],24⟩::hn) ak ?_
 refine run ?_
 refine gI ?_
 exact ⟨_,hn,rfl,hO,by (exact ak)⟩
theorem XJ (v a n x:Nat) (hn:n≤64) (ha:a≤64) (hv:v<18446744073709551616) (hx:x<18446744073709551616) (w:World):Fn Tryz.prog 94 [.int .u64 (v:Nat),.agg #[.int .i64 (a:Nat),.int .i64 (n:Nat),.int .u64 (x:Nat)]].toArray w [] (fun u _=>u=.int .u64 (((v &&& (18446744073709551615 - (ig n <<< a) % 18446744073709551616)) ||| ((x <<< a) % 18446744073709551616):Nat):Int)):=by
 refine enter Tryz.func94 ?_
 refine run ?_
 intro B
 refine run ?_
 refine iT 14 ?_
 refine bW ?_
 refine jU (fun wc hG=>xG n hn wc) ?_
 refine bW ?_
 refine qf (ni rfl rfl (ig n) a rfl rfl at7) ?_
 refine qf (oz rfl rfl v ((ig n <<< a) % 18446744073709551616) rfl rfl hv (Nat.mod_lt _ au0)) ?_
 refine bW ?_
 refine qf (ni rfl rfl x a rfl rfl at7) ?_
 refine qf (vC rfl rfl (v &&& (18446744073709551615 - (ig n <<< a) % 18446744073709551616)) ((x <<< a) % 18446744073709551616) rfl rfl (Nat.lt_of_le_of_lt Nat.and_le_left hv) (Nat.mod_lt _ au0)) ?_
 refine bW ?_
 refine run ?_
 exact fin1 rfl
theorem QT (ws:List Nat) (at_ size v:Nat) (h:xZ ws at_ size) (hv0:gm v) {w:World} {p:Option Addr} {cap:Nat} (hm:aB w (.slice p ws.length cap) 1 (ws.map uV)):Fn Tryz.prog 115 [.agg #[.slice p ws.length cap],.int .i64 (at_:Nat),.int .i64 (size:Nat),.int .u64 (v:Nat)].toArray w [] (fun u hn=>∃ v' h',u=.tuple #[.agg #[v'],.int .i64 0]∧Own 25 1 v' h' ((gG ws at_ size v).map uV)∧aC h' hn):=by
 obtain ⟨h1,h2,h3,h4,h5,h6⟩:=id h
 have hlt:at_ / 8<ws.length:=by omega
 have hv:ws.getD (at_ / 8) default<18446744073709551616:=h1.at _
 refine enter Tryz.func115 ?_
 refine run ?_
 intro B X
 refine run ?_
 refine ax (fun wc hG=>Dl ws at_ size h _ _ wc) ?_
 refine aW ?_
 refine gY (fun wc hG=>Nz ws at7 (hm.good hG)) ?_
 rintro u hn ⟨v',h',rfl,hO,hle⟩
 obtain ⟨g,cap2,cur,rfl,rfl,qG,hsz,hset⟩:=hO.Zz hlt
 refine aI (⟨g,cur,25⟩::⟨X,#[.slice none 0 0],24⟩::⟨B,#[.slice p ws.length cap],24⟩::[]) (cnt1 hle) ?_
 refine run ?_
 refine fA au2 (iG rfl rfl at_ 8 rfl rfl au0) ?_
 refine run ?_
 intro Y
 refine run ?_
 refine iT 24 ?_
 refine bW ?_
 refine qf (ny rfl rfl at_ 8 rfl rfl au0 at7) ?_
 refine bW ?_
 refine qf (ny rfl rfl at_ 8 rfl rfl au0 at7) ?_
 refine bW ?_
 refine jU (fun wc hG=>Jv size h5 wc) ?_
 refine bW ?_
 refine qf (ni rfl rfl (ig (8 * size)) (at_ % 8 * 8) rfl at7 at7) ?_
 refine qf (oz rfl rfl (ws.getD (at_ / 8) default) ((ig (8 * size) <<< (at_ % 8 * 8)) % 18446744073709551616) rfl rfl hv (Nat.mod_lt _ au0)) ?_
 refine bW ?_
 refine jU (fun wc hG=>Jv size h5 wc) ?_
 refine qf (kR rfl rfl v (ig (8 * size)) rfl rfl hv0 (ru _)) ?_
 refine bW ?_
 refine qf (ni rfl rfl (v &&& ig (8 * size)) (at_ % 8 * 8) rfl at7 at7) ?_
 refine qf (vC rfl rfl (ws.getD (at_ / 8) default &&& (18446744073709551615 - (ig (8 * size) <<< (at_ % 8 * 8)) % 18446744073709551616)) (((v &&& ig (8 * size)) <<< (at_ % 8 * 8)) % 18446744073709551616) rfl rfl (Nat.lt_of_le_of_lt Nat.and_le_left hv) (Nat.mod_lt _ au0)) ?_
 refine bW ?_
 refine run ?_
 refine gy ?_
 exact ⟨_,_,rfl,hset ((ws.getD (at_ / 8) default &&& (18446744073709551615 - (ig (8 * size) <<< (at_ % 8 * 8)) % 18446744073709551616)) ||| (((v &&& ig (8 * size)) <<< (at_ % 8 * 8)) % 18446744073709551616)),by (exact ak)⟩
theorem He (ws:List Nat) (at_ size v:Nat) (h:xZ ws at_ size) (hv0:gm v) {w:World} {p:Option Addr} {cap:Nat} (hm:aB w (.slice p ws.length cap) 1 (ws.map uV)):Fn Tryz.prog 54 [.agg #[.slice p ws.length cap],.int .i64 (at_:Nat),.int .i64 (size:Nat),.int .u64 (v:Nat)].toArray w [] (fun u hn=>∃ v' h',u=.agg #[v']∧Own 25 1 v' h' ((gG ws at_ size v).map uV)∧aC h' hn):=by
 obtain ⟨h1,h2,h3,h4,h5,h6⟩:=id h
 have hlt:at_ / 8<ws.length:=by omega
 have hv:ws.getD (at_ / 8) default<18446744073709551616:=h1.at _
 refine enter Tryz.func54 ?_
 refine run ?_
 intro B X
 refine run ?_
 refine gY (fun wc hG=>uO ws _ (hm.good hG) at7) ?_
 rintro u hn ⟨v',h',rfl,hO,hle⟩
 obtain ⟨g,cap2,cur,rfl,rfl,qG,hsz,hset⟩:=hO.Zz hlt
 refine aI (⟨g,cur,25⟩::⟨X,#[.slice none 0 0],24⟩::⟨B,#[.slice p ws.length cap],24⟩::[]) (cnt1 hle) ?_
 refine run ?_
 intro Y
 refine run ?_
 refine iT 22 ?_
 refine bW ?_
 refine qf (ny rfl rfl at_ 8 rfl rfl au0 at7) ?_
 refine bW ?_
 refine qf (ny rfl rfl at_ 8 rfl rfl au0 at7) ?_
 refine bW ?_
 refine qf (iG rfl rfl at_ 8 rfl rfl au0) ?_
 refine bW ?_
 rw [show (8:Int) * (size:Int)=((8 * size:Nat):Int) by omega]
 refine jU (fun wc hG=>xG (8 * size) at7 wc) ?_
 refine qf (kR rfl rfl v (ig (8 * size)) rfl rfl hv0 (ru _)) ?_
 refine bW ?_
 rw [show ((at_ % 8:Nat):Int) * 8=((at_ % 8 * 8:Nat):Int) by omega]
 refine jU (fun wc hG=>XJ (ws.getD (at_ / 8) default) (at_ % 8 * 8) (8 * size) (v &&& ig (8 * size)) at7 at7 hv (Nat.lt_of_le_of_lt Nat.and_le_left hv0) wc) ?_
 refine bW ?_
 refine run ?_
 refine gI ?_
 exact ⟨_,_,rfl,hset ((ws.getD (at_ / 8) default &&& (18446744073709551615 - (ig (8 * size) <<< (at_ % 8 * 8)) % 18446744073709551616)) ||| (((v &&& ig (8 * size)) <<< (at_ % 8 * 8)) % 18446744073709551616)),by (exact ak)⟩
end
def dZ (es:List bf) (due:List dh):List bf:=xY (fun e=>due.any fun i=>i.takes e) es
def ApR (r:Option (List bf × List dh)) (u:Value) (hn:Hp):Prop:=match r with
 | none=>u=.tuple #[.agg #[.slice none 0 0,.slice none 0 0],.int .i64 1]
 | some x=>∃ v1 h1 v2 h2,u=.tuple #[.agg #[v1,v2],.int .i64 0]∧Own 114 14 v1 h1 (x.1.map bG)∧Own 121 4 v2 h2 (x.2.map dG)∧aC (h1++h2) hn
def rV (es:List bf) (ds due:List dh):Option (List bf × List dh):=bif bJ es ds && due.all dh.may then some (dZ es due,ds) else none
theorem jS {es:List bf} {ds:List dh} (h:bJ es ds=true):(∀ e∈es,e.may=true)∧es.length≤8∧ds.length≤8:=by
 simp only [bJ,Bool.and_eq_true,decide_eq_true_eq] at h
 refine ⟨fun e he=>?_,h.1.2,h.2⟩
 obtain ⟨j,hj,rfl⟩:=List.getElem_of_mem he
 have:=List.all_eq_true.1 h.1.1.1 j (List.mem_range.2 hj)
 simp only [xM,Bool.and_eq_true] at this
 rw [List.getD_eq_getElem?_getD,List.getElem?_eq_getElem hj] at this
 exact this.1
theorem aB.keep {w0 wc w':World} {hp hp2 h1:Hp} {v:Value} {sz:Nat} {xs:List (List Value)} (h:aB w0 v sz xs) (hG:Good w0 [] (h1++hp) wc) (hg:Good wc (h1.map (·.b)) hp2 w'):aB w' v sz xs:=by
 obtain ⟨⟨p,c,rfl,hp⟩,hl⟩:=h
 refine ⟨⟨p,c,rfl,fun hne=>?_⟩,hl⟩
 obtain ⟨b,off,rfl,hr⟩:=hp hne
 refine ⟨b,off,rfl,fun i c hc=>?_⟩
 intro j u hj
 have h3:=hr i c hc j u hj
 refine hg.cell (hG.cell h3 au3) fun hm=>?_
 obtain ⟨e,he,hb⟩:=List.mem_map.1 hm
 have h4:b<w0.heap.size:=block_lt_of_cell h3
 rcases hG.own e (List.mem_append_left _ he) with h5 | h5
 ·simp at h5
 ·rw [hb] at h5;omega
theorem Jw {w0 w:World} {mu:List Nat} {h1 hp:Hp} {e:aH} (hG:Good w0 mu (h1++hp) w) (he:e∈hp):e.b ∉ h1.map (·.b):=by
 have hn:=hG.nodup
 rw [List.map_append,List.nodup_append] at hn
 exact fun hm=>hn.2.2 _ hm _ (List.mem_map.2 ⟨e,he,rfl⟩) rfl
section
attribute [local irreducible] Hy St Ops DH gq iK iD fQ DS fB
theorem QU {w:World} (es:List bf) (ds due:List dh) (v u lv:Value) (h:aB w v 14 (es.map bG)) (hd:aB w u 4 (ds.map dG)) (hcap:∃ q c,v=.slice q es.length c∧es.length≤c) (hl:aB w lv 4 (due.map dG)):
  Fn Tryz.prog 147 [.agg #[v,u],lv].toArray w [] (fun r hn=>ApR (rV es ds due) r hn):=by
 have h':=h
 have hd':=hd
 have hl':=hl
 obtain ⟨q,cap,rfl,_,_⟩:=h.opened
 obtain ⟨q2,cap2,rfl,_,_⟩:=hd.opened
 obtain ⟨q3,cap3,rfl,UJ,_⟩:=hl.opened
 refine enter Tryz.func147 ?_
 refine run ?_
 intro B C R
 refine ax (fun wc hG=>kL es ds _ _ (h'.good hG) (hd'.good hG) hcap) ?_
 cases ht:bJ es ds with
 | false=>
  refine aW ?_
  have hg:rV es ds due=none:=by simp [rV,ht]
  rw [hg]
  refine gy (cs:=#[.slice none 0 0,.slice none 0 0]) ?_
  rfl
 | true=>
 obtain ⟨hmay,h8,h8d⟩:=jS ht
 refine aW ?_
 refine aZ (fun _ wc hG=>Qv due (hl'.good hG)) ?_
 refine aW ?_
 cases hm:due.all dh.may with
 | false=>
  refine aW ?_
  have hg:rV es ds due=none:=by simp [rV,ht,hm]
  rw [hg]
  refine gy (cs:=#[.slice none 0 0,.slice none 0 0]) ?_
  rfl
 | true=>
 have hg:rV es ds due=some (dZ es due,ds):=by simp only [rV,ht,hm];rfl
 rw [hg]
 refine aW ?_
 refine gY (fun wc hG=>oG es ds _ _ (h'.good hG) (hd'.good hG) at7 at7) ?_
 rintro _ hn ⟨v1,h1,v2,h2,rfl,su,hO2,hle⟩
 obtain ⟨p1,c1,e1⟩:=su.opened
 obtain ⟨p2,c2,e2⟩:=hO2.opened
 rw [List.length_map] at e1 e2
 subst e1 e2
 refine En hle ?_
 refine jl (_++(h1++h2)) List.perm_append_comm ?_
 simp only [List.cons_append,List.nil_append]
 refine aW ?_
 intro X
 refine aW ?_
 have ag1:∀ i∈due,i.may=true:=fun i hi=>List.all_eq_true.1 hm i hi
 refine dH (R:=fun u hn=>Own 114 14 u hn ((dZ es due).map bG)) h1 (⟨X,#[.slice p1 es.length c1,.slice p2 ds.length c2],77⟩::⟨R,#[.slice none 0 0,.slice none 0 0],77⟩::⟨C,#[.slice q3 due.length cap3],75⟩::⟨B,#[.slice q es.length cap,.slice q2 ds.length cap2],77⟩::h2) (fun wc hG=>?_) (fun v4 h4 hO4=>?_) au
 ·refine Jq (us:=[.pointer (some ⟨C,0,none⟩)]) (fun e=>due.any fun i=>i.takes e) es su hG.dD at7 (fun x hx w' ha=>?_)
  obtain ⟨hp,hg⟩:=ha
  have hC:(⟨C,#[.slice q3 due.length cap3],75⟩:aH)∈(⟨X,#[.slice p1 es.length c1,.slice p2 ds.length c2],77⟩::⟨R,#[.slice none 0 0,.slice none 0 0],77⟩::⟨C,#[.slice q3 due.length cap3],75⟩::⟨B,#[.slice q es.length cap,.slice q2 ds.length cap2],77⟩::h2:Hp):=by simp
  exact QL due ag1 x (hmay x hx) C (hg.cell (by rw [cell_of_block (hG.here _ (List.mem_append_right _ hC))];rfl) (Jw hG hC)) (hl'.keep hG hg)
 generalize dZ es due=al at hO4
 obtain ⟨p4,c4,e4⟩:=hO4.opened
 rw [List.length_map] at e4
 subst e4
 refine jl (_++h4) List.perm_append_comm ?_
 simp only [List.cons_append,List.nil_append]
 refine aW ?_
 refine qL ay (b:=R) (off:=0) (cs:=#[.slice none 0 0,.slice none 0 0]) (cs':=#[.slice p4 al.length c4,.slice p2 ds.length c2]) (tb:=77) (vs:=[.slice p4 al.length c4,.slice p2 ds.length c2]) (sz:=2) rfl rfl rfl rfl rfl (List.Perm.swap ..) rfl (Nat.le_refl 2) rfl ?_
 refine aW ?_
 refine gy (cs:=#[.slice p4 al.length c4,.slice p2 ds.length c2]) ?_
 exact ⟨_,h4,_,h2,rfl,hO4,hO2,by (exact ak)⟩
end
structure FgS where
 k:Nat
 v:Value
 ha:Hp
 hs:Hp
 ts:List dR
section
attribute [local irreducible] Hy St Ops DH gq iK iD fQ DS fB kz
theorem Jy {w:World} {F:Nat} {us:List Value} (p:dR→Bool) (xs:List (dR)) (v:Value) (h:aB w v 2 (xs.map lq)) (hF:∀ x,x∈xs→∀ w',GN w w'→Fn Tryz.prog F ([]++[Value.agg (lq x).toArray]++us).toArray w' [] (fun u _=>u=.bool (p x))) (dU:mem mM F=true:=by rfl):
  Fn Tryz.prog 98 [v,.func (.func F) [].toArray us.toArray].toArray w [] (fun u _=>u=.int .i64 (fJ p xs)):=by
 obtain ⟨q,cap,rfl,hne,hle⟩:=h.opened
 refine enter Tryz.func98 ?_
 refine run ?_
 refine cu (σ:=Nat) (fun k=>[(8,.int .i64 (k:Int))]) (fun _=>[]) (fun k=>k≤xs.length∧∀ j,j<k→p (xs.getD j default)=false) (fun k=>xs.length - k) 0 ⟨Nat.zero_le _,fun j hj=>absurd hj at7⟩ ?_
 rintro k m rfl ⟨hk,hno⟩
 refine run ?_
 refine aj _ rfl (fun hc=>?_) (fun hc=>?_)
 ·have hlt:k<xs.length:=by simpa using hc
  obtain ⟨b,o,rfl⟩:=hne au4
  have hr:=h.row hlt
  refine run ?_
  refine oK (fun wc hG=>hF (xs.getD k default) (getD_mem hlt) wc ⟨_,hG⟩) (dU:=dU) ?_
  refine run ?_
  refine aj _ rfl (fun hp=>?_) (fun hp=>?_)
  ·refine run ?_
   refine fin1 ?_
   rw [iL hlt hp hno]
  ·refine run ?_
   refine bI (k + 1) ⟨hlt,fun j hj=>?_⟩
   rcases Nat.lt_succ_iff_lt_or_eq.1 hj with hj | rfl
   ·exact hno j hj
   ·exact hp
 ·have hge:k=xs.length:=by simp at hc;omega
  subst hge
  refine run ?_
  refine fin1 ?_
  rw [fK hno]
theorem vN {w:World} {F:Nat} {us:List Value} (p:dR→Bool) (xs:List (dR)) (v:Value) (h:aB w v 2 (xs.map lq)) (hF:∀ x,x∈xs→∀ w',GN w w'→Fn Tryz.prog F ([]++[Value.agg (lq x).toArray]++us).toArray w' [] (fun u _=>u=.bool (p x))) (dU:mem mM F=true:=by rfl):
  Fn Tryz.prog 62 [v,.func (.func F) [].toArray us.toArray].toArray w [] (fun u _=>u=.bool (xs.any p)):=by
 refine enter Tryz.func62 ?_
 refine run ?_
 refine ax (fun wc hG=>Jy p xs v (h.good hG) (fun x hx w' ha=>hF x hx w' ?_) dU) ?_
 ·obtain ⟨hp,hg⟩:=ha
  exact ⟨_,hG.trans hg⟩
 refine run ?_
 refine fin1 ?_
 rw [← xw]
theorem Bd {w:World} (es:List bf) (ds:List dh) (i:dh) (v u:Value) (h:aB w v 14 (es.map bG)) (hd:aB w u 4 (ds.map dG)) (hcap:∃ q c,v=.slice q es.length c∧es.length≤c) (ht:bJ es ds=true) (hi:i.may=true):
  Fn Tryz.prog 117 [.agg #[v,u],.agg (dG i).toArray].toArray w [] (fun r hn=>bif decide (ds.length<8) then ∃ v1 h1 v2 h2,r=.tuple #[.agg #[v1,v2],.int .i64 0]∧Own 114 14 v1 h1 (es.map bG)∧Own 121 4 v2 h2 ((ds++[i]).map dG)∧aC (h1++h2) hn else r=.tuple #[.agg #[.slice none 0 0,.slice none 0 0],.int .i64 5]):=by
 have h':=h
 have hd':=hd
 obtain ⟨q,cap,rfl,_,_⟩:=h.opened
 obtain ⟨q2,cap2,rfl,_,_⟩:=hd.opened
 refine enter Tryz.func117 ?_
 refine run ?_
 intro B C
 refine run ?_
 intro X
 refine ax (fun wc hG=>kL es ds _ _ (h'.good hG) (hd'.good hG) hcap) ?_
 rw [ht]
 refine az ?_
 refine xK ?_ ?_
 rotate_left
 ·decide
 refine az ?_
 intro Y
 refine xK ?_ ?_
 rotate_left
 ·decide
 refine ax (fun wc hG=>Qv [i] ((rC (e:=121) (t:=121) Y 1 (dG i) (xs:=[i].map dG) rfl rfl ay6).lie (fun b hb=>hG.here b ax8) au3)) ?_
 rw [show [i].all dh.may=true by simp [hi]]
 refine aW ?_
 refine aj _ rfl (fun hc=>?_) (fun hc=>?_)
 ·rw [show decide (ds.length<8)=false by simp at hc;exact decide_eq_false at7]
  refine run ?_
  refine gy ?_
  rfl
 ·have hd8:ds.length<8:=by simp at hc;omega
  rw [show decide (ds.length<8)=true from decide_eq_true hd8]
  refine run ?_
  refine gY (fun wc hG=>oG es ds _ _ (h'.good hG) (hd'.good hG) (by have:=(jS ht).2.1;omega) at7) ?_
  rintro r hn ⟨v1,h1,v2,h2,rfl,su,hO2,hle⟩
  obtain ⟨r1,c1,e1⟩:=su.opened
  obtain ⟨r2,c2,e2⟩:=hO2.opened
  rw [List.length_map] at e1 e2
  subst e1 e2
  refine aI (⟨X,#[.slice none 0 0,.slice none 0 0],77⟩::⟨C,(dG i).toArray,121⟩::(h1++h2)) (cnt1 hle) ?_
  refine run ?_
  intro Z U
  refine pG [dG i] (⟨U,#[.int .i64 i.kind,.int .i64 i.jh,.int .i64 i.jW,.int .i64 i.page],121⟩::⟨Z,#[.slice r1 es.length c1,.slice r2 ds.length c2],77⟩::⟨X,#[.slice none 0 0,.slice none 0 0],77⟩::⟨C,(dG i).toArray,121⟩::h1) hO2 (uz.own (rC (e:=121) (t:=121) U 1 [.int .i64 i.kind,.int .i64 i.jh,.int .i64 i.jW,.int .i64 i.page] (xs:=[dG i]) (sz:=4) rfl rfl ay6) ak) (fun v' ha' hA'=>?_) au' ay6 (hperm:=by (exact au))
  obtain ⟨r3,c3,e3⟩:=hA'.opened
  subst e3
  generalize (List.map dG ds++[dG i]).length=L at hA' ⊢
  refine aI (⟨Z,#[.slice r1 es.length c1,.slice r2 ds.length c2],77⟩::⟨X,#[.slice none 0 0,.slice none 0 0],77⟩::(h1++ha')) ak ?_
  refine run ?_
  refine gy ?_
  exact ⟨_,h1,_,ha',rfl,su,by rw [List.map_append];exact hA',by (exact ak)⟩
theorem UK (t:dR) {w:World} (h:aB w t.ev 14 (t.es.map bG)) (hd:aB w t.dv 4 (t.ds.map dG)) (hc:t.es.length≤t.ec):Fn Tryz.prog 146 ([]++[Value.agg (lq t).toArray]++[]).toArray w [] (fun u _=>u=.bool (!bJ t.es t.ds)):=by
 refine enter Tryz.func146 ?_
 refine run ?_
 intro B
 refine run ?_
 refine ax (fun wc hG=>kL t.es t.ds _ _ (h.good hG) (hd.good hG) ⟨_,_,rfl,hc⟩) ?_
 refine run ?_
 refine fin1 ?_
 cases bJ t.es t.ds<;>rfl
def NC (hs:Hp) (t:dR):Prop:=(∀ wc,Here hs wc→aB wc t.ev 14 (t.es.map bG)∧aB wc t.dv 4 (t.ds.map dG))∧t.es.length≤t.ec
def wC (hs:Hp) (ts:List dR):Prop:=∀ t∈ts,NC hs t
abbrev dR.p (t:dR):List bf × List dh:=(t.es,t.ds)
def vO (ls:List (List bf × List dh)) (cpu:Nat):List (List bf × List dh):=
 (ls.map fun t=>(dZ t.1 (ls.getD cpu default).2,t.2)).set cpu (dZ (ls.getD cpu default).1 (ls.getD cpu default).2,[])
theorem Own.ND {α:Type} [Inhabited α] {f:α→List Value} {e sz:Nat} {v:Value} {h:Hp} {xs:List α} (hA:Own e sz v h (xs.map f)) {k:Nat} (hk:k<xs.length):∃ g cap cur,v=.slice (some ⟨g,0,none⟩) xs.length cap∧h=[⟨g,cur,e⟩]∧k * sz + sz≤cur.size ∧
  (∀ (j:Nat) (c:Value),(f (xs.getD k default))[j]?=some c→nth cur.toList (k * sz + j)=some c) ∧
  ∀ (j:Nat) (vs:List Value) (y:α),j + vs.length≤sz→(f (xs.getD k default)).take j++vs++(f (xs.getD k default)).drop (j + vs.length)=f y→(f y).length=sz∧(f y).all (·.oneCell')=true→Own e sz (.slice (some ⟨g,0,none⟩) xs.length cap) [⟨g,putAt cur (k * sz + j) vs,e⟩] ((xs.set k y).map f):=by
 obtain ⟨g,cap,cur,rfl,rfl,hr⟩:=hA.row (n:=xs.length) au3 at7
 have hall:∀ c∈xs.map f,c.length=sz:=fun c hc=>(hA.1 c hc).1
 have hi:(xs.map f)[k]?=some (f (xs.getD k default)):=by
  rw [List.getElem?_map,List.getD_eq_getElem?_getD,List.getElem?_eq_getElem hk];rfl
 have hsz:=hr.size
 have hle:=hr.le
 refine ⟨g,cap,cur,rfl,rfl,?_,fun j c hj=>hr.nth hall hi hj,fun j vs y hj he hy=>⟨fun c hc=>?_,.inr ⟨g,cap,_,by simp,rfl,?_⟩⟩⟩
 ·have h1:k * sz + sz≤xs.length * sz:=by rw [← Nat.succ_mul];exact Nat.mul_le_mul_right _ hk
  have h2:xs.length * sz≤cap * sz:=Nat.mul_le_mul_right _ hle
  omega
 ·obtain ⟨x,hx,rfl⟩:=List.mem_map.1 hc
  rcases List.mem_or_eq_of_mem_set hx with hx | rfl
  ·exact hA.1 _ (List.mem_map.2 ⟨x,hx,rfl⟩)
  ·exact hy
 ·have h2:=hr.put hall hi (k:=j) (vs:=vs) hj
  rw [he] at h2
  have e2:((xs.set k y).map f).length=xs.length:=by simp
  rw [e2,List.map_set]
  exact h2
def EW (t:dR) (he hd:Hp):Prop:=Own 114 14 t.ev he (t.es.map bG)∧Own 121 4 t.dv hd (t.ds.map dG)∧t.es.length≤8∧t.ds.length≤8
def jk:List dR→Hp→Prop
 | [],_=>True
 | t::ts,h=>∃ he hd hr,EW t he hd∧jk ts hr∧aC (he++hd++hr) h
theorem UL {a b c:Hp} (h1:aC a b) (h2:aC b c):aC a c:=bQ fun x=>Nat.le_trans (h1.cnt x) (h2.cnt x)
theorem jk.le:∀ {ts:List dR} {a b:Hp},jk ts a→aC a b→jk ts b
 | [],_,_,_,_=>trivial
 | t::ts,_,_,⟨he,hd,hr,h1,h2,h3⟩,h=>⟨he,hd,hr,h1,h2,UL h3 h⟩
theorem EW.i {t:dR} {he hd h:Hp} (h1:EW t he hd) (hh:∀ wc,Here h wc→Here he wc∧Here hd wc):NC h t:=by
 obtain ⟨g1,g2,g3,g4⟩:=h1
 refine ⟨fun wc hw=>⟨g1.lie (hh wc hw).1 au1,g2.lie (hh wc hw).2 au1⟩,?_⟩
 obtain ⟨p,c,e,hle⟩:=g1.kN
 rw [List.length_map] at e hle
 cases e
 exact hle
theorem EX {a b:Hp} (h:aC a b) {wc:World} (hh:Here b wc):Here a wc:=fun e he=>hh e (h.mem he)
theorem jk.i:∀ {ts:List dR} {h:Hp},jk ts h→wC h ts
 | [],_,_=>fun t ht=>absurd ht au3
 | t::ts,h,⟨he,hd,hr,h1,h2,h3⟩=>fun x hx=>by
  rcases List.mem_cons.1 hx with rfl | hx
  ·exact h1.i fun wc hw=>⟨fun e m=>EX h3 hw e (by simp [m]),fun e m=>EX h3 hw e (by simp [m])⟩
  ·have:=h2.i x hx
   exact ⟨fun wc hw=>this.1 wc (fun e m=>EX h3 hw e (by simp [m])),this.2⟩
theorem jk.set {y:dR} {he hd:Hp} (hy:EW y he hd):∀ {ts:List dR} {h:Hp} (k:Nat),jk ts h→jk (ts.set k y) (he++hd++h)
 | [],_,_,_=>trivial
 | t::ts,h,0,⟨a,b,c,h1,h2,h3⟩=>⟨he,hd,c,hy,h2,bQ fun x=>by have:=h3.cnt x;simp only [dV] at this ⊢;omega⟩
 | t::ts,h,k + 1,⟨a,b,c,h1,h2,h3⟩=>⟨a,b,he++hd++c,h1,jk.set hy k h2,bQ fun x=>by have:=h3.cnt x;simp only [dV] at this ⊢;omega⟩
theorem jk.snoc {y:dR} {he hd:Hp} (hy:EW y he hd):∀ {ts:List dR} {h:Hp},jk ts h→jk (ts++[y]) (he++hd++h)
 | [],h,_=>⟨he,hd,h,hy,trivial,aC.refl _⟩
 | t::ts,h,⟨a,b,c,h1,h2,h3⟩=>⟨a,b,he++hd++c,h1,jk.snoc hy h2,bQ fun x=>by have:=h3.cnt x;simp only [dV] at this ⊢;omega⟩
theorem jk.upd {y:dR}:∀ {ts:List dR} {h:Hp} (k:Nat),jk ts h→(∀ he hd,EW (ts.getD k default) he hd→∃ hd',EW y he hd'∧aC hd' hd)→jk (ts.set k y) h
 | [],_,_,_,_=>trivial
 | t::ts,h,0,⟨a,b,c,h1,h2,h3⟩,hu=>by
  obtain ⟨b',h4,h5⟩:=hu a b h1
  exact ⟨a,b',c,h4,h2,bQ fun x=>by have:=h3.cnt x;have:=h5.cnt x;simp only [dV] at this ⊢;simp only [dV] at *;omega⟩
 | t::ts,h,k + 1,⟨a,b,c,h1,h2,h3⟩,hu=>⟨a,b,c,h1,jk.upd k h2 hu,h3⟩
theorem Dp:∀ (ls:List (List bf × List dh)),(∀ t∈ls,t.1.length≤8∧t.2.length≤8)→∃ (ts:List dR) (h:Hp),jk ts h∧ts.map dR.p=ls
 | [],_=>⟨[],[],trivial,rfl⟩
 | x::r,hx=>by
  obtain ⟨ts,h,h1,h2⟩:=Dp r fun t ht=>hx t (List.mem_cons_of_mem _ ht)
  obtain ⟨b1,b2⟩:=hx x (List.mem_cons_self ..)
  obtain ⟨a1,g1,o1⟩:=fE (e:=114) (xs:=x.1.map bG) jY au1
  obtain ⟨a2,g2,o2⟩:=fE (e:=121) (xs:=x.2.map dG) yQ au1
  obtain ⟨q1,c1,e1⟩:=o1.opened
  obtain ⟨q2,c2,e2⟩:=o2.opened
  rw [List.length_map] at e1 e2
  subst e1 e2
  exact ⟨⟨x.1,x.2,q1,c1,q2,c2⟩::ts,g1++g2++h,⟨g1,g2,h,⟨o1,o2,b1,b2⟩,h1,aC.refl _⟩,by rw [List.map_cons,h2]⟩
theorem UM {w:World} (ts:List dR) (cpu:Nat) (hc:cpu<ts.length) (hl:ts.length<100000) {lv:Value} (h:qB w lv ts) (hcap:∀ t∈ts,t.es.length≤t.ec) (hok:∀ t∈ts,bJ t.es t.ds=true):
  Fn Tryz.prog 118 [lv,.int .i64 (cpu:Nat)].toArray w [] (fun r hn=>∃ v ha hs ts',r=.tuple #[v,.int .i64 0]∧Own 77 2 v ha (ts'.map lq)∧jk ts' hs∧ts'.map dR.p=vO (ts.map dR.p) cpu∧aC (ha++hs) hn):=by
 obtain ⟨q,cap,rfl,hne,_⟩:=id h.rows.opened
 refine enter Tryz.func118 ?_
 refine az ?_
 refine aZ (fun _ wc hG=>vN (F:=146) (us:=[]) (fun t=>!bJ t.es t.ds) ts _ (h.good hG).rows (fun x hx w' ha=>?_)) ?_
 ·obtain ⟨hp,hg⟩:=ha
  exact UK x (((h.good hG).good hg).en x hx) (((h.good hG).good hg).iv x hx) (hcap x hx)
 rw [show ts.any (fun t=>!bJ t.es t.ds)=false by
  rw [List.any_eq_false]
  intro x hx
  rw [hok x hx];decide]
 refine az ?_
 refine aj _ rfl (fun hc=>absurd hc au') (fun _=>?_)
 refine run ?_
 obtain ⟨b,o,rfl⟩:=hne (by intro e;subst e;simp at hc)
 have hlc:=h.rows.row hc
 have hic:=h.iv _ (getD_mem hc)
 have hkc:=hok _ (getD_mem hc)
 generalize hgc:ts.getD cpu default=tc at hlc hic hkc
 have hdc:tc.ds.all dh.may=true:=by
  simp only [bJ,Bool.and_eq_true] at hkc
  exact hkc.1.1.2
 refine cu (σ:=FgS) (fun s=>[(25,.int .i64 (s.k:Int)),(6,s.v)]) (fun s=>s.ha++s.hs) (fun s=>s.k≤ts.length∧Acc 77 2 s.v s.ha (s.ts.map lq)∧jk s.ts s.hs∧s.ts.map dR.p=(ts.take s.k).map (fun t=>(dZ t.es tc.ds,t.ds))) (fun s=>ts.length - s.k) ⟨0,_,[],[],[]⟩ ⟨Nat.zero_le _,Acc.nil _ _,(trivial:jk [] []),rfl⟩ ?_
 rintro ⟨k,ov,ha,hs,ts'⟩ m hm ⟨hk,hA,hO,hE⟩
 dsimp only at hm hk hA hO hE ⊢
 refine run ?_
 refine aj _ rfl (fun hc2=>?_) (fun hc2=>?_)
 ·have hlt:k<ts.length:=by simpa using hc2
  have hr:=h.rows.row hlt
  have hen:=h.en _ (getD_mem hlt)
  have hiv:=h.iv _ (getD_mem hlt)
  have hcp:=hcap _ (getD_mem hlt)
  have hkt:=hok _ (getD_mem hlt)
  have htn:=gz hlt
  generalize ts.getD k default=t at hr hen hiv hcp hkt htn
  refine run ?_
  intro X
  have UN:=hlc 1 tc.dv rfl
  have hg:rV t.es t.ds tc.ds=some (dZ t.es tc.ds,t.ds):=by simp only [rV,hkt,hdc];rfl
  have hap:∀ wc,Good w [] (⟨X,#[t.ev,t.dv],77⟩::(ha++hs)) wc→Fn Tryz.prog 147 [.agg #[t.ev,t.dv],tc.dv].toArray wc [] (fun r hn=>ApR (some (dZ t.es tc.ds,t.ds)) r hn):=fun wc hG=>by
   rw [← hg]
   exact QU t.es t.ds tc.ds _ _ _ (hen.good hG) (hiv.good hG) ⟨_,_,rfl,hcp⟩ (hic.good hG)
  refine iQ 11 [0,1,2,3,4,5] [6,10] [7,8,9] [12] [11] ?_
  refine eX ?_
  refine iU (fun wc hG=>hap wc hG) ?_ ?_
  ·obtain ⟨a1,b1,o1⟩:=fE (e:=114) (xs:=(dZ t.es tc.ds).map bG) jY (by rw [List.length_map];have h1:(dZ t.es tc.ds).length≤t.es.length:=List.length_filter_le ..;have:=(jS hkt).2.1;omega)
   obtain ⟨a2,b2,o2⟩:=fE (e:=121) (xs:=t.ds.map dG) yQ (by rw [List.length_map];have:=(jS hkt).2.2;omega)
   exact ⟨_,b1++b2,a1,b1,a2,b2,rfl,o1,o2,aC.refl _⟩
  refine dL ?_
  refine gW ?_
  rintro _ _ ⟨Y,rfl,rfl⟩ u hn ⟨v1,h1,v2,h2,rfl,su,hO2,hle⟩
  dsimp only at su hO2
  have hlen:(dZ t.es tc.ds).length≤t.es.length:=List.length_filter_le ..
  generalize hal:dZ t.es tc.ds=al at su hlen
  obtain ⟨r1,c1,e1⟩:=su.opened
  obtain ⟨r2,c2,e2⟩:=hO2.opened
  rw [List.length_map] at e1 e2
  subst e1 e2
  refine mP ?_
  refine aQ ?_
  refine aQ ?_
  refine eY ?_
  refine iy ?_
  refine eY ?_
  simp only [DN,List.cons_append,List.nil_append,List.append_nil]
  refine aU (b:=Y) (tb:=77) (cs:=#[.slice none 0 0,.slice none 0 0]) (cs':=#[.slice r1 al.length c1,.slice r2 t.ds.length c2]) (hp':=hn++⟨X,#[t.ev,t.dv],77⟩::(ha++hs)) ?_ au
  refine aG ?_
  refine cO ?_
  simp only [List.cons_append,List.nil_append,List.append_nil]
  refine aI (⟨Y,#[.slice r1 al.length c1,.slice r2 t.ds.length c2],77⟩::(ha++(h1++h2++hs))) (cnt1 hle) ?_
  refine run ?_
  intro Z
  refine jA (c:=[.slice r1 al.length c1,.slice r2 t.ds.length c2]) hA (fun v' ha' hA2=>?_) (by have:=congrArg List.length hE;simp at this;simp;omega) (bP (m:=2) mh rfl) (hp':=⟨Z,#[.slice r1 al.length c1,.slice r2 t.ds.length c2],77⟩::⟨Y,#[.slice r1 al.length c1,.slice r2 t.ds.length c2],77⟩::(h1++h2++hs)) (hperm:=by (exact au))
  refine run ?_
  have hcp1:al.length≤c1:=by
   obtain ⟨q9,c9,e9,h9⟩:=su.cap
   injection e9 with _ _ e9
   omega
  refine bI ⟨k + 1,v',ha',h1++h2++hs,ts'++[⟨al,t.ds,r1,c1,r2,c2⟩]⟩ ⟨hlt,?_,?_,?_⟩ (hm:=by dsimp only;omega) (h2:=by (exact ak))
  ·dsimp only
   rw [List.map_append]
   exact hA2
  ·exact jk.snoc (y:=⟨al,t.ds,r1,c1,r2,c2⟩) ⟨su,hO2,Nat.le_trans hlen (jS hkt).2.1,(jS hkt).2.2⟩ hO
  ·dsimp only
   rw [htn,List.map_append,List.map_append,hE]
   simp [hal,dR.p]
 ·have hge:k=ts.length:=by simp at hc2;omega
  subst hge
  rw [List.take_length] at hE
  have hl':ts'.length=ts.length:=by have:=congrArg List.length hE;simpa using this
  have hcl:cpu<ts'.length:=by omega
  obtain ⟨g,cap2,cur,rfl,rfl,hsz,qG,hset⟩:=hA.own.ND hcl
  have hS:=hset 1 [.slice none 0 0] { ts'.getD cpu default with ds:=[],dp:=none,dc:=0 } au3 rfl ⟨rfl,rfl⟩
  simp only [putAt] at hS
  simp only [List.cons_append,List.nil_append]
  refine run ?_
  refine fin2 ?_
  refine ⟨_,_,hs,_,rfl,hS,jk.upd (y:={ ts'.getD cpu default with ds:=[],dp:=none,dc:=0 }) cpu hO fun he hd ⟨g1,g2,g3,g4⟩=>⟨[],⟨g1,Own.nil _ _,g3,Nat.zero_le _⟩,bQ fun x=>Nat.zero_le _⟩,?_,by (exact ak)⟩
  ·have h9:(ts'.map dR.p).getD cpu default=(dZ tc.es tc.ds,tc.ds):=by
    rw [hE,List.getD_eq_getElem?_getD,List.getElem?_map,List.getElem?_eq_getElem hc]
    rw [← hgc,List.getD_eq_getElem?_getD,List.getElem?_eq_getElem hc];rfl
   rw [List.getD_eq_getElem?_getD,List.getElem?_map,List.getElem?_eq_getElem hcl] at h9
   have h10:(ts.map dR.p).getD cpu default=(tc.es,tc.ds):=by
    rw [List.getD_eq_getElem?_getD,List.getElem?_map,List.getElem?_eq_getElem hc]
    rw [← hgc,List.getD_eq_getElem?_getD,List.getElem?_eq_getElem hc];rfl
   unfold vO
   rw [h10,List.map_set,hE,List.map_map]
   congr 1
   have h11:(ts'.getD cpu default).es=dZ tc.es tc.ds:=by
    rw [List.getD_eq_getElem?_getD,List.getElem?_eq_getElem hcl]
    exact congrArg Prod.fst h9
   show (_,_)=_
   rw [h11]
theorem QV {e:bf} (he:e.may=true):e.stage=!decide (e.kind=2)∧(e.kind=1∨e.kind=2∨e.kind=3):=by
 have:e.kind=1∨e.kind=2∨e.kind=3:=by
  by_cases k1:e.kind=1
  ·exact .inl k1
  by_cases k2:e.kind=2
  ·exact .inr (.inl k2)
  by_cases k3:e.kind=3
  ·exact .inr (.inr k3)
  exfalso
  simp [bf.may,k1,k2,k3] at he
 refine ⟨?_,this⟩
 unfold bf.stage
 rcases this with h | h | h<;>rw [h]<;>rfl
theorem QW (i:dh) (e:bf) (hi:i.may=true) (he:e.may=true) (w:World):Fn Tryz.prog 158 [.agg (dG i).toArray,.agg (bG e).toArray].toArray w [] (fun u _=>u=.bool (i.takes e)):=by
 refine enter Tryz.func158 ?_
 refine run ?_
 intro B C
 refine run ?_
 refine aj _ rfl (fun h1=>?_) (fun h1=>?_)
 ·refine run ?_
  refine fin1 ?_
  simp [dh.takes,h1]
 refine run ?_
 refine aj _ rfl (fun hv=>?_) (fun hv=>?_)
 ·refine run ?_
  refine fin1 ?_
  have:decide (i.jh=e.jh)=false:=by simp at hv ⊢;omega
  simp [dh.takes,h1,this]
 have hv':decide (i.jh=e.jh)=true:=by simp at hv ⊢;omega
 have h1':decide (i.kind=1)=false:=by simpa using h1
 refine run ?_
 refine aj _ rfl (fun h2=>?_) (fun h2=>?_)
 ·refine run ?_
  refine fin1 ?_
  simp [dh.takes,h1',hv',h2]
 have h2':decide (i.kind=2)=false:=by simpa using h2
 refine run ?_
 obtain ⟨hst,hk⟩:=QV he
 refine aj _ rfl (fun h3=>?_) (fun h3=>?_)
 ·refine run ?_
  refine fin1 ?_
  simp [dh.takes,h1',hv',h2',h3,hst]
 have h3':decide (i.kind=3)=false:=by simpa using h3
 refine run ?_
 refine aj _ rfl (fun h4=>?_) (fun h4=>?_)
 ·refine az ?_
  refine fin1 ?_
  simp [dh.takes,h1',hv',h2',h3',h4,hst]
 have h4':decide (i.kind=4)=false:=by simpa using h4
 refine run ?_
 refine aj _ rfl (fun h5=>?_) (fun h5=>?_)
 ·refine run ?_
  refine dW (σ:=Unit) (fun _=>[(6,.bool (i.at_ e))]) (fun _=>⟨C,(bG e).toArray,114⟩::⟨B,(dG i).toArray,121⟩::[]) (fun _=>True) ?_ ?_
  ·refine aj _ rfl (fun h6=>?_) (fun h6=>?_)
   ·have hk3:e.kind=3:=by simpa using h6
    have hl:1≤e.level∧e.level≤3:=by
     simp [bf.may,hk3,PtD.bV] at he
     exact he.2.1.1.1
    have hp:0≤i.page∧i.page≤4095:=by
     simp only [dh.may,PtD.bV,Bool.and_eq_true,decide_eq_true_eq] at hi
     exact hi.2
    have e9:i.at_ e=decide (e.page=((kH (e.level.toNat - 1) i.page.toNat:Nat):Int)):=by simp [dh.at_,hk3]
    rw [e9]
    refine run ?_
    refine iT 8 ?_
    refine bW ?_
    refine jU (v:=.int .i64 (kH (e.level.toNat - 1) i.page.toNat:Nat)) (fun wc hG=>by
     have:=Eo e.level.toNat at7 at7 i.page.toNat at7 wc
     rw [show ((e.level.toNat:Nat):Int)=e.level by omega,show ((i.page.toNat:Nat):Int)=i.page by omega] at this
     exact this) ?_
    refine bW ?_
    refine run ?_
    exact dA () trivial (h2:=by (exact ak))
   ·have hk3:decide (e.kind=3)=false:=by simpa using h6
    have e9:i.at_ e=decide (e.page=i.page):=by simp [dh.at_,hk3]
    rw [e9]
    refine run ?_
    exact dA () trivial (h2:=by (exact ak))
  rintro ⟨⟩ -
  refine az ?_
  refine fin1 ?_
  simp [dh.takes,h1',hv',h2',h3',h4',h5,hst]
 have h5':decide (i.kind=5)=false:=by simpa using h5
 refine az ?_
 refine fin1 ?_
 cases hk2:decide (e.kind=2) with
 | false=>simp [dh.takes,h1',hv',h2',h3',h4',h5',hk2]
 | true=>
  have hk3:decide (e.kind=3)=false:=by simp at hk2 ⊢;omega
  simp [dh.takes,h1',hv',h2',h3',h4',h5',hk2,dh.at_,hk3]
set_option maxHeartbeats 400000 in
theorem QX {w:World} (es:List bf) (ds due:List dh) (v u lv:Value) (h:aB w v 14 (es.map bG)) (hd:aB w u 4 (ds.map dG)) (hl:aB w lv 4 (due.map dG)) (he8:es.length≤8) (hd8:ds.length≤8) (hmay:∀ e∈es,e.may=true) (hdm:∀ i∈due,i.may=true):
  Fn Tryz.prog 129 [.agg #[v,u],lv].toArray w [] (fun r hn=>∃ v1 h1 v2 h2,r=.agg #[v1,v2]∧Own 114 14 v1 h1 ((dZ es due).map bG)∧Own 121 4 v2 h2 (ds.map dG)∧aC (h1++h2) hn):=by
 have h':=h
 have hd':=hd
 obtain ⟨q,cap,rfl,hne,_⟩:=h.opened
 obtain ⟨q2,cap2,rfl,hne2,_⟩:=hd.opened
 obtain ⟨q3,cap3,rfl,UJ,_⟩:=id hl.opened
 refine enter Tryz.func129 ?_
 refine run ?_
 intro B R
 refine gY (fun wc hG=>rM ds _ (hd'.good hG) at7) ?_
 intro r hn hO
 have hO':=hO
 obtain ⟨r2,c2,e2⟩:=hO.own.opened
 rw [List.length_map] at e2
 subst e2
 refine aI (⟨R,#[.slice none 0 0,.slice none 0 0],77⟩::⟨B,#[.slice q es.length cap,.slice q2 ds.length cap2],77⟩::hn) ak ?_
 refine run ?_
 intro X
 refine cu (σ:=Nat × Value × Hp) (fun s=>[(6,.int .i64 (s.1:Int))]) (fun s=>⟨X,#[s.2.1,.slice r2 ds.length c2],77⟩::⟨R,#[.slice none 0 0,.slice none 0 0],77⟩::⟨B,#[.slice q es.length cap,.slice q2 ds.length cap2],77⟩::(s.2.2++hn)) (fun s=>s.1≤es.length∧Acc 114 14 s.2.1 s.2.2 ((dZ (es.take s.1) due).map bG)) (fun s=>es.length - s.1) (0,.slice none 0 0,[]) ⟨Nat.zero_le _,Acc.nil _ _⟩ ?_
 rintro ⟨k,v,ha⟩ m hm ⟨hk,hA⟩
 dsimp only at hm hk hA ⊢
 obtain ⟨r1,c1,e1⟩:=hA.own.opened
 rw [List.length_map] at e1
 generalize hL:(dZ (es.take k) due).length=L at e1
 subst e1
 refine run ?_
 refine aj _ rfl (fun hc=>?_) (fun hc=>?_)
 ·have hlt:k<es.length:=by simpa using hc
  obtain ⟨b,o,rfl⟩:=hne au4
  have hr:=h'.row hlt
  have htn:=gz hlt
  have hem:=hmay _ (getD_mem hlt)
  generalize es.getD k default=e at hr htn hem
  refine run ?_
  refine cu (σ:=Nat) (fun j=>[(8,.int .i64 (j:Int)),(7,.bool ((due.take j).any fun i=>i.takes e))]) (fun _=>⟨X,#[.slice r1 L c1,.slice r2 ds.length c2],77⟩::⟨R,#[.slice none 0 0,.slice none 0 0],77⟩::⟨B,#[.slice (some ⟨b,o,none⟩) es.length cap,.slice q2 ds.length cap2],77⟩::(ha++hn)) (fun j=>j≤due.length) (fun j=>due.length - j) 0 (Nat.zero_le _) ?_
  ·rintro j m2 hm2 hj
   refine run ?_
   refine aj _ rfl (fun hc2=>?_) (fun hc2=>?_)
   ·have hlt2:j<due.length:=by simpa using hc2
    obtain ⟨b3,o3,rfl⟩:=UJ (by intro e;subst e;simp at hlt2)
    have hr3:=hl.row hlt2
    have ZA:=gz hlt2
    have ZB:=hdm _ (getD_mem hlt2)
    generalize due.getD j default=i at hr3 ZA ZB
    refine az ?_
    refine iT 13 ?_
    refine iR ?_
    refine kQ (fun _ wc hG=>QW i e ZB hem wc) ?_
    refine iR ?_
    refine run ?_
    rw [show (((due.take j).any fun i=>i.takes e) || i.takes e)=((due.take (j + 1)).any fun i=>i.takes e) by rw [ZA,List.any_append];simp]
    exact bI (j + 1) hlt2
   ·have ag3:j=due.length:=by simp at hc2;omega
    subst ag3
    rw [List.take_length]
    have hap:dZ (es.take (k + 1)) due=dZ (es.take k) due++bif (due.any fun i=>i.takes e) then [] else [e]:=by
     unfold dZ xY
     rw [htn,List.filter_append]
     congr 1
     cases hd9:(due.any fun i=>i.takes e)<;>simp [hd9]
    refine run ?_
    cases hgn:(due.any fun i=>i.takes e) with
    | true=>
     rw [hgn] at hap
     refine aW ?_
     refine bI (k + 1,.slice r1 L c1,ha) ⟨hlt,?_⟩ (h2:=by (exact ak))
     dsimp only
     rw [hap]
     simpa using hA
    | false=>
     rw [hgn] at hap
     refine aW ?_
     refine drawM 8 [0,1,2,3,4,5,6] [7] [] ?_
     refine eX ?_
     refine Tv (bG e) (h:=?_) (hn:=by (first | ((simp only [putAt,rep,Value.cells,Nat.reduceMul,Nat.zero_mul,Nat.one_mul,Nat.mul_one,List.toList_toArray,List.setIfInBounds_toArray,List.set_cons_zero,List.set_cons_succ,List.drop_succ_cons,List.drop_zero,List.take_succ_cons,List.take_zero,List.cons_append,List.nil_append,List.append_nil])<;>rfl) | rfl))
     refine gW ?_
     simp only [DN]
     rintro _ hn2 ⟨T,rfl,rfl⟩
     refine eY ?_
     refine zk ?_
     simp only [List.cons_append,List.nil_append,List.append_nil]
     have hlk:(dZ (es.take k) due).length≤8:=Nat.le_trans (List.length_filter_le ..) (by rw [List.length_take];omega)
     refine jA (c:=bG e) hA (fun v' ha' hA2=>?_) au1 (bP (m:=14) mh rfl) (hp':=⟨T,(bG e).toArray,114⟩::⟨X,#[.slice r1 L c1,.slice r2 ds.length c2],77⟩::⟨R,#[.slice none 0 0,.slice none 0 0],77⟩::⟨B,#[.slice (some ⟨b,o,none⟩) es.length cap,.slice q2 ds.length cap2],77⟩::hn) (hperm:=by (exact au))
     obtain ⟨r9,c9,e9⟩:=hA2.own.opened
     generalize ((dZ (es.take k) due).map bG++[bG e]).length=L2 at e9
     subst e9
     refine aI (⟨X,#[.slice r1 L c1,.slice r2 ds.length c2],77⟩::⟨R,#[.slice none 0 0,.slice none 0 0],77⟩::⟨B,#[.slice (some ⟨b,o,none⟩) es.length cap,.slice q2 ds.length cap2],77⟩::(ha'++hn)) ak ?_
     refine run ?_
     refine bI (k + 1,.slice r9 L2 c9,ha') ⟨hlt,?_⟩ (h2:=by (exact ak))
     dsimp only
     rw [hap,List.map_append]
     exact hA2
 ·have hge:k=es.length:=by simp at hc;omega
  subst hge
  rw [List.take_length] at hA
  refine run ?_
  refine gI ?_
  exact ⟨_,ha,_,hn,rfl,hA.own,hO'.own,by (exact ak)⟩
set_option maxHeartbeats 400000 in
theorem KO {w:World} (ts:List dR) (cpu:Nat) (hc:cpu<ts.length) (hl:ts.length<100000) {lv:Value} (h:qB w lv ts) (hcap:∀ t∈ts,t.es.length≤t.ec) (hok:∀ t∈ts,bJ t.es t.ds=true):
  Fn Tryz.prog 89 [lv,.int .i64 (cpu:Nat)].toArray w [] (fun r hn=>∃ v ha hs ts',r=v∧Own 77 2 v ha (ts'.map lq)∧wC hs ts'∧ts'.map dR.p=vO (ts.map dR.p) cpu∧aC (ha++hs) hn):=by
 obtain ⟨q,cap,rfl,hne,_⟩:=id h.rows.opened
 obtain ⟨b,o,rfl⟩:=hne (by intro e;subst e;simp at hc)
 have hlc:=h.rows.row hc
 have hic:=h.iv _ (getD_mem hc)
 have hkc:=hok _ (getD_mem hc)
 generalize hgc:ts.getD cpu default=tc at hlc hic hkc
 have hdm:∀ i∈tc.ds,i.may=true:=by
  simp only [bJ,Bool.and_eq_true] at hkc
  exact List.all_eq_true.1 hkc.1.1.2
 have UN:=hlc 1 tc.dv rfl
 refine enter Tryz.func89 ?_
 refine run ?_
 refine cu (σ:=FgS) (fun s=>[(7,.int .i64 (s.k:Int)),(6,s.v)]) (fun s=>s.ha++s.hs) (fun s=>s.k≤ts.length∧Acc 77 2 s.v s.ha (s.ts.map lq)∧wC s.hs s.ts∧s.ts.map dR.p=(ts.take s.k).map (fun t=>(dZ t.es tc.ds,t.ds))) (fun s=>ts.length - s.k) ⟨0,_,[],[],[]⟩ ⟨Nat.zero_le _,Acc.nil _ _,(fun t ht=>absurd ht au3:wC [] []),rfl⟩ ?_
 rintro ⟨k,ov,ha,hs,ts'⟩ m hm ⟨hk,hA,hO,hE⟩
 dsimp only at hm hk hA hO hE ⊢
 refine run ?_
 refine aj _ rfl (fun hc2=>?_) (fun hc2=>?_)
 ·have hlt:k<ts.length:=by simpa using hc2
  have hr:=h.rows.row hlt
  have hen:=h.en _ (getD_mem hlt)
  have hiv:=h.iv _ (getD_mem hlt)
  have hcp:=hcap _ (getD_mem hlt)
  have hkt:=hok _ (getD_mem hlt)
  have htn:=gz hlt
  generalize ts.getD k default=t at hr hen hiv hcp hkt htn
  have h8:=jS hkt
  refine run ?_
  refine gY (fun wc hG=>QX t.es t.ds tc.ds _ _ _ (hen.good hG) (hiv.good hG) (hic.good hG) h8.2.1 h8.2.2 h8.1 hdm) ?_
  rintro u hn ⟨v1,h1,v2,h2,rfl,su,hO2,hle⟩
  have hlen:(dZ t.es tc.ds).length≤t.es.length:=List.length_filter_le ..
  generalize hal:dZ t.es tc.ds=al at su hlen
  obtain ⟨r1,c1,e1⟩:=su.opened
  obtain ⟨r2,c2,e2⟩:=hO2.opened
  rw [List.length_map] at e1 e2
  subst e1 e2
  refine aI (ha++(h1++h2++hs)) (cnt1 hle) ?_
  refine run ?_
  intro Z
  refine jA (c:=[.slice r1 al.length c1,.slice r2 t.ds.length c2]) hA (fun v' ha' hA2=>?_) (by have:=congrArg List.length hE;simp at this;simp;omega) (bP (m:=2) mh rfl) (hp':=⟨Z,#[.slice r1 al.length c1,.slice r2 t.ds.length c2],77⟩::(h1++h2++hs)) (hperm:=by (exact au))
  refine run ?_
  have hcp1:al.length≤c1:=by
   obtain ⟨q9,c9,e9,h9⟩:=su.cap
   injection e9 with _ _ e9
   omega
  refine bI ⟨k + 1,v',ha',h1++h2++hs,ts'++[⟨al,t.ds,r1,c1,r2,c2⟩]⟩ ⟨hlt,?_,?_,?_⟩ (hm:=by dsimp only;omega) (h2:=by (exact ak))
  ·dsimp only
   rw [List.map_append]
   exact hA2
  ·intro x hx
   rcases List.mem_append.1 hx with hx | hx
   ·obtain ⟨g1,g2⟩:=hO x hx
    exact ⟨fun wc hh=>g1 wc (fun e he=>hh e (List.mem_append_right _ he)),g2⟩
   ·obtain rfl:=List.mem_singleton.1 hx
    refine ⟨fun wc hh=>?_,hcp1⟩
    exact ⟨su.lie (fun e he=>hh e av1) (by rw [List.length_map];have:=(jS hkt).2.1;omega),hO2.lie (fun e he=>hh e av1) (by rw [List.length_map];have:=(jS hkt).2.2;omega)⟩
  ·dsimp only
   rw [htn,List.map_append,List.map_append,hE]
   simp [hal,dR.p]
 ·have hge:k=ts.length:=by simp at hc2;omega
  subst hge
  rw [List.take_length] at hE
  have hl':ts'.length=ts.length:=by have:=congrArg List.length hE;simpa using this
  have hcl:cpu<ts'.length:=by omega
  obtain ⟨g,cap2,cur,rfl,rfl,hsz,qG,hset⟩:=hA.own.ND hcl
  have hS:=hset 1 [.slice none 0 0] { ts'.getD cpu default with ds:=[],dp:=none,dc:=0 } au3 rfl ⟨rfl,rfl⟩
  simp only [putAt] at hS
  simp only [List.cons_append,List.nil_append]
  refine run ?_
  refine fin1 ?_
  refine ⟨_,_,hs,_,rfl,hS,fun x hx=>?_,?_,by (exact ak)⟩
  ·rcases List.mem_or_eq_of_mem_set hx with hx | rfl
   ·exact hO x hx
   ·obtain ⟨g1,g2⟩:=hO _ (getD_mem hcl)
    exact ⟨fun wc hh=>⟨(g1 wc hh).1,iq wc 4⟩,g2⟩
  ·have h9:(ts'.map dR.p).getD cpu default=(dZ tc.es tc.ds,tc.ds):=by
    rw [hE,List.getD_eq_getElem?_getD,List.getElem?_map,List.getElem?_eq_getElem hc]
    rw [← hgc,List.getD_eq_getElem?_getD,List.getElem?_eq_getElem hc];rfl
   rw [List.getD_eq_getElem?_getD,List.getElem?_map,List.getElem?_eq_getElem hcl] at h9
   have h10:(ts.map dR.p).getD cpu default=(tc.es,tc.ds):=by
    rw [List.getD_eq_getElem?_getD,List.getElem?_map,List.getElem?_eq_getElem hc]
    rw [← hgc,List.getD_eq_getElem?_getD,List.getElem?_eq_getElem hc];rfl
   unfold vO
   rw [h10,List.map_set,hE,List.map_map]
   congr 1
   have h11:(ts'.getD cpu default).es=dZ tc.es tc.ds:=by
    rw [List.getD_eq_getElem?_getD,List.getElem?_eq_getElem hcl]
    exact congrArg Prod.fst h9
   show (_,_)=_
   rw [h11]
end
section
attribute [local irreducible] Hy St Ops DH gq iK iD fQ DS fB kz
structure PS where
 ws:List Nat
 ls:List (List bf × List dh)
 seen:List Int
 r:dB
 pk:BJ
 kind:Int
 iW:bF
 ft:mW
 over:Bool
def lM (s:PS) (sJ far:Nat):PS:={ s with over:=true,kind:=1,r:=s.r.trap sJ far }
def gp (s:PS) (f:mW) (addr:Nat):PS:=
 bif decide (f.stage=2) then { s with ft:=f,over:=true,kind:=2 } else lM { s with ft:=f } (Jl f) addr
def mc (wv sv lv:Value) (cpu:Nat) (two:eu) (s:PS):Array Value:=
 #[wv,.int .i64 (cpu:Nat),.int .i64 s.kind,.int .i64 s.iW.op,.int .i64 s.iW.d,.int .i64 s.iW.n,.int .i64 s.iW.m,.int .i64 s.iW.aV,
  .int .i64 s.ft.kind,.int .i64 s.ft.stage,.int .i64 s.ft.level,.bool s.ft.walk,.int .i64 s.ft.page,.int .i64 0,sv,
  .int .u64 (s.r.x0:Nat),.int .u64 (s.r.x1:Nat),.int .u64 (s.r.x2:Nat),.int .u64 (s.r.x3:Nat),.int .u64 (s.r.x4:Nat),.int .u64 (s.r.x5:Nat),.int .u64 (s.r.x6:Nat),.int .u64 (s.r.x7:Nat),
  .int .u64 (s.r.pc:Nat),.int .u64 (s.r.jM:Nat),.int .u64 (s.r.eU:Nat),.int .u64 (s.r.oQ:Nat),.int .u64 (s.r.zM:Nat),.int .u64 (s.r.sJ:Nat),.int .u64 (s.r.far:Nat),
  .int .i64 s.pk.cpu,.bool s.pk.fill,.bool s.pk.aN,.bool s.pk.walk,.int .i64 s.pk.drop,.bool s.pk.use,lv,.int .i64 (cpu:Nat),.bool two.on,.int .i64 two.frame,.int .i64 two.tag,.bool s.over]
section
variable {n : Nat} {w0 : World} {mu : List Nat} {l : Fm} {hp hp' : Hp} {Q : Exit → Fm → Hp → Prop} {all : Array Oper} {rest : List Oper} {ty : TypeId} {pos : String} {af : Array Edge}
theorem gB {t:TypeId} {x y:Operand} {b off sz:Nat} {v:Value} {vs:List Value} {cs:Array Value} {tb:TypeId} (cs':Array Value) (h:Ops Tryz.prog n w0 mu all rest l (⟨b,cs',tb⟩::hp') Q) (hx:ev l x=some (.pointer (some ⟨b,off,none⟩)):=by rfl) (hy:ev l y=some v:=by rfl) (o6:v.cells=vs.toArray:=by (first | ((simp only [Value.cells])<;>rfl) | rfl)) (hs:lk Tb.sz t=some sz:=by rfl) (hl:vs.length=sz:=by rfl)
  (hperm:(⟨b,cs,tb⟩::hp').Perm hp:=by (first | (with_reducible apply p0) | (with_reducible apply p1) | (with_reducible apply p2) | (with_reducible apply p3) | (with_reducible apply p4) | (with_reducible apply p5))) (hv1:vs.all (·.oneCell')=true:=by rfl) (hlt:Nat.ble (off + vs.length) cs.size=true:=by rfl) (hput:putAt cs off vs=cs':=by kernel_rfl):Ops Tryz.prog n w0 mu all (⟨none,.store t x y,ty,pos,af,none⟩::rest) l hp Q:=
 qL ay hx hy o6 hs hl hperm hv1 (Nat.le_of_ble_eq_true hlt) hput h
end
theorem EY (wv sv lv:Value) (cpu:Nat) (two:eu) (s:PS) (sJ far M:Nat) {w:World} (hN:eF [⟨M,mc wv sv lv cpu two s,82⟩] w):Fn Tryz.prog 72 [.pointer (some ⟨M,0,none⟩),.int .u64 (sJ:Nat),.int .u64 (far:Nat)].toArray w [M] (fun u hn=>u=.tuple #[]∧aC [⟨M,mc wv sv lv cpu two (lM s sJ far),82⟩] hn):=by
 refine dY [⟨M,mc wv sv lv cpu two s,82⟩] hN Tryz.func72 ?_
 refine run ?_
 rw [show (List.take 15 (List.drop 15 (mc wv sv lv cpu two s).toList)).toArray=(di s.r).toArray from rfl]
 refine ax (fun wc hG=>TV s.r sJ far wc) ?_
 refine run ?_
 refine gB (mc wv sv lv cpu two { s with over:=true }) ?_
 refine run ?_
 refine gB (mc wv sv lv cpu two { s with over:=true,kind:=1 }) ?_
 refine run ?_
 refine gB (mc wv sv lv cpu two (lM s sJ far)) ?_
 refine run ?_
 exact fin0 ⟨rfl,by (exact ak)⟩
theorem Hf (wv sv lv:Value) (cpu:Nat) (two:eu) (s:PS) (f:mW) (hf:f.stage ≠ 2→f.Fit) (addr M:Nat) {w:World} (hN:eF [⟨M,mc wv sv lv cpu two s,82⟩] w):Fn Tryz.prog 105 [.pointer (some ⟨M,0,none⟩),xQ f,.int .u64 (addr:Nat)].toArray w [M] (fun u hn=>u=.tuple #[]∧aC [⟨M,mc wv sv lv cpu two (gp s f addr),82⟩] hn):=by
 refine dY [⟨M,mc wv sv lv cpu two s,82⟩] hN Tryz.func105 ?_
 refine run ?_
 intro F
 refine run ?_
 refine gB (mc wv sv lv cpu two { s with ft:=f }) ?_ (hperm:=p1)
 refine run ?_
 refine aj _ rfl (fun hc=>?_) (fun hc=>?_)
 ·have h2:gp s f addr={ s with ft:=f,over:=true,kind:=2 }:=by
   unfold gp
   rw [show decide (f.stage=2)=true from hc];rfl
  rw [h2]
  refine run ?_
  refine gB (mc wv sv lv cpu two { s with ft:=f,over:=true }) ?_
  refine run ?_
  refine gB (mc wv sv lv cpu two { s with ft:=f,over:=true,kind:=2 }) ?_
  refine run ?_
  exact fin0 ⟨rfl,by (exact ak)⟩
 ·have h2:gp s f addr=lM { s with ft:=f } (Jl f) addr:=by
   unfold gp
   rw [show decide (f.stage=2)=false from hc];rfl
  rw [h2]
  have hF:=hf (of_decide_eq_false hc)
  refine run ?_
  refine JZ (fun wc hG=>Uj f hF wc) ?_
  rintro _ ⟨e,rfl⟩
  refine run ?_
  refine dH [⟨M,mc wv sv lv cpu two { s with ft:=f },82⟩] [⟨F,#[.int .i64 f.kind,.int .i64 f.stage,.int .i64 f.level,.bool f.walk,.int .i64 f.page],43⟩] (fun wc hG=>EY wv sv lv cpu two { s with ft:=f } (Jl f) addr M hG.dD) (fun v hn hv=>?_) ?_
  ·obtain ⟨rfl,hle⟩:=hv
   refine run ?_
   exact fin0 ⟨rfl,by (exact cnt1 hle)⟩
  ·exact List.Perm.refl _
def l9 (s:PS) (addr n:Nat):PS:=bif decide (addr % n=0) then s else lM s 16777216 addr
theorem Be (wv sv lv:Value) (cpu:Nat) (two:eu) (s:PS) (addr n M:Nat) (hn0:0<n) (hn8:n≤8) {w:World} (hN:eF [⟨M,mc wv sv lv cpu two s,82⟩] w):Fn Tryz.prog 68 [.pointer (some ⟨M,0,none⟩),.int .u64 (addr:Nat),.int .i64 (n:Nat)].toArray w [M] (fun u hn=>u=.bool (decide (addr % n=0))∧aC [⟨M,mc wv sv lv cpu two (l9 s addr n),82⟩] hn):=by
 refine dY [⟨M,mc wv sv lv cpu two s,82⟩] hN Tryz.func68 ?_
 refine run ?_
 refine fA au2 (iG rfl rfl addr n rfl rfl hn0) ?_
 refine run ?_
 refine aj _ rfl (fun hc=>?_) (fun hc=>?_)
 ·have h1:decide (addr % n=0)=false:=by simp at hc;exact decide_eq_false at7
  have h2:l9 s addr n=lM s 16777216 addr:=by unfold l9;rw [h1];rfl
  rw [h1,h2]
  refine run ?_
  refine dH [⟨M,mc wv sv lv cpu two s,82⟩] [] (fun wc hG=>EY wv sv lv cpu two s 16777216 addr M hG.dD) (fun v hn hv=>?_) ?_
  ·obtain ⟨rfl,hle⟩:=hv
   refine run ?_
   exact fin1 ⟨rfl,by (exact cnt1 hle)⟩
  ·exact List.Perm.refl _
 ·have h1:decide (addr % n=0)=true:=by simp at hc;exact decide_eq_true at7
  have h2:l9 s addr n=s:=by unfold l9;rw [h1];rfl
  rw [h1,h2]
  refine run ?_
  exact fin1 ⟨rfl,by (exact ak)⟩
end
section
attribute [local irreducible] Hy St Ops DH gq iK iD fQ DS fB kz
def PS.tl (s:PS) (cpu:Nat):List bf × List dh:=s.ls.getD cpu default
def PS.acc (s:PS) (cpu:Nat) (two:eu) (addr:Nat) (acc:Int):zo:=nR ⟨s.ws,s.r.one,two,s.pk,addr / 64,acc⟩ (s.tl cpu).1
def PS.put (s:PS) (cpu:Nat) (a:zo):PS:={ s with ls:=s.ls.set cpu (a.s.es,(s.tl cpu).2),pk:={ s.pk with drop:=-1 },seen:=s.seen++a.s.rd }
def PS.see (s:PS) (n:Int):PS:={ s with seen:=s.seen++[n] }
def bU (s : PS) (cpu : Nat) (two : eu) (addr : Nat) (acc : Int) : PS × Int :=
  bif decide (addr < 262144) then
    (bif decide ((s.acc cpu two addr acc).f.kind = 0) then ((s.put cpu (s.acc cpu two addr acc)).see (s.acc cpu two addr acc).n, (s.acc cpu two addr acc).n * 64 + ((addr % 64 : Nat) : Int))
     else (gp (s.put cpu (s.acc cpu two addr acc)) (s.acc cpu two addr acc).f addr, 0))
  else (gp s ⟨2, 1, 0, false, 4095⟩ addr, 0)
structure ML where
 wv:Value
 sv:Value
 lv:Value
 ts:List dR
 hw:Hp
 hs:Hp
 hl:Hp
 ht:Hp
def ML.hp (L:ML) (M cpu:Nat) (two:eu) (s:PS):Hp:=⟨M,mc L.wv L.sv L.lv cpu two s,82⟩::(L.hl++L.hs++(L.hw++L.ht))
structure wE (L:ML) (s:PS):Prop where
 w:Own 25 1 L.wv L.hw (s.ws.map uV)
 q:Own 3 1 L.sv L.hs (s.seen.map dN)
 l:Own 77 2 L.lv L.hl (L.ts.map lq)
 t:jk L.ts L.ht
 p:L.ts.map dR.p=s.ls
structure fD (s:PS) (cpu:Nat) (two:eu):Prop where
 uX:uy s.ws
 mem:dP s.ws.length=true
 cpu:cpu<s.ls.length
 len:s.ls.length<100000
 es:∀ t∈s.ls,gK s.ws.length t.1 t.2
 two:two.on=true∧two.may=true
 r:s.r.Ok
theorem ZC (addr:Nat) (h:addr<18446744073709551616) (w:World):Fn Tryz.prog 26 [.int .u64 (addr:Nat)].toArray w [] (fun u _=>u=bif decide (addr<262144) then .tuple #[.int .i64 ((addr / 64:Nat):Int),.int .i64 ((addr % 64:Nat):Int),.int .i64 0] else .tuple #[.int .i64 0,.int .i64 0,.int .i64 2]):=by
 refine enter Tryz.func26 ?_
 refine run ?_
 refine aj _ rfl (fun hc=>?_) (fun hc=>?_)
 ·rw [show decide (addr<262144)=false by simp at hc;exact decide_eq_false at7]
  refine run ?_
  exact F8 rfl
 ·have hl:addr<262144:=by simp at hc;omega
  rw [show decide (addr<262144)=true from decide_eq_true hl]
  refine run ?_
  refine fA au2 (Xm rfl rfl addr 64 rfl rfl au0 h) ?_
  refine run ?_
  refine fA au2 (iG rfl rfl addr 64 rfl rfl au0) ?_
  refine run ?_
  exact F8 rfl
end
theorem oW:jO.Fit:=⟨by decide,by decide,by decide,by decide⟩
theorem QY {r w x af:Bool} {acc stage level page:Int}:gJ r w x af acc stage level page=jO∨(gJ r w x af acc stage level page).stage=stage:=by
 unfold gJ
 cases af<;>cases uY r w x acc<;>simp
theorem XK {ws:List Nat} {stage:Int} {page:Nat}:∀ k level f rd,(GI ws stage page k level f rd).f=jO∨(GI ws stage page k level f rd).f.stage=stage:=by
 intro k
 induction k with
 | zero=>intro level f rd;exact .inr rfl
 | succ k ih=>
  intro level f rd
  rw [GI]
  cases dM ws.length f with
  | false=>exact .inr rfl
  | true=>
   simp only [cond_true]
   cases decide ((BI ws stage (rZ f level page) level).kind=1) with
   | true=>exact ih _ _ _
   | false=>
    simp only [cond_false,rH]
    cases decide ((BI ws stage (rZ f level page) level).kind=0) with
    | true=>exact .inr rfl
    | false=>
     simp only [cond_false]
     cases dM ws.length ((BI ws stage (rZ f level page) level).frame + ((page % aO level:Nat):Int)) with
     | true=>exact .inl rfl
     | false=>exact .inr rfl
theorem UO {ws:List Nat} {frame:Int} {mid:Nat} {acc:Int}:(ji ws true frame mid acc).f=jO∨(ji ws true frame mid acc).f.stage=2:=by
 have hG:uZ (jq ws 2 frame mid) mid acc=jO∨(uZ (jq ws 2 frame mid) mid acc).stage=2:=by
  unfold uZ
  cases decide ((jq ws 2 frame mid).f.kind=0) with
  | true=>exact QY
  | false=>exact XK _ _ _ _
 simp only [ji,Bool.not_true,cond_false,Jj]
 cases decide ((uZ (jq ws 2 frame mid) mid acc).kind=0) with
 | true=>exact hG
 | false=>exact hG
theorem EZ {c:kU} {s:qh} {mid:Nat} {acc:Int}:(dQ c s mid acc).f=jO∨(dQ c s mid acc).f.stage=2:=by
 unfold dQ
 cases (c.pk.use && decide (0≤nH c s mid acc)) with
 | true=>exact .inl rfl
 | false=>
  simp only [cond_false,ve]
  have h:=UO (ws:=c.ws) (frame:=c.two.frame) (mid:=mid) (acc:=acc)
  cases decide ((ji c.ws true c.two.frame mid acc).f.kind=0) with
  | true=>exact h
  | false=>exact h
structure Yf (n:Nat) (r:zo):Prop where
 n:r.f.kind=0→dM n r.n=true
 f:r.f.stage ≠ 2→r.f.Fit
theorem QZ {c:kU} (hk:kV c) {ds:List dh} {s:qh} (hE:gK c.ws.length s.es ds) {mid level:Nat} (hm:mid≤4095) (hl:level≤3):Yf c.ws.length (jE c s mid level):=by
 refine ⟨(rU hk hE hm hl).2,?_⟩
 have h:=EZ (c:=c) (s:=s) (mid:=mid) (acc:=0)
 unfold jE
 cases hc:decide ((dQ c s mid 0).f.kind=0) with
 | false=>
  simp only [Bool.not_false,cond_true]
  intro h2
  rcases h with h | h
  ·rw [h] at hc;simp [jO] at hc
  ·exact absurd h h2
 | true=>intro _;exact oW
theorem UQ {c:kU} (hk:kV c) {ds:List dh} {s:qh} (hE:gK c.ws.length s.es ds) {level:Nat} {d:DsD} (hm:iE c level d≤4095) (hl:level≤3):Yf c.ws.length (vG c s level d):=by
 refine ⟨(GZ hk hE hm).2,?_⟩
 have h:=EZ (c:=c) (s:=s) (mid:=iE c level d) (acc:=c.acc)
 have hp:=hk.page
 have hF:(gJ d.r d.w d.x d.af c.acc 1 level c.page).Fit:=by
  unfold gJ
  cases d.af with
  | false=>exact ⟨by simp,by simp,by simp;omega,by simp;omega⟩
  | true=>
   simp only [Bool.not_true,cond_false]
   cases uY d.r d.w d.x c.acc with
   | false=>exact ⟨by simp,by simp,by simp;omega,by simp;omega⟩
   | true=>exact oW
 unfold vG
 cases decide ((gJ d.r d.w d.x d.af c.acc 1 level c.page).kind=0) with
 | false=>intro _;exact hF
 | true=>
  simp only [Bool.not_true,cond_false]
  cases hc:decide ((dQ c s (iE c level d) c.acc).f.kind=0) with
  | false=>
   simp only [Bool.not_false,cond_true]
   intro h2
   rcases h with h | h
   ·rw [h];exact oW
   ·exact absurd h h2
  | true=>intro _;exact oW
theorem ZE {n:Nat} (h:dP n=true):dM n 0=true:=by
 have:=bC h
 simp only [dM,Bool.and_eq_true,decide_eq_true_eq]
 omega
theorem Q3 {c:kU} (hk:kV c) {ds:List dh}:∀ (k level:Nat) (f:Int) (s:qh),level + k=4→gK c.ws.length s.es ds→Yf c.ws.length (rO c k level f s):=by
 intro k
 induction k with
 | zero=>intro level f s hl hE;exact ⟨fun _=>ZE hk.mem,fun _=>oW⟩
 | succ k ih=>
  intro level f s hl hE
  rw [rO]
  have hp:=hk.page
  have hmay:=rG c.ws 1 (rZ f level c.page) level
  generalize BI c.ws 1 (rZ f level c.page) level=d at hmay ⊢
  obtain ⟨hkk,hk0,hk1,hk2⟩:=jQ hmay
  cases h1:decide (d.kind=1) with
  | true=>
   obtain ⟨g1,g2,g3,g4⟩:=hk1 (of_decide_eq_true h1)
   have h2:=(rU hk (s:=⟨s.es,s.rd++[f]⟩) hE (mid:=d.frame.toNat) (level:=level + 1) at7 at7).1
   have h3:=QZ hk (s:=⟨s.es,s.rd++[f]⟩) hE (mid:=d.frame.toNat) (level:=level + 1) at7 at7
   simp only [cond_true]
   generalize jE c ⟨s.es,s.rd++[f]⟩ d.frame.toNat (level + 1)=T at h2 h3 ⊢
   cases hc:decide (T.f.kind=0) with
   | false=>simp only [Bool.not_false,cond_true];exact ⟨fun h=>by simp at hc;exact absurd h hc,h3.f⟩
   | true=>
    simp only [Bool.not_true,cond_false]
    exact ih (level + 1) T.n T.s at7 h2.es
  | false=>
   simp only [cond_false]
   cases h0:decide (d.kind=0) with
   | true=>simp only [cond_true];exact ⟨fun h=>(by cases h),fun _=>⟨by simp,by simp,au',au'⟩⟩
   | false=>
    simp only [cond_false]
    have hd2:d.kind=2:=by simp at h1 h0;omega
    exact UQ hk (s:=⟨s.es,s.rd++[f]⟩) hE (d:=d) (level:=level) (qF hmay hd2 at7 c.page).1 at7
theorem UR {c:kU} (hk:kV c) {ds:List dh} {s:qh} (hE:gK c.ws.length s.es ds):Yf c.ws.length (vH c s):=by
 have h1:=eu.iC hk.one
 have h2:=(rU hk hE (mid:=c.one.frame.toNat) (level:=0) at7 at7).1
 have h3:=QZ hk hE (mid:=c.one.frame.toNat) (level:=0) at7 at7
 unfold vH
 generalize jE c s c.one.frame.toNat 0=T at h2 h3 ⊢
 cases hc:decide (T.f.kind=0) with
 | false=>simp only [Bool.not_false,cond_true];exact ⟨fun h=>by simp at hc;exact absurd h hc,h3.f⟩
 | true=>
  simp only [Bool.not_true,cond_false]
  exact Q3 hk 4 0 T.n T.s rfl h2.es
theorem UT {c:kU} (hk:kV c) {ds:List dh} {es:List bf} (hE:gK c.ws.length es ds):Yf c.ws.length (lS c es):=by
 unfold lS
 cases c.one.on with
 | false=>
  simp only [Bool.not_false,cond_true]
  refine ⟨fun h=>((pI hk (s:=⟨es,[]⟩) hE hk.page c.acc).2 h).1,fun h=>?_⟩
  rcases EZ (c:=c) (s:=⟨es,[]⟩) (mid:=c.page) (acc:=c.acc) with h2 | h2
  ·show (dQ c ⟨es,[]⟩ c.page c.acc).f.Fit
   rw [h2];exact oW
  ·exact absurd h2 h
 | true=>
  simp only [Bool.not_true,cond_false]
  cases hc:(c.pk.use && decide (0≤iw c es)) with
  | true=>
   rw [Bool.and_eq_true,decide_eq_true_eq] at hc
   simp only [cond_true]
   have hw:(iw c es).toNat<es.length:=(AY hc.2).1
   exact ⟨fun _=>(hE.Jo hw).2,fun _=>oW⟩
  | false=>
   simp only [cond_false]
   unfold vI
   cases hc2:(c.pk.use && decide (0≤fC c es)) with
   | true=>
    rw [Bool.and_eq_true,decide_eq_true_eq] at hc2
    obtain ⟨h1,h2,h3,h4⟩:=xX hE hc2.2
    simp only [cond_true]
    exact Q3 hk (ds:=ds) (4 - (es.getD (fC c es).toNat default).level.toNat) (es.getD (fC c es).toNat default).level.toNat (es.getD (fC c es).toNat default).frame ⟨es,[]⟩ at7 hE
   | false=>
    simp only [cond_false]
    exact UR hk (s:=⟨es,[]⟩) hE
theorem E5 {c:kU} (hk:kV c) {ds:List dh} {es:List bf} (hE:gK c.ws.length es ds):Yf c.ws.length (nR c es):=UT hk (zO hE c.pk.drop)
section
attribute [local irreducible] Hy St Ops DH gq iK iD fQ DS fB kz
def PgR (A:zo) (ds:List dh) (u:Value) (hn:Hp):Prop:=∃ (ev dv rv:Value) (he hd hr:Hp),u=.tuple #[.int .i64 A.n,xQ A.f,.agg #[ev,dv],rv,.int .i64 0]∧Own 114 14 ev he (A.s.es.map bG)∧Own 121 4 dv hd (ds.map dG)∧Own 3 1 rv hr (A.s.rd.map dN)∧aC (he++hd++hr) hn
theorem NF {c:kU} (hk:kV c) {es:List bf} {ds:List dh} (hE:gK c.ws.length es ds) (hac:PtD.bV c.acc 0 2=true):wB c.ws.length es ds c.one c.two c.page c.acc=true:=by
 have h1:=hk.page
 have h2:lK c.ws.length es=true:=List.all_eq_true.2 fun e he=>by
  have:=jo (hE.held e he)
  exact decide_eq_true at7
 have h3:PtD.bV (c.page:Int) 0 4095=true:=lQ at7 at7
 simp only [wB,BM,hk.mem,hE.vg,hk.one,hk.two,hk.on,hac,h2,h3,Bool.and_true]
theorem Q4 (c:kU) (hk:kV c) (hac:PtD.bV c.acc 0 2=true) (hwl:c.ws.length<1000000) (cap:Nat) (hcc:c.ws.length≤cap) {p:Option Addr} {w:World} (es:List bf) (ds:List dh) (hE:gK c.ws.length es ds) {ev dv:Value} (hm:aB w (.slice p c.ws.length cap) 1 (c.ws.map uV)) (he:aB w ev 14 (es.map bG)) (hd:aB w dv 4 (ds.map dG)) (hcap:∃ q c,ev=.slice q es.length c∧es.length≤c):
  Fn Tryz.prog 106 [.agg #[.slice p c.ws.length cap],.agg #[ev,dv],.agg (iI c.one).toArray,.agg (iI c.two).toArray,.int .i64 (c.page:Nat),.int .i64 c.acc,.agg (l7 c.pk).toArray].toArray w [] (PgR (nR c es) ds):=by
 have h8:=dJ hE.vg
 refine (UI c.ws hk.uX hwl cap hcc es ds c.pk c.one c.two c.page c.acc hm he hd hcap at7 at7).mono ?_
 rintro u hn ⟨h1,_⟩
 obtain ⟨ev',rQ,rv',he',hd',hr',hu,g1,g2,g3,hle⟩:=h1 (NF hk hE hac)
 exact ⟨ev',rQ,rv',he',hd',hr',hu,g1,g2,g3,hle⟩
theorem VR {A:zo} {ds:List dh} (h1:A.s.es.length≤8) (h2:ds.length≤8) (h3:A.s.rd.length≤100):∃ u hn,PgR A ds u hn:=by
 obtain ⟨a1,b1,o1⟩:=fE (e:=114) (xs:=A.s.es.map bG) jY au1
 obtain ⟨a2,b2,o2⟩:=fE (e:=121) (xs:=ds.map dG) yQ au1
 obtain ⟨a3,b3,o3⟩:=fE (e:=3) (xs:=A.s.rd.map dN) yJ au1
 exact ⟨_,_,a1,a2,a3,b1,b2,b3,rfl,o1,o2,o3,aC.refl _⟩
theorem x9 {α:Type} {a b:α}:∀ {l:List α} {k:Nat},nth l (k + 0)=some a→nth l (k + 1)=some b→List.take 2 (List.drop k l)=[a,b]
 | [],k,h,_=>by cases k<;>cases h
 | x::l,k + 1,h0,h1=>by
  rw [List.drop_succ_cons]
  exact x9 (l:=l) (k:=k) (by rwa [Nat.succ_add] at h0) (by rwa [Nat.succ_add] at h1)
 | [x],0,h0,h1=>by cases h1
 | x::y::l,0,h0,h1=>by cases h0;cases h1;rfl
section
variable {n : Nat} {w0 : World} {mu : List Nat} {l : Fm} {hc : Hp} {all : Array Oper} {ds : List (Nat × Nat)} {h0 : Hp} {aF aK : Fm} {Y : Fm → Hp → Prop} {i : Nat} {r : List Nat} {ty : TypeId} {pos : String} {af : Array Edge}
theorem iM {t:TypeId} {x y:Operand} {b off sz:Nat} {v:Value} {vs:List Value} {cs:Array Value} {tb:TypeId} {hp':Hp} (cs':Array Value) (h:fB Tryz.prog n w0 mu all ds l h0 aF Y r aK (⟨b,cs',tb⟩::hp')) (ho:all[i]?=some ⟨none,.store t x y,ty,pos,af,none⟩:=by rfl)
  (hx:ev (aA ds (aK++aF) af.toList++l) x=some (.pointer (some ⟨b,off,none⟩)):=by rfl) (hy:ev (aA ds (aK++aF) af.toList++l) y=some v:=by rfl) (o6:v.cells=vs.toArray:=by (first | ((simp only [Value.cells])<;>rfl) | rfl)) (hs:lk Tb.sz t=some sz:=by rfl) (hl:vs.length=sz:=by rfl) (hperm:(⟨b,cs,tb⟩::hp').Perm hc:=by (first | (with_reducible apply p0) | (with_reducible apply p1) | (with_reducible apply p2) | (with_reducible apply p3) | (with_reducible apply p4) | (with_reducible apply p5))) (hv1:vs.all (·.oneCell')=true:=by rfl) (hlt:Nat.ble (off + vs.length) cs.size=true:=by rfl) (hput:putAt cs off vs=cs':=by kernel_rfl)
  (hle:aC h0 (⟨b,cs',tb⟩::hp'):=by (exact ak)):fB Tryz.prog n w0 mu all ds l h0 aF Y (i::r) aK hc:=WM ay ho hx hy o6 hs hl hperm hv1 (Nat.le_of_ble_eq_true hlt) hput hle h
end
theorem oh (w a:Nat) {n:Nat} (hn:n≤64):aS w a n≤2 ^ n - 1:=by
 have:=og w a n
 rwa [J7 hn] at this
theorem UU (r:dB):r.one.may=true:=by
 have h:∀ v,(lT v).frame≤4095∧0≤(lT v).frame∧(lT v).tag≤15∧0≤(lT v).tag:=fun v=>by
  have h1:=oh v 12 (n:=12) au0
  have h2:=oh v 48 (n:=4) au0
  unfold lT
  cases decide (Ye (decide (aS v 0 1=1)) (aS v 12 12) (aS v 48 4)=v) with
  | true=>simp only [cond_true];omega
  | false=>simp
 obtain ⟨h1,h2,h3,h4⟩:=h (r.jM &&& (18446744073709551615 - 1))
 have g1:PtD.bV r.one.frame 0 4095=true:=lQ h2 h1
 have g2:PtD.bV r.one.tag 0 15=true:=lQ h4 h3
 unfold eu.may
 rw [g1,g2];rfl
def PS.ac (s:PS) (two:eu) (addr:Nat) (acc:Int):kU:=⟨s.ws,s.r.one,two,s.pk,addr / 64,acc⟩
theorem fD.ac {s:PS} {cpu:Nat} {two:eu} (h:fD s cpu two) {addr:Nat} (ha:addr<262144) (acc:Int):kV (s.ac two addr acc):=⟨h.uX,h.mem,UU _,h.two.2,h.two.1,by show addr / 64≤4095;omega⟩
theorem Dq {l:List (List bf × List dh)} {k:Nat} (h:k<l.length):l.getD k default∈l:=by
 rw [List.getD_eq_getElem?_getD,List.getElem?_eq_getElem h];exact List.getElem_mem h
theorem fD.te {s:PS} {cpu:Nat} {two:eu} (h:fD s cpu two):gK s.ws.length (s.tl cpu).1 (s.tl cpu).2:=h.es _ (Dq h.cpu)
theorem wE.tl {L:ML} {s:PS} (h:wE L s) (cpu:Nat):(L.ts.getD cpu default).p=s.tl cpu:=by
 unfold PS.tl
 rw [← h.p,List.getD_eq_getElem?_getD,List.getD_eq_getElem?_getD,List.getElem?_map]
 cases L.ts[cpu]?<;>rfl
theorem NC.more {h h':Hp} {t:dR} (hh:∀ wc,Here h' wc→Here h wc) (ht:NC h t):NC h' t:=⟨fun wc hw=>ht.1 wc (hh wc hw),ht.2⟩
theorem yS {a b:Hp} {wc:World} (h:Here (a++b) wc):Here b wc:=fun e he=>h e (List.mem_append_right _ he)
theorem Bf {a b:Hp} {wc:World} (h:Here (a++b) wc):Here a wc:=fun e he=>h e (List.mem_append_left _ he)
theorem Hg {ts:List dR} {cpu:Nat} {y:dR} {h1 ht:Hp} (hy:NC h1 y) (h:wC ht ts):wC (h1++ht) (ts.set cpu y):=fun t hm=>by
 rcases List.mem_or_eq_of_mem_set hm with h2 | rfl
 ·exact (h t h2).more fun wc hw=>yS hw
 ·exact hy.more fun wc hw=>Bf hw
theorem UW {h1 h2:Hp} {es:List bf} {ds:List dh} {q1 q2:Option Addr} {c1 c2:Nat} (g1:Own 114 14 (.slice q1 es.length c1) h1 (es.map bG)) (g2:Own 121 4 (.slice q2 ds.length c2) h2 (ds.map dG)) (h8:es.length≤8) (h9:ds.length≤8):NC (h1++h2) ⟨es,ds,q1,c1,q2,c2⟩:=by
 refine ⟨fun wc hw=>⟨g1.lie (Bf hw) au1,g2.lie (yS hw) au1⟩,?_⟩
 obtain ⟨p,c,e,hle⟩:=g1.kN
 rw [List.length_map] at e hle
 cases e
 exact hle
theorem wE.fault {L:ML} {s:PS} (h:wE L s) (f:mW) (addr:Nat):wE L (gp s f addr):=by
 unfold gp
 cases decide (f.stage=2) with
 | true=>exact ⟨h.w,h.q,h.l,h.t,h.p⟩
 | false=>exact ⟨h.w,h.q,h.l,h.t,h.p⟩
theorem Hl (L:ML) (M cpu:Nat) (two:eu) (s:PS) (hL:wE L s) (hs:fD s cpu two) (hsn:s.seen.length<100000) (addr:Nat) (ha:addr<18446744073709551616) (acc:Int) (hac:PtD.bV acc 0 2=true) {w:World} (hN:eF (L.hp M cpu two s) w):Fn Tryz.prog 69 [.pointer (some ⟨M,0,none⟩),.int .u64 (addr:Nat),.int .i64 acc].toArray w ((L.hp M cpu two s).map (·.b)) (fun u hn=>u=.int .i64 (bU s cpu two addr acc).2∧∃ L',wE L' (bU s cpu two addr acc).1∧aC (L'.hp M cpu two (bU s cpu two addr acc).1) hn):=by
 have htl:=hL.tl cpu
 have Jz:=hs.te
 have h8:=dJ Jz.vg
 have hlen:L.ts.length=s.ls.length:=by rw [← hL.p,List.length_map]
 have hcl:cpu<L.ts.length:=by rw [hlen];exact hs.cpu
 obtain ⟨wv,sv,lv,ts,hw,hq,hl,ht⟩:=L
 obtain ⟨hLw,hLq,NG,XL,Yg⟩:=hL
 dsimp only at hLw hLq NG XL Yg htl hlen hcl
 obtain ⟨g,lc,fO,rfl,rfl,hsz,qG,hput⟩:=NG.ND hcl
 have hx:=XL.i _ (getD_mem hcl)
 generalize ts.getD cpu default=tc at qG hput htl hx
 obtain ⟨wp,wc,e0,hwc⟩:=hLw.kN
 rw [List.length_map] at e0 hwc
 subst e0
 refine dY (⟨M,mc (.slice wp s.ws.length wc) sv (.slice (some ⟨g,0,none⟩) ts.length lc) cpu two s,82⟩::(aH.mk g fO 77::(hq++(hw++ht)))) hN Tryz.func69 ?_
 refine run ?_
 refine ax (fun wc hG=>ZC addr ha wc) ?_
 cases hd:decide (addr<262144) with
 | false=>
  have hp:bU s cpu two addr acc=(gp s ⟨2,1,0,false,4095⟩ addr,0):=by unfold bU;rw [hd];rfl
  rw [hp]
  refine aW ?_
  refine dH [⟨M,mc (.slice wp s.ws.length wc) sv (.slice (some ⟨g,0,none⟩) ts.length lc) cpu two s,82⟩] (aH.mk g fO 77::(hq++(hw++ht))) (fun wc' hG=>Hf _ _ _ cpu two s ⟨2,1,0,false,4095⟩ (fun _=>⟨by decide,by decide,by decide,by decide⟩) addr M hG.dD) (fun v hn hv=>?_) ?_
  ·obtain ⟨rfl,hle⟩:=hv
   refine run ?_
   exact fin1 ⟨rfl,⟨.slice wp s.ws.length wc,sv,.slice (some ⟨g,0,none⟩) ts.length lc,ts,hw,hq,[⟨g,fO,77⟩],ht⟩,(wE.fault (s:=s) ⟨hLw,hLq,NG,XL,Yg⟩ ⟨2,1,0,false,4095⟩ addr),by unfold ML.hp;(exact cnt1 hle)⟩
  ·exact List.Perm.refl _
 | true=>
  have hd':=of_decide_eq_true hd
  have hld:List.take 2 (List.drop (cpu * 2) fO.toList)=[tc.ev,tc.dv]:=by
   have h0:=qG 0 tc.ev rfl
   have h1:=qG 1 tc.dv rfl
   exact x9 h0 h1
  refine aW ?_
  refine iQ 39 [0,1,2,3,4,5,6,7,8,9,10,11,12,13,14,15,16,17,18,19,20,21,22,23,24,25,26,27,28,29] [30,37,38] [31,32,33,34,35,36] [39,42,43] [40,41] ?_
  refine eX ?_
  rw [show (List.take 15 (List.drop 15 (mc (.slice wp s.ws.length wc) sv (.slice (some ⟨g,0,none⟩) ts.length lc) cpu two s).toList)).toArray=(di s.r).toArray from rfl,show (List.take 1 (mc (.slice wp s.ws.length wc) sv (.slice (some ⟨g,0,none⟩) ts.length lc) cpu two s).toList).toArray=#[.slice wp s.ws.length wc] from rfl]
  refine Az (fun wc hx hG=>Xl s.r hs.r.jM hs.r.eU wc) ?_
  refine eX ?_
  have hAo:=AZ (hs.ac hd' acc) Jz
  have hAr:=E5 (hs.ac hd' acc) Jz
  refine iU (fun wc' hG=>Q4 (s.ac two addr acc) (hs.ac hd' acc) hac (by have:=bC hs.mem;show s.ws.length<_;omega) wc hwc tc.es tc.ds (by rw [← htl] at Jz;exact Jz) (hLw.lie (fun e he=>hG.here e av1) (by have:=bC hs.mem;rw [List.length_map];omega)) (hx.1 wc' (fun e he=>hG.here e av1)).1 (hx.1 wc' (fun e he=>hG.here e av1)).2 ⟨_,_,rfl,hx.2⟩) ?_ ?_
  ·rw [← htl] at hAo h8;exact VR (dJ hAo.es.vg).2.1 h8.2.2 aw8
  refine dL ?_
  refine dL ?_
  refine gW ?_
  rintro _ _ ⟨Y2,rfl,rfl⟩ _ _ ⟨Y1,rfl,rfl⟩ u hn ⟨ev1,oU,pJ,he1,hd1,hr1,rfl,g1,g2,g3,hle⟩
  have XM:s.acc cpu two addr acc=nR (s.ac two addr acc) (s.tl cpu).1:=rfl
  have Q5:s.acc cpu two addr acc=nR (s.ac two addr acc) tc.es:=by unfold PS.acc;rw [← htl];rfl
  obtain ⟨X,hX⟩:∃ X,X=s.acc cpu two addr acc:=⟨_,rfl⟩
  rw [← Q5,← hX] at g1 g3 ⊢
  have hX8:X.s.es.length≤8:=by rw [hX,Q5];rw [← htl] at hAo;exact (dJ hAo.es.vg).2.1
  have hD8:tc.ds.length≤8:=by rw [← htl] at h8;exact h8.2.2
  have hXf:X.f.stage ≠ 2→X.f.Fit:=by rw [hX,Q5];rw [← htl] at hAr;exact hAr.f
  have Zw:X.f.kind=0→dM s.ws.length X.n=true:=by rw [hX,Q5];rw [← htl] at hAr;exact hAr.n
  obtain ⟨r1,c1,e1⟩:=g1.opened
  obtain ⟨r2,c2,e2⟩:=g2.opened
  obtain ⟨r3,c3,e3⟩:=g3.opened
  rw [List.length_map] at e1 e2 e3
  subst e1 e2 e3
  refine mP ?_
  refine aQ ?_
  refine aQ ?_
  refine aQ ?_
  refine aQ ?_
  refine aQ ?_
  refine eY ?_
  refine iy ?_
  refine iy ?_
  refine iy ?_
  refine eY ?_
  simp only [DN,List.cons_append,List.nil_append,List.append_nil]
  refine aU (b:=Y1) (tb:=43) (cs:=#[.int .i64 0,.int .i64 0,.int .i64 0,.bool false,.int .i64 0]) (cs':=#[.int .i64 X.f.kind,.int .i64 X.f.stage,.int .i64 X.f.level,.bool X.f.walk,.int .i64 X.f.page]) (hp':=⟨Y2,#[.slice none 0 0,.slice none 0 0],77⟩::(hn++aH.mk M (mc (.slice wp s.ws.length wc) sv (.slice (some ⟨g,0,none⟩) ts.length lc) cpu two s) 82::aH.mk g fO 77::(hq++(hw++ht)))) ?_ au
  refine aU (b:=Y2) (tb:=77) (cs:=#[.slice none 0 0,.slice none 0 0]) (cs':=#[.slice r1 X.s.es.length c1,.slice r2 tc.ds.length c2]) (hp':=⟨Y1,#[.int .i64 X.f.kind,.int .i64 X.f.stage,.int .i64 X.f.level,.bool X.f.walk,.int .i64 X.f.page],43⟩::(hn++aH.mk M (mc (.slice wp s.ws.length wc) sv (.slice (some ⟨g,0,none⟩) ts.length lc) cpu two s) 82::aH.mk g fO 77::(hq++(hw++ht)))) ?_ au
  refine aG ?_
  refine cO ?_
  refine aI (aH.mk g fO 77::aH.mk M (mc (.slice wp s.ws.length wc) sv (.slice (some ⟨g,0,none⟩) ts.length lc) cpu two s) 82::⟨Y1,#[.int .i64 X.f.kind,.int .i64 X.f.stage,.int .i64 X.f.level,.bool X.f.walk,.int .i64 X.f.page],43⟩::⟨Y2,#[.slice r1 X.s.es.length c1,.slice r2 tc.ds.length c2],77⟩::((he1++hd1++hr1)++(hq++(hw++ht)))) (cnt1 hle) ?_
  refine run ?_
  refine dI 16 11 [0,1,2,3,4,5,6,7,8,9,10,12,13,14] [11,15] [] ?_
  refine bY ?_
  refine pW (b:=g) (cs:=fO) (cs':=putAt fO (cpu * 2) [.slice r1 X.s.es.length c1,.slice r2 tc.ds.length c2]) (hp':=aH.mk M (mc (.slice wp s.ws.length wc) sv (.slice (some ⟨g,0,none⟩) ts.length lc) cpu two s) 82::⟨Y1,#[.int .i64 X.f.kind,.int .i64 X.f.stage,.int .i64 X.f.level,.bool X.f.walk,.int .i64 X.f.page],43⟩::⟨Y2,#[.slice r1 X.s.es.length c1,.slice r2 tc.ds.length c2],77⟩::((he1++hd1++hr1)++(hq++(hw++ht)))) ?_ (hput:=rfl)
  refine iM (b:=M) (mc (.slice wp s.ws.length wc) sv (.slice (some ⟨g,0,none⟩) ts.length lc) cpu two { s with pk:={ s.pk with drop:=-1 } }) (hp':=aH.mk g (putAt fO (cpu * 2) [.slice r1 X.s.es.length c1,.slice r2 tc.ds.length c2]) 77::⟨Y1,#[.int .i64 X.f.kind,.int .i64 X.f.stage,.int .i64 X.f.level,.bool X.f.walk,.int .i64 X.f.page],43⟩::⟨Y2,#[.slice r1 X.s.es.length c1,.slice r2 tc.ds.length c2],77⟩::((he1++hd1++hr1)++(hq++(hw++ht)))) ?_ (hperm:=p1)
  refine aG ?_
  refine cO ?_
  refine run ?_
  have hrd:=hAo.rd
  rw [← XM,← hX] at hrd
  simp only [List.length_nil,Nat.zero_add] at hrd
  refine pG (X.s.rd.map dN) (aH.mk M (mc (.slice wp s.ws.length wc) sv (.slice (some ⟨g,0,none⟩) ts.length lc) cpu two { s with pk:={ s.pk with drop:=-1 } }) 82::aH.mk g (putAt fO (cpu * 2) [.slice r1 X.s.es.length c1,.slice r2 tc.ds.length c2]) 77::⟨Y1,#[.int .i64 X.f.kind,.int .i64 X.f.stage,.int .i64 X.f.level,.bool X.f.walk,.int .i64 X.f.page],43⟩::⟨Y2,#[.slice r1 X.s.es.length c1,.slice r2 tc.ds.length c2],77⟩::((he1++hd1++hr1)++(hw++ht))) hLq (uz.own g3 ak) (fun sv2 hq2 hO2=>?_) ay2 yJ au
  rw [← List.map_append] at hO2
  obtain ⟨q2,k2,e4⟩:=hO2.opened
  rw [List.length_map] at e4
  subst e4
  refine aI (aH.mk M (mc (.slice wp s.ws.length wc) sv (.slice (some ⟨g,0,none⟩) ts.length lc) cpu two { s with pk:={ s.pk with drop:=-1 } }) 82::(hq2++(aH.mk g (putAt fO (cpu * 2) [.slice r1 X.s.es.length c1,.slice r2 tc.ds.length c2]) 77::⟨Y1,#[.int .i64 X.f.kind,.int .i64 X.f.stage,.int .i64 X.f.level,.bool X.f.walk,.int .i64 X.f.page],43⟩::⟨Y2,#[.slice r1 X.s.es.length c1,.slice r2 tc.ds.length c2],77⟩::((he1++hd1++hr1)++(hw++ht))))) ak ?_
  refine run ?_
  refine gB (mc (.slice wp s.ws.length wc) (.slice q2 (s.seen++X.s.rd).length k2) (.slice (some ⟨g,0,none⟩) ts.length lc) cpu two (s.put cpu X)) ?_
  refine run ?_
  have hO3:=hput 0 [.slice r1 X.s.es.length c1,.slice r2 tc.ds.length c2] ⟨X.s.es,tc.ds,r1,c1,r2,c2⟩ au3 rfl ⟨rfl,rfl⟩
  have hM:wE ⟨.slice wp s.ws.length wc,.slice q2 (s.seen++X.s.rd).length k2,(.slice (some ⟨g,0,none⟩) ts.length lc),ts.set cpu ⟨X.s.es,tc.ds,r1,c1,r2,c2⟩,hw,hq2,[⟨g,putAt fO (cpu * 2) [.slice r1 X.s.es.length c1,.slice r2 tc.ds.length c2],77⟩],he1++hd1++ht⟩ (s.put cpu X):=
   ⟨hLw,hO2,hO3,jk.set (y:=⟨X.s.es,tc.ds,r1,c1,r2,c2⟩) ⟨g1,g2,hX8,hD8⟩ cpu XL,by rw [List.map_set,Yg];show s.ls.set cpu (X.s.es,tc.ds)=s.ls.set cpu (X.s.es,(s.tl cpu).2);rw [← htl]⟩
  refine aj _ rfl (fun hc=>?_) (fun hc=>?_)
  ·have hk:X.f.kind ≠ 0:=by simpa using hc
   have hp:bU s cpu two addr acc=(gp (s.put cpu X) X.f addr,0):=by
    unfold bU
    rw [← hX,hd,decide_eq_false hk];rfl
   rw [hp]
   refine run ?_
   refine dH [⟨M,mc (.slice wp s.ws.length wc) (.slice q2 (s.seen++X.s.rd).length k2) (.slice (some ⟨g,0,none⟩) ts.length lc) cpu two (s.put cpu X),82⟩] (hq2++(aH.mk g (putAt fO (cpu * 2) [.slice r1 X.s.es.length c1,.slice r2 tc.ds.length c2]) 77::⟨Y1,#[.int .i64 X.f.kind,.int .i64 X.f.stage,.int .i64 X.f.level,.bool X.f.walk,.int .i64 X.f.page],43⟩::⟨Y2,#[.slice r1 X.s.es.length c1,.slice r2 tc.ds.length c2],77⟩::((he1++hd1++hr1)++(hw++ht)))) (fun wc' hG=>Hf _ _ _ cpu two (s.put cpu X) X.f hXf addr M hG.dD) (fun v hn hv=>?_) ?_
   ·obtain ⟨rfl,hle⟩:=hv
    refine run ?_
    exact fin1 ⟨rfl,_,hM.fault _ _,by unfold ML.hp;(exact cnt1 hle)⟩
   ·exact List.Perm.refl _
  ·have hk:X.f.kind=0:=by simpa using hc
   have hp:bU s cpu two addr acc=((s.put cpu X).see X.n,X.n * 64 + ((addr % 64:Nat):Int)):=by
    unfold bU
    rw [← hX,hd,decide_eq_true hk];rfl
   rw [hp]
   refine run ?_
   intro B
   have hn:=jo (Zw hk)
   have BF:=bC hs.mem
   refine pG ([X.n].map dN) (aH.mk M (mc (.slice wp s.ws.length wc) (.slice q2 (s.seen++X.s.rd).length k2) (.slice (some ⟨g,0,none⟩) ts.length lc) cpu two (s.put cpu X)) 82::⟨B,#[.int .i64 X.n],3⟩::aH.mk g (putAt fO (cpu * 2) [.slice r1 X.s.es.length c1,.slice r2 tc.ds.length c2]) 77::⟨Y1,#[.int .i64 X.f.kind,.int .i64 X.f.stage,.int .i64 X.f.level,.bool X.f.walk,.int .i64 X.f.page],43⟩::⟨Y2,#[.slice r1 X.s.es.length c1,.slice r2 tc.ds.length c2],77⟩::((he1++hd1++hr1)++(hw++ht))) hO2 ⟨_,_,rfl,.inr ⟨_,_,rfl,bP (m:=1) mh rfl⟩⟩ (fun sv3 hq3 hO4=>?_) ax6 yJ au
   rw [← List.map_append] at hO4
   obtain ⟨q3,k3,e5⟩:=hO4.opened
   rw [List.length_map] at e5
   subst e5
   refine aI (aH.mk M (mc (.slice wp s.ws.length wc) (.slice q2 (s.seen++X.s.rd).length k2) (.slice (some ⟨g,0,none⟩) ts.length lc) cpu two (s.put cpu X)) 82::(hq3++(aH.mk g (putAt fO (cpu * 2) [.slice r1 X.s.es.length c1,.slice r2 tc.ds.length c2]) 77::⟨Y1,#[.int .i64 X.f.kind,.int .i64 X.f.stage,.int .i64 X.f.level,.bool X.f.walk,.int .i64 X.f.page],43⟩::⟨Y2,#[.slice r1 X.s.es.length c1,.slice r2 tc.ds.length c2],77⟩::((he1++hd1++hr1)++(hw++ht))))) ak ?_
   refine run ?_
   refine gB (mc (.slice wp s.ws.length wc) (.slice q3 (s.seen++X.s.rd++[X.n]).length k3) (.slice (some ⟨g,0,none⟩) ts.length lc) cpu two (s.put cpu X)) ?_
   refine run ?_
   refine fin1 ⟨rfl,⟨.slice wp s.ws.length wc,.slice q3 (s.seen++X.s.rd++[X.n]).length k3,(.slice (some ⟨g,0,none⟩) ts.length lc),ts.set cpu ⟨X.s.es,tc.ds,r1,c1,r2,c2⟩,hw,hq3,[⟨g,putAt fO (cpu * 2) [.slice r1 X.s.es.length c1,.slice r2 tc.ds.length c2],77⟩],he1++hd1++ht⟩,⟨hM.w,hO4,hM.l,hM.t,hM.p⟩,?_⟩
   unfold ML.hp
   show aC (⟨M,mc (.slice wp s.ws.length wc) (.slice q3 (s.seen++X.s.rd++[X.n]).length k3) (.slice (some ⟨g,0,none⟩) ts.length lc) cpu two (s.put cpu X),82⟩::_) _
   (exact ak)
end
def dB.x (r:dB):Nat→Nat
 | 0=>r.x0 | 1=>r.x1 | 2=>r.x2 | 3=>r.x3 | 4=>r.x4 | 5=>r.x5 | 6=>r.x6 | _=>r.x7
def dB.ku (r:dB) (k v:Nat):dB:=
 match k with
 | 0=>{ r with x0:=v } | 1=>{ r with x1:=v } | 2=>{ r with x2:=v } | 3=>{ r with x3:=v }
 | 4=>{ r with x4:=v } | 5=>{ r with x5:=v } | 6=>{ r with x6:=v } | _=>{ r with x7:=v }
theorem dB.x_lt {r:dB} (h:r.Ok) (k:Nat):gm (r.x k):=by
 obtain ⟨h0,h1,h2,h3,h4,h5,h6,h7,_⟩:=h
 unfold dB.x;split<;>assumption
theorem dB.E8 {r:dB} (h:r.Ok) (k:Nat) {v:Nat} (hv:gm v):(r.ku k v).Ok:=by
 obtain ⟨h0,h1,h2,h3,h4,h5,h6,h7,h8,h9,h10,h11,h12,h13,RN⟩:=h
 unfold dB.ku;split<;>(constructor<;>assumption)
theorem dB.XN {r:dB} (h:r.Ok) (k:Int) {v:Nat} (hv:gm v):(r.set k v).Ok:=by
 obtain ⟨h0,h1,h2,h3,h4,h5,h6,h7,h8,h9,h10,h11,h12,h13,RN⟩:=h
 unfold dB.set
 cases decide (k=0)<;>cases decide (k=1)<;>cases decide (k=2)<;>cases decide (k=3)<;>cases decide (k=4)<;>(simp only [cond_true,cond_false];constructor<;>assumption)
theorem dB.XO {r:dB} (h:r.Ok) (k:Int):gm (r.get k):=by
 obtain ⟨h0,h1,h2,h3,h4,h5,h6,h7,h8,h9,h10,h11,h12,h13,RN⟩:=h
 unfold dB.get dB.Y6
 rw [List.getD_eq_getElem?_getD]
 match k.toNat with
 | 0=>exact h9
 | 1=>exact h10
 | 2=>exact h11
 | 3=>exact h12
 | 4=>exact h13
 | 5=>exact RN
 | _ + 6=>show (0:Nat)<_;decide
theorem dB.KP {r:dB} (h:r.Ok) {a b:Nat} (ha:gm a) (hb:gm b):(r.trap a b).Ok:=by
 obtain ⟨h0,h1,h2,h3,h4,h5,h6,h7,h8,h9,h10,h11,h12,h13,RN⟩:=h
 unfold dB.trap
 constructor<;>assumption
theorem dB.UX {r:dB} (h:r.Ok):r.back.Ok:=by
 obtain ⟨h0,h1,h2,h3,h4,h5,h6,h7,h8,h9,h10,h11,h12,h13,RN⟩:=h
 unfold dB.back
 constructor<;>assumption
theorem Dt (z:Int):gm (uW z):=by
 have h1:=AL z
 have h2:IntKind.u64.wrap z<18446744073709551616:=by
  show z % 18446744073709551616<_
  omega
 unfold gm
 omega
theorem Du:∀ (l:List Int) (p:Nat),gm p→gm (l.foldl Qk p)
 | [],p,h=>h
 | x::l,p,h=>Du l (Qk p x) (Dt _)
theorem dB.UY {r:dB} (h:r.Ok) (l:List Int):(r.next l).Ok:=by
 have hp:=Du l _ (Dt ((r.pc:Int) + 4))
 obtain ⟨h0,h1,h2,h3,h4,h5,h6,h7,h8,h9,h10,h11,h12,h13,RN⟩:=h
 unfold dB.next
 constructor<;>assumption
def jB (s:PS) (cpu:Nat):PS:={ s with ls:=vO s.ls cpu }
def PS.due (s:PS) (two:eu) (i:bF):dh:=⟨i.aV,two.tag,(aS (s.r.x i.n.toNat) 48 4:Nat),(aS (s.r.x i.n.toNat) 0 12:Nat)⟩
def PS.more (s:PS) (cpu:Nat) (d:dh):PS:={ s with ls:=s.ls.set cpu ((s.tl cpu).1,(s.tl cpu).2++[d]) }
def iY (s:PS) (cpu:Nat) (two:eu) (i:bF):PS:=
 bif decide ((s.tl cpu).2.length<8) then s.more cpu (s.due two i) else (jB s cpu).more cpu (s.due two i)
def kW (s : PS) (cpu : Nat) (two : eu) : PS :=
  bif decide (s.r.pc % 4 = 0) then
    (bif (bU s cpu two s.r.pc 2).1.over then (bU s cpu two s.r.pc 2).1
     else bif bF.BK (jf s.ws (bU s cpu two s.r.pc 2).2.toNat 4) then { (bU s cpu two s.r.pc 2).1 with iW := bF.of (jf s.ws (bU s cpu two s.r.pc 2).2.toNat 4) }
     else lM (bU s cpu two s.r.pc 2).1 33554432 s.r.pc)
  else lM s 16777216 s.r.pc
def PS.addr (s:PS) (i:bF):Nat:=uW ((s.r.x i.n.toNat:Nat) + i.aV)
def bF.acc (i:bF):Int:=bif decide (i.op=8) then 1 else 0
def sD (s : PS) (cpu : Nat) (two : eu) (i : bF) : PS :=
  bif decide (s.addr i % 2 ^ i.m.toNat = 0) then
    (bif (bU s cpu two (s.addr i) i.acc).1.over then (bU s cpu two (s.addr i) i.acc).1
     else bif decide (i.op = 8) then { (bU s cpu two (s.addr i) i.acc).1 with ws := gG s.ws (bU s cpu two (s.addr i) i.acc).2.toNat (2 ^ i.m.toNat) (s.r.x i.d.toNat) }
     else { (bU s cpu two (s.addr i) i.acc).1 with r := s.r.ku i.d.toNat (jf s.ws (bU s cpu two (s.addr i) i.acc).2.toNat (2 ^ i.m.toNat)) })
  else lM s 16777216 (s.addr i)
def sK (s:PS) (cpu:Nat) (two:eu) (i:bF):PS × Option (List Int):=
 bif decide (i.op=7) || decide (i.op=8) then (sD s cpu two i,some [])
 else bif decide (i.op=9) then (s,some [i.aV])
 else bif decide (i.op=10) then (s,some (bif decide (s.r.x i.n.toNat=0) then [i.aV] else []))
 else bif decide (i.op=11) then ({ s with r:=s.r.ku i.d.toNat (s.r.get i.aV) },some [])
 else bif decide (i.op=12) then ({ s with r:=s.r.set i.aV (s.r.x i.n.toNat) },some [])
 else bif decide (i.op=13) then (iY s cpu two i,some [])
 else bif decide (i.op=14) then (jB s cpu,some [])
 else bif decide (i.op=15) then ({ s with kind:=3 },some [])
 else bif decide (i.op=16) then ({ s with r:=s.r.back },none)
 else ({ s with r:=s.r.ku i.d.toNat (AQ i (s.r.x i.n.toNat) (s.r.x i.m.toNat)).toNat },some [])
def mX (x:PS × Option (List Int)):PS:=
 bif x.1.over then x.1 else match x.2 with
  | none=>x.1
  | some l=>{ x.1 with r:=x.1.r.next l }
def oZ (s:PS) (cpu:Nat) (two:eu):PS:=
 bif (kW s cpu two).over then kW s cpu two else mX (sK (kW s cpu two) cpu two (kW s cpu two).iW)
theorem fD.trap {s:PS} {cpu:Nat} {two:eu} (h:fD s cpu two) {a b:Nat} (ha:gm a) (hb:gm b):fD (lM s a b) cpu two:=⟨h.uX,h.mem,h.cpu,h.len,h.es,h.two,dB.KP h.r ha hb⟩
theorem fD.fault {s:PS} {cpu:Nat} {two:eu} (h:fD s cpu two) (f:mW) {b:Nat} (hb:gm b):fD (gp s f b) cpu two:=by
 unfold gp
 cases decide (f.stage=2) with
 | true=>exact ⟨h.uX,h.mem,h.cpu,h.len,h.es,h.two,h.r⟩
 | false=>exact ⟨h.uX,h.mem,h.cpu,h.len,h.es,h.two,dB.KP h.r (PT _ _ _ au0) hb⟩
theorem rW (s:PS) (f:mW) (b:Nat):(gp s f b).over=true:=by
 unfold gp
 cases decide (f.stage=2)<;>rfl
theorem Bg (s:PS) (f:mW) (b:Nat):(gp s f b).seen=s.seen:=by
 unfold gp
 cases decide (f.stage=2)<;>rfl
theorem fD.put {s:PS} {cpu:Nat} {two:eu} (h:fD s cpu two) {X:zo} (hX:gK s.ws.length X.s.es (s.tl cpu).2):fD (s.put cpu X) cpu two:=by
 refine ⟨h.uX,h.mem,by show cpu<(s.ls.set cpu _).length;rw [List.length_set];exact h.cpu,by show (s.ls.set cpu _).length<_;rw [List.length_set];exact h.len,fun t ht=>?_,h.two,h.r⟩
 rcases List.mem_or_eq_of_mem_set ht with ht | rfl
 ·exact h.es t ht
 ·exact hX
theorem lC {s:PS} {cpu:Nat} {two:eu} (h:fD s cpu two) {addr:Nat} (ha:gm addr) (acc:Int):fD (bU s cpu two addr acc).1 cpu two∧(bU s cpu two addr acc).1.seen.length≤s.seen.length + 25∧((bU s cpu two addr acc).1.over=false→(bU s cpu two addr acc).1.ws=s.ws∧(bU s cpu two addr acc).1.r=s.r∧(bU s cpu two addr acc).1.kind=s.kind∧∃ a:Nat,(bU s cpu two addr acc).2=(a:Int)∧a<8 * s.ws.length∧a % 64=addr % 64):=by
 unfold bU
 cases hd:decide (addr<262144) with
 | false=>
  simp only [cond_false]
  refine ⟨h.fault _ ha,by rw [Bg];omega,fun hv=>?_⟩
  rw [rW] at hv;cases hv
 | true=>
  have hd':=of_decide_eq_true hd
  have hAo:=AZ (h.ac hd' acc) h.te
  have hAr:=E5 (h.ac hd' acc) h.te
  have Q5:s.acc cpu two addr acc=nR (s.ac two addr acc) (s.tl cpu).1:=rfl
  rw [← Q5] at hAo hAr
  generalize s.acc cpu two addr acc=X at hAo hAr ⊢
  have hrd:=hAo.rd
  simp only [List.length_nil,Nat.zero_add] at hrd
  have hp:=h.put hAo.es
  have hsl:(s.put cpu X).seen.length≤s.seen.length + 24:=by
   show (s.seen++X.s.rd).length≤_
   rw [List.length_append];omega
  simp only [cond_true]
  cases hc:decide (X.f.kind=0) with
  | false=>
   simp only [cond_false]
   refine ⟨hp.fault _ ha,by rw [Bg];omega,fun hv=>?_⟩
   rw [rW] at hv;cases hv
  | true=>
   simp only [cond_true]
   refine ⟨⟨hp.uX,hp.mem,hp.cpu,hp.len,hp.es,hp.two,hp.r⟩,?_,fun _=>⟨rfl,rfl,rfl,X.n.toNat * 64 + addr % 64,?_⟩⟩
   ·show ((s.put cpu X).seen++[X.n]).length≤_
    rw [List.length_append,List.length_singleton];omega
   ·have hn:0≤X.n∧X.n.toNat<s.ws.length / 8∧(X.n.toNat:Int)=X.n:=jo (hAr.n (of_decide_eq_true hc))
    have hm:=bC h.mem
    refine ⟨by omega,by omega,by omega⟩
theorem KQ {s:PS} {cpu:Nat} {two:eu} (h:fD s cpu two) {a addr size:Nat} (ha:a<8 * s.ws.length) (hm:a % 64=addr % 64) (hs:size=1∨size=2∨size=4∨size=8) (hal:addr % size=0):xZ s.ws a size:=by
 have:=bC h.mem
 refine ⟨h.uX,by have:=h.mem;simp only [dP,Bool.and_eq_true,decide_eq_true_eq] at this;omega,by omega,ha,hs,?_⟩
 rcases hs with rfl | rfl | rfl | rfl<;>omega
theorem Bh {ws:List Nat} {a size:Nat} (hs:size=1∨size=2∨size=4∨size=8):jf ws a size<2 ^ (8 * size):=by
 have h1:=oh (ws.getD (a / 8) default) (a % 8 * 8) (n:=8 * size) at7
 unfold jf
 rcases hs with rfl | rfl | rfl | rfl<;>(simp only [Nat.reduceMul,Nat.reducePow,Nat.reduceSub] at h1 ⊢;omega)
theorem Q7 {v:Nat} (h:bF.BK v=true):(bF.of v).may=true:=by
 have h2:bF.of v=bF.MQ v:=by unfold bF.of;rw [h];rfl
 rw [h2]
 simp only [bF.BK,Bool.and_eq_true] at h
 exact h.1
theorem Ho {s:PS} {cpu:Nat} {two:eu} (h:fD s cpu two):fD (kW s cpu two) cpu two∧(kW s cpu two).seen.length≤s.seen.length + 25∧((kW s cpu two).over=false→(kW s cpu two).iW.may=true∧(kW s cpu two).kind=s.kind):=by
 obtain ⟨h1,h2,h3⟩:=lC h h.r.pc 2
 unfold kW
 cases hd:decide (s.r.pc % 4=0) with
 | false=>exact ⟨h.trap (by unfold gm;decide) h.r.pc,(by show s.seen.length≤_;omega),fun hv=>by cases hv⟩
 | true=>
  generalize bU s cpu two s.r.pc 2=P at h1 h2 h3 ⊢
  simp only [cond_true]
  cases ho:P.1.over with
  | true=>exact ⟨h1,h2,fun hv=>by rw [cond_true,ho] at hv;cases hv⟩
  | false=>
   simp only [cond_false]
   cases hk:bF.BK (jf s.ws P.2.toNat 4) with
   | true=>exact ⟨⟨h1.uX,h1.mem,h1.cpu,h1.len,h1.es,h1.two,h1.r⟩,h2,fun _=>⟨Q7 hk,(h3 ho).2.2.1⟩⟩
   | false=>exact ⟨h1.trap (by unfold gm;decide) h.r.pc,h2,fun hv=>by cases hv⟩
theorem Dv {ws:List Nat} (h:uy ws) {a size v:Nat}:uy (gG ws a size v):=by
 refine h.set ?_ _
 have h1:ws.getD (a / 8) default<18446744073709551616:=h.at _
 unfold Zy
 exact Nat.or_lt_two_pow (n:=64) (Nat.lt_of_le_of_lt Nat.and_le_left h1) (Nat.mod_lt _ au0)
theorem Fa {i:bF} (hi:i.may=true) (h:i.op=7∨i.op=8):2 ^ i.m.toNat=1∨2 ^ i.m.toNat=2∨2 ^ i.m.toNat=4∨2 ^ i.m.toNat=8:=by
 have h2:i.kind=true:=by
  simp only [bF.may,Bool.and_eq_true] at hi;exact hi.2
 have h3:i.m≤3:=by
  unfold bF.kind at h2
  rcases h with h | h<;>(rw [h] at h2;simpa using h2)
 have h4:i.m.toNat=0∨i.m.toNat=1∨i.m.toNat=2∨i.m.toNat=3:=by omega
 rcases h4 with e | e | e | e<;>rw [e]<;>decide
theorem UZ {s:PS} {cpu:Nat} {two:eu} (h:fD s cpu two) {i:bF} (hi:i.may=true) (hop:i.op=7∨i.op=8):fD (sD s cpu two i) cpu two∧(sD s cpu two i).seen.length≤s.seen.length + 25:=by
 have ha:gm (s.addr i):=Dt _
 obtain ⟨h1,h2,h3⟩:=lC h ha i.acc
 have hsz:=Fa hi hop
 unfold sD
 cases hd:decide (s.addr i % 2 ^ i.m.toNat=0) with
 | false=>exact ⟨h.trap (by unfold gm;decide) ha,by show s.seen.length≤_;omega⟩
 | true=>
  generalize bU s cpu two (s.addr i) i.acc=P at h1 h2 h3 ⊢
  simp only [cond_true]
  cases ho:P.1.over with
  | true=>exact ⟨h1,h2⟩
  | false=>
   obtain ⟨h4,h5,_,a,h6,h7,h8⟩:=h3 ho
   simp only [cond_false]
   cases decide (i.op=8) with
   | true=>exact ⟨⟨Dv h.uX,by rw [cond_true];show dP (gG s.ws _ _ _).length=true;rw [gG,List.length_set];exact h.mem,h1.cpu,h1.len,by rw [cond_true];show ∀ t∈P.1.ls,gK (gG s.ws _ _ _).length t.1 t.2;rw [gG,List.length_set,← h4];exact h1.es,h1.two,h1.r⟩,h2⟩
   | false=>exact ⟨⟨h1.uX,h1.mem,h1.cpu,h1.len,h1.es,h1.two,dB.E8 h.r _ (Nat.lt_of_lt_of_le (Bh hsz) (by rcases hsz with e | e | e | e<;>rw [e]<;>decide))⟩,h2⟩
theorem Dw {n:Nat} {es:List bf} {ds ds2 due:List dh} (h:gK n es ds) (hd:ds2.all dh.may=true) (h8:ds2.length≤8):gK n (dZ es due) ds2:=by
 obtain ⟨h1,h2,h3,h4,h5⟩:=rP.1 h.vg
 have hsub:(dZ es due).Sublist es:=List.filter_sublist
 exact ⟨rP.2 ⟨fun e he=>h1 e (hsub.subset he),h2.sublist hsub,hd,Nat.le_trans hsub.length_le h4,h8⟩,fun e he=>h.held e (hsub.subset he)⟩
theorem pM {s:PS} {cpu:Nat} {two:eu} (h:fD s cpu two):fD (jB s cpu) cpu two:=by
 have hl:(vO s.ls cpu).length=s.ls.length:=by unfold vO;rw [List.length_set,List.length_map]
 refine ⟨h.uX,h.mem,by show cpu<(vO s.ls cpu).length;rw [hl];exact h.cpu,by show (vO s.ls cpu).length<_;rw [hl];exact h.len,fun t ht=>?_,h.two,h.r⟩
 rcases List.mem_or_eq_of_mem_set ht with ht | rfl
 ·obtain ⟨u,hu,rfl⟩:=List.mem_map.1 ht
  have:=rP.1 (h.es u hu).vg
  exact Dw (h.es u hu) this.2.2.1 this.2.2.2.2
 ·exact Dw (h.es _ (Dq h.cpu)) rfl au3
theorem KR {s:PS} {cpu:Nat} {two:eu} (h:fD s cpu two) {d:dh} (hd:d.may=true) (h8:(s.tl cpu).2.length<8):fD (s.more cpu d) cpu two:=by
 refine ⟨h.uX,h.mem,by show cpu<(s.ls.set cpu _).length;rw [List.length_set];exact h.cpu,by show (s.ls.set cpu _).length<_;rw [List.length_set];exact h.len,fun t ht=>?_,h.two,h.r⟩
 rcases List.mem_or_eq_of_mem_set ht with ht | rfl
 ·exact h.es t ht
 ·obtain ⟨h1,h2,h3,h4,h5⟩:=rP.1 h.te.vg
  refine ⟨rP.2 ⟨h1,h2,?_,h4,?_⟩,h.te.held⟩
  ·rw [List.all_append,h3];simp [hd]
  ·rw [List.length_append,List.length_singleton];omega
theorem KT {s:PS} {cpu:Nat} {two:eu} (h:fD s cpu two) {i:bF} (hi:i.may=true) (hop:i.op=13):(s.due two i).may=true:=by
 have h2:i.kind=true:=by
  simp only [bF.may,Bool.and_eq_true] at hi;exact hi.2
 have h3:PtD.bV i.aV 3 5=true:=by
  unfold bF.kind at h2
  rw [hop] at h2;simpa using h2
 have h4:=eu.iC h.two.2
 have h5:=oh (s.r.x i.n.toNat) 48 (n:=4) au0
 have h6:=oh (s.r.x i.n.toNat) 0 (n:=12) au0
 simp only [PtD.bV,Bool.and_eq_true,decide_eq_true_eq] at h3
 unfold dh.may PS.due
 simp only [PtD.bV,Bool.and_eq_true,decide_eq_true_eq]
 omega
theorem Fe {s:PS} {cpu:Nat} (h:cpu<s.ls.length):(jB s cpu).tl cpu=(dZ (s.tl cpu).1 (s.tl cpu).2,[]):=by
 unfold PS.tl jB vO
 rw [List.getD_eq_getElem?_getD,List.getElem?_set_self (by rw [List.length_map];exact h)]
 rfl
theorem NH {s:PS} {cpu:Nat} {two:eu} (h:fD s cpu two) {i:bF} (hi:i.may=true) (hop:i.op=13):fD (iY s cpu two i) cpu two:=by
 have hd:=KT h hi hop
 unfold iY
 cases h8:decide ((s.tl cpu).2.length<8) with
 | true=>exact KR h hd (of_decide_eq_true h8)
 | false=>exact KR (pM h) hd (by rw [Fe h.cpu];exact Nat.zero_lt_succ 7)
theorem U0 {i:bF} {n m:Nat} (hn:gm n) (hm:gm m):gm (AQ i n m).toNat:=by
 have hw:∀ z:Int,gm (IntKind.u64.wrap z).toNat:=Dt
 have hmod:∀ z:Int,gm (z % 18446744073709551616).toNat:=fun z=>by unfold gm;omega
 unfold AQ
 cases decide (i.op=1) with
 | true=>exact hw _
 | false=>
  cases decide (i.op=2) with
  | true=>exact hmod _
  | false=>
   cases decide (i.op=3) with
   | true=>exact hmod _
   | false=>
    cases decide (i.op=4) with
    | true=>exact Nat.lt_of_le_of_lt Nat.and_le_left hn
    | false=>
     cases decide (i.op=5) with
     | true=>exact Nat.or_lt_two_pow (n:=64) hn hm
     | false=>exact Nat.xor_lt_two_pow (n:=64) hn hm
theorem fD.reg {s:PS} {cpu:Nat} {two:eu} (h:fD s cpu two) {r:dB} (hr:r.Ok):fD { s with r:=r } cpu two:=⟨h.uX,h.mem,h.cpu,h.len,h.es,h.two,hr⟩
theorem VS {s:PS} {cpu:Nat} {two:eu} (h:fD s cpu two) {i:bF} (hi:i.may=true):fD (sK s cpu two i).1 cpu two∧(sK s cpu two i).1.seen.length≤s.seen.length + 25:=by
 unfold sK
 cases U1:(decide (i.op=7) || decide (i.op=8)) with
 | true=>exact UZ h hi (by simpa using U1)
 | false=>
  cases decide (i.op=9) with
  | true=>exact ⟨h,by show s.seen.length≤_;omega⟩
  | false=>
   cases decide (i.op=10) with
   | true=>exact ⟨h,by show s.seen.length≤_;omega⟩
   | false=>
    cases decide (i.op=11) with
    | true=>exact ⟨h.reg (dB.E8 h.r _ (dB.XO h.r _)),by show s.seen.length≤_;omega⟩
    | false=>
     cases decide (i.op=12) with
     | true=>exact ⟨h.reg (dB.XN h.r _ (dB.x_lt h.r _)),by show s.seen.length≤_;omega⟩
     | false=>
      cases h13:decide (i.op=13) with
      | true=>exact ⟨NH h hi (of_decide_eq_true h13),by simp only [cond_true,cond_false];unfold iY;cases decide ((s.tl cpu).2.length<8)<;>(show s.seen.length≤_;omega)⟩
      | false=>
       cases decide (i.op=14) with
       | true=>exact ⟨pM h,by show s.seen.length≤_;omega⟩
       | false=>
        cases decide (i.op=15) with
        | true=>exact ⟨⟨h.uX,h.mem,h.cpu,h.len,h.es,h.two,h.r⟩,by show s.seen.length≤_;omega⟩
        | false=>
         cases decide (i.op=16) with
         | true=>exact ⟨h.reg (dB.UX h.r),by show s.seen.length≤_;omega⟩
         | false=>exact ⟨h.reg (dB.E8 h.r _ (U0 (dB.x_lt h.r _) (dB.x_lt h.r _))),by show s.seen.length≤_;omega⟩
theorem step_ok {s:PS} {cpu:Nat} {two:eu} (h:fD s cpu two):fD (oZ s cpu two) cpu two∧(oZ s cpu two).seen.length≤s.seen.length + 50:=by
 obtain ⟨h1,h2,h3⟩:=Ho h
 unfold oZ
 generalize kW s cpu two=F at h1 h2 h3 ⊢
 cases ho:F.over with
 | true=>exact ⟨h1,by rw [cond_true];omega⟩
 | false=>
  obtain ⟨h4,h5⟩:=VS h1 (h3 ho).1
  simp only [cond_false]
  generalize sK F cpu two F.iW=D at h4 h5 ⊢
  unfold mX
  cases D.1.over with
  | true=>exact ⟨h4,by rw [cond_true];omega⟩
  | false=>
   match D.2 with
   | none=>exact ⟨h4,by show D.1.seen.length≤_;omega⟩
   | some l=>exact ⟨h4.reg (dB.UY h4.r l),by show D.1.seen.length≤_;omega⟩
section
attribute [local irreducible] Hy St Ops DH gq iK iD fQ DS fB kz
theorem uH {α:Type} {b:Bool} {x y:α} (h:b=true):(bif b then x else y)=x:=by rw [h];rfl
theorem lV {α:Type} {b:Bool} {x y:α} (h:b=false):(bif b then x else y)=y:=by rw [h];rfl
def U2 (M cpu:Nat) (two:eu) (s:PS) (v:Value) (u:Value) (hn:Hp):Prop:=u=v∧∃ L,wE L s∧aC (L.hp M cpu two s) hn
theorem wE.mem {L:ML} {s:PS} (h:wE L s):∃ wp wc,L.wv=.slice wp s.ws.length wc∧s.ws.length≤wc:=by
 obtain ⟨wp,wc,e,h2⟩:=h.w.kN
 rw [List.length_map] at e h2
 exact ⟨wp,wc,e,h2⟩
theorem wE.trap {L:ML} {s:PS} (h:wE L s) (a b:Nat):wE L (lM s a b):=⟨h.w,h.q,h.l,h.t,h.p⟩
theorem Q8 (L:ML) (M cpu:Nat) (two:eu) (s:PS) (hL:wE L s) (hs:fD s cpu two) (hq:s.seen.length<90000) (hov:s.over=false) {w:World} (hN:eF (L.hp M cpu two s) w):Fn Tryz.prog 40 [.pointer (some ⟨M,0,none⟩)].toArray w ((L.hp M cpu two s).map (·.b)) (U2 M cpu two (kW s cpu two) (.tuple #[])):=by
 obtain ⟨h1,h2,h3⟩:=lC hs hs.r.pc 2
 refine dY (aH.mk M (mc L.wv L.sv L.lv cpu two s) 82::(L.hl++L.hs++(L.hw++L.ht))) hN Tryz.func40 ?_
 refine run ?_
 refine dH [aH.mk M (mc L.wv L.sv L.lv cpu two s) 82] (L.hl++L.hs++(L.hw++L.ht)) (fun wc hG=>Be L.wv L.sv L.lv cpu two s s.r.pc 4 M au0 au0 hG.dD) (fun v hn hv=>?_) (.refl _)
 obtain ⟨rfl,hle⟩:=hv
 unfold kW
 cases hd:decide (s.r.pc % 4=0) with
 | false=>
  have ha:l9 s s.r.pc 4=lM s 16777216 s.r.pc:=by unfold l9;rw [hd];rfl
  rw [ha] at hle
  simp only [cond_false]
  refine aW ?_
  exact fin0 ⟨rfl,L,hL.trap _ _,by unfold ML.hp;(exact cnt1 hle)⟩
 | true=>
  have ha:l9 s s.r.pc 4=s:=by unfold l9;rw [hd];rfl
  rw [ha] at hle
  refine aI (aH.mk M (mc L.wv L.sv L.lv cpu two s) 82::(L.hl++L.hs++(L.hw++L.ht))) (cnt1 hle) ?_
  refine aW ?_
  refine dH (aH.mk M (mc L.wv L.sv L.lv cpu two s) 82::(L.hl++L.hs++(L.hw++L.ht))) [] (fun wc hG=>Hl L M cpu two s hL hs at7 s.r.pc hs.r.pc 2 rfl hG.dD) (fun v hn2 hv=>?_) au
  obtain ⟨rfl,L2,hL2,hle2⟩:=hv
  generalize bU s cpu two s.r.pc 2=P at h1 h2 h3 hL2 hle2 ⊢
  unfold ML.hp at hle2
  refine aI (aH.mk M (mc L2.wv L2.sv L2.lv cpu two P.1) 82::(L2.hl++L2.hs++(L2.hw++L2.ht))) (cnt1 hle2) ?_
  simp only [cond_true]
  refine run ?_
  refine aj _ rfl (fun hc=>?_) (fun hc=>?_)
  ·rw [uH hc]
   refine run ?_
   exact fin0 ⟨rfl,L2,hL2,by unfold ML.hp;(exact ak)⟩
  rw [lV hc]
  obtain ⟨hws,hr,_,a,ha2,hlt,hm⟩:=h3 hc
  have hpl:xZ P.1.ws a 4:=KQ h1 (by rw [hws];exact hlt) hm (.inr (.inr (.inl rfl))) (of_decide_eq_true hd)
  obtain ⟨wp,wc,ew,hwc⟩:=hL2.mem
  have hml:∀ w',Here L2.hw w'→aB w' L2.wv 1 (P.1.ws.map uV):=fun w' hw=>hL2.w.lie hw (by have:=bC h1.mem;rw [List.length_map];omega)
  rw [ew] at hml ⊢
  rw [← hws,← hr,ha2,Int.toNat_natCast]
  have hrl:jf P.1.ws a 4<4294967296:=Bh (.inr (.inr (.inl rfl)))
  refine run ?_
  refine ax (fun wc' hG=>KL P.1.ws a 4 hpl (hml wc' (fun e he=>hG.here e av1))) ?_
  refine run ?_
  refine fA au2 (jr ay rfl rfl rfl) ?_
  rw [show IntKind.u32.wrap ((jf P.1.ws a 4:Nat):Int)=((jf P.1.ws a 4:Nat):Int) by rw [IntKind.wrap_u32];omega]
  refine run ?_
  refine ax (fun wc' hG=>Zd (jf P.1.ws a 4) hrl wc') ?_
  refine run ?_
  intro I
  refine run ?_
  cases hk:bF.BK (jf P.1.ws a 4) with
  | false=>
   simp only [cond_false]
   refine aW ?_
   refine dH [aH.mk M (mc (.slice wp P.1.ws.length wc) L2.sv L2.lv cpu two P.1) 82] (aH.mk I #[.int .i64 (bF.of (jf P.1.ws a 4)).op,.int .i64 (bF.of (jf P.1.ws a 4)).d,.int .i64 (bF.of (jf P.1.ws a 4)).n,.int .i64 (bF.of (jf P.1.ws a 4)).m,.int .i64 (bF.of (jf P.1.ws a 4)).aV] 41::(L2.hl++L2.hs++(L2.hw++L2.ht))) (fun wc' hG=>EY _ L2.sv L2.lv cpu two P.1 33554432 P.1.r.pc M hG.dD) (fun v hn hv=>?_) au
   obtain ⟨rfl,hle⟩:=hv
   refine run ?_
   exact fin0 ⟨rfl,L2,hL2.trap _ _,by unfold ML.hp;rw [ew];(exact cnt1 hle)⟩
  | true=>
   simp only [cond_true]
   refine aW ?_
   refine gB (mc (.slice wp P.1.ws.length wc) L2.sv L2.lv cpu two { P.1 with iW:=bF.of (jf P.1.ws a 4) }) ?_ (hperm:=p1)
   refine run ?_
   exact fin0 ⟨rfl,L2,⟨hL2.w,hL2.q,hL2.l,hL2.t,hL2.p⟩,by unfold ML.hp;rw [ew];(exact ak)⟩
theorem Q9 (wv sv lv:Value) (cpu:Nat) (two:eu) (s:PS) {k:Nat} (h:k<8):nth (mc wv sv lv cpu two s).toList (15 + k)=some (.int .u64 (s.r.x k:Nat)):=by
 match k,h with
 | 0,_=>rfl | 1,_=>rfl | 2,_=>rfl | 3,_=>rfl | 4,_=>rfl | 5,_=>rfl | 6,_=>rfl | 7,_=>rfl
theorem Ff (wv sv lv:Value) (cpu:Nat) (two:eu) (s:PS) {k:Nat} (h:k<8) (v:Nat):putAt (mc wv sv lv cpu two s) (15 + k) [.int .u64 (v:Nat)]=mc wv sv lv cpu two { s with r:=s.r.ku k v }:=by
 match k,h with
 | 0,_=>rfl | 1,_=>rfl | 2,_=>rfl | 3,_=>rfl | 4,_=>rfl | 5,_=>rfl | 6,_=>rfl | 7,_=>rfl
theorem Dx (x:Nat) (aV:Int):IntKind.u64.wrap ((x:Int) + IntKind.u64.wrap aV)=((uW ((x:Nat) + aV):Nat):Int):=by
 rw [← AL]
 simp only [IntKind.wrap_u64]
 omega
theorem k3 {K:Nat} (h:2 ^ K=1∨2 ^ K=2∨2 ^ K=4∨2 ^ K=8):K≤3:=by
 refine Nat.le_of_not_lt fun h2=>?_
 have:2 ^ 4≤2 ^ K:=Nat.pow_le_pow_right au0 h2
 omega
theorem Dy {K:Nat} (h:K≤3):IntKind.i64.wrap (1 * 2 ^ (K:Int).toNat)=((2 ^ K:Nat):Int):=by
 match K,h with
 | 0,_=>decide
 | 1,_=>decide
 | 2,_=>decide
 | 3,_=>decide
theorem U3 (L:ML) (M cpu:Nat) (two:eu) (s:PS) (hL:wE L s) (hs:fD s cpu two) (hq:s.seen.length<90000) (hov:s.over=false) (op aV:Int) (D N K:Nat) (hi:(⟨op,D,N,K,aV⟩:bF).may=true) (hop:op=7∨op=8) {w:World} (hN:eF (L.hp M cpu two s) w):Fn Tryz.prog 73 [.pointer (some ⟨M,0,none⟩),.agg #[.int .i64 op,.int .i64 (D:Nat),.int .i64 (N:Nat),.int .i64 (K:Nat),.int .i64 aV]].toArray w ((L.hp M cpu two s).map (·.b)) (U2 M cpu two (sD s cpu two ⟨op,D,N,K,aV⟩) (.tuple #[])):=by
 have hb:PtD.bV (D:Int) 0 7=true∧PtD.bV (N:Int) 0 7=true∧PtD.bV (K:Int) 0 7=true:=by
  simp only [bF.may,bF.base,Bool.and_eq_true] at hi
  exact ⟨hi.1.2.1,hi.1.2.2.1,hi.1.2.2.2.1⟩
 obtain ⟨hD,hN',hK⟩:D<8∧N<8∧K<8:=by
  simp only [PtD.bV,Bool.and_eq_true,decide_eq_true_eq] at hb;omega
 have hsz:=Fa hi hop
 have hsz':2 ^ K=1∨2 ^ K=2∨2 ^ K=4∨2 ^ K=8:=hsz
 have hK3:=k3 hsz'
 have hxN:=Q9 L.wv L.sv L.lv cpu two s hN'
 refine dY (aH.mk M (mc L.wv L.sv L.lv cpu two s) 82::(L.hl++L.hs++(L.hw++L.ht))) hN Tryz.func73 ?_
 refine run ?_
 intro I
 refine run ?_
 refine eG ?_
 refine bW ?_
 refine qf (jr ay rfl rfl rfl) ?_
 refine bW ?_
 refine qf (wu rfl rfl at7 (by show (K:Int)≤64;omega)) ?_
 rw [Dx,Dy hK3]
 rw [show uW ((s.r.x N:Nat) + aV)=s.addr ⟨op,D,N,K,aV⟩ from rfl]
 have ha0:gm (s.addr ⟨op,D,N,K,aV⟩):=Dt _
 unfold sD
 obtain ⟨Z,hZ⟩:∃ Z,Z=s.addr ⟨op,D,N,K,aV⟩:=⟨_,rfl⟩
 obtain ⟨ac,hac⟩:∃ ac,ac=bF.acc ⟨op,D,N,K,aV⟩:=⟨_,rfl⟩
 have XP:PtD.bV ac 0 2=true:=by rw [hac];unfold bF.acc;cases decide (op=8)<;>rfl
 rw [← hZ] at ha0 ⊢
 rw [← hac]
 dsimp only [Int.toNat_natCast]
 obtain ⟨h1,h2,h3⟩:=lC hs ha0 ac
 refine bW ?_
 refine run ?_
 refine dH [aH.mk M (mc L.wv L.sv L.lv cpu two s) 82] (aH.mk I #[.int .i64 op,.int .i64 (D:Nat),.int .i64 (N:Nat),.int .i64 (K:Nat),.int .i64 aV] 41::(L.hl++L.hs++(L.hw++L.ht))) (fun wc hG=>Be L.wv L.sv L.lv cpu two s Z (2 ^ K) M at7 at7 hG.dD) (fun v hn hv=>?_) au
 obtain ⟨rfl,hle⟩:=hv
 cases hd:decide (Z % 2 ^ K=0) with
 | false=>
  have ha:l9 s Z (2 ^ K)=lM s 16777216 Z:=by unfold l9;rw [hd];rfl
  rw [ha] at hle
  simp only [cond_false]
  refine aW ?_
  exact fin0 ⟨rfl,L,hL.trap _ _,by unfold ML.hp;(exact cnt1 hle)⟩
 | true=>
  have ha:l9 s Z (2 ^ K)=s:=by unfold l9;rw [hd];rfl
  rw [ha] at hle
  refine aI (aH.mk I #[.int .i64 op,.int .i64 (D:Nat),.int .i64 (N:Nat),.int .i64 (K:Nat),.int .i64 aV] 41::aH.mk M (mc L.wv L.sv L.lv cpu two s) 82::(L.hl++L.hs++(L.hw++L.ht))) (cnt1 hle) ?_
  refine aW ?_
  refine dW (σ:=Unit) (fun _=>[(6,.int .i64 ac),(5,.int .i64 (2 ^ K:Nat)),(4,.int .u64 (Z:Nat)),(3,.pointer (some ⟨I,0,none⟩)),(0,.pointer (some ⟨M,0,none⟩))]) (fun _=>aH.mk I #[.int .i64 op,.int .i64 (D:Nat),.int .i64 (N:Nat),.int .i64 (K:Nat),.int .i64 aV] 41::aH.mk M (mc L.wv L.sv L.lv cpu two s) 82::(L.hl++L.hs++(L.hw++L.ht))) (fun _=>True) ?_ ?_
  ·refine aj _ rfl (fun hc=>?_) (fun hc=>?_)
   ·rw [show ac=1 by rw [hac];unfold bF.acc;rw [hc];rfl]
    refine run ?_
    exact dA () trivial
   ·rw [show ac=0 by rw [hac];unfold bF.acc;rw [hc];rfl]
    refine run ?_
    exact dA () trivial
  rintro _ _
  refine run ?_
  refine dH (aH.mk M (mc L.wv L.sv L.lv cpu two s) 82::(L.hl++L.hs++(L.hw++L.ht))) [aH.mk I #[.int .i64 op,.int .i64 (D:Nat),.int .i64 (N:Nat),.int .i64 (K:Nat),.int .i64 aV] 41] (fun wc hG=>Hl L M cpu two s hL hs at7 Z ha0 ac XP hG.dD) (fun v hn2 hv=>?_) au
  obtain ⟨rfl,L2,hL2,hle2⟩:=hv
  generalize bU s cpu two Z ac=P at h1 h2 h3 hL2 hle2 ⊢
  unfold ML.hp at hle2
  refine aI (aH.mk I #[.int .i64 op,.int .i64 (D:Nat),.int .i64 (N:Nat),.int .i64 (K:Nat),.int .i64 aV] 41::aH.mk M (mc L2.wv L2.sv L2.lv cpu two P.1) 82::(L2.hl++L2.hs++(L2.hw++L2.ht))) (cnt1 hle2) ?_
  simp only [cond_true]
  refine run ?_
  refine aj _ rfl (fun hc=>?_) (fun hc=>?_)
  ·rw [uH hc]
   refine run ?_
   exact fin0 ⟨rfl,L2,hL2,by unfold ML.hp;(exact ak)⟩
  rw [lV hc]
  obtain ⟨hws,hr,_,a,ha2,hlt,hm⟩:=h3 hc
  have hpl:xZ P.1.ws a (2 ^ K):=KQ h1 (by rw [hws];exact hlt) hm hsz' (of_decide_eq_true hd)
  obtain ⟨wp,wc,ew,hwc⟩:=hL2.mem
  have hml:∀ w',Here L2.hw w'→aB w' L2.wv 1 (P.1.ws.map uV):=fun w' hw=>hL2.w.lie hw (by have:=bC h1.mem;rw [List.length_map];omega)
  rw [ew] at hml ⊢
  rw [← hws,← hr,ha2,Int.toNat_natCast]
  refine run ?_
  have hxD:=Q9 (.slice wp P.1.ws.length wc) L2.sv L2.lv cpu two P.1 hD
  refine aj _ rfl (fun hc8=>?_) (fun hc8=>?_)
  ·rw [uH hc8]
   refine run ?_
   refine iQ 20 [0,1,2,3,4,5,6,7,8,9,10,11,12,13,14,15] [16] [17,18,19] [20,21] [22] ?_
   refine eX ?_
   refine iU (fun wc' hG=>QT P.1.ws a (2 ^ K) (P.1.r.x D) hpl (dB.x_lt h1.r D) (hml wc' (fun e he=>hG.here e av1))) ?_ ?_
   ·obtain ⟨a1,b1,o1⟩:=fE (e:=25) (xs:=(gG P.1.ws a (2 ^ K) (P.1.r.x D)).map uV) (x8 _) (by have:=bC h1.mem;rw [List.length_map,gG,List.length_set];omega)
    exact ⟨_,_,a1,b1,rfl,o1,aC.refl _⟩
   refine gW ?_
   rintro u hn ⟨v',h',rfl,g1,hle3⟩
   refine mP ?_
   refine aQ ?_
   refine aQ ?_
   refine eY ?_
   refine jR ?_
   refine rF ?_
   refine eY ?_
   simp only [DN,List.cons_append,List.nil_append,List.append_nil]
   obtain ⟨q1,c1,e1⟩:=g1.opened
   rw [List.length_map] at e1
   subst e1
   refine iM (b:=M) (tb:=82) (cs:=mc (.slice wp P.1.ws.length wc) L2.sv L2.lv cpu two P.1) (mc (.slice q1 (gG P.1.ws a (2 ^ K) (P.1.r.x D)).length c1) L2.sv L2.lv cpu two { P.1 with ws:=gG P.1.ws a (2 ^ K) (P.1.r.x D) }) (hp':=hn++(aH.mk I #[.int .i64 op,.int .i64 (D:Nat),.int .i64 (N:Nat),.int .i64 (K:Nat),.int .i64 aV] 41::(L2.hl++L2.hs++(L2.hw++L2.ht)))) ?_ (hperm:=by (exact au))
   refine aG ?_
   refine cO ?_
   refine run ?_
   exact fin0 ⟨rfl,⟨.slice q1 (gG P.1.ws a (2 ^ K) (P.1.r.x D)).length c1,L2.sv,L2.lv,L2.ts,h',L2.hs,L2.hl,L2.ht⟩,⟨g1,hL2.q,hL2.l,hL2.t,hL2.p⟩,by unfold ML.hp;(exact cnt1 hle3)⟩
  ·rw [lV hc8]
   refine run ?_
   refine dI 19 18 [0,1,2,3,4,5,6,7,8,9,10,11,12,13,14,15,16,17] [18] [] ?_
   refine bY ?_
   refine kS (fun wc' hx hG=>KL P.1.ws a (2 ^ K) hpl (hml wc' (fun e he=>hG.here e av1))) ?_
   refine bY ?_
   refine iM (b:=M) (tb:=82) (cs:=mc (.slice wp P.1.ws.length wc) L2.sv L2.lv cpu two P.1) (mc (.slice wp P.1.ws.length wc) L2.sv L2.lv cpu two { P.1 with r:=P.1.r.ku D (jf P.1.ws a (2 ^ K)) }) (hp':=aH.mk I #[.int .i64 op,.int .i64 (D:Nat),.int .i64 (N:Nat),.int .i64 (K:Nat),.int .i64 aV] 41::(L2.hl++L2.hs++(L2.hw++L2.ht))) ?_ (hperm:=by (exact au)) (hput:=Ff _ _ _ _ _ _ hD _) (hlt:=Nat.ble_eq_true_of_le (show 15 + D + 1≤42 by omega))
   refine aG ?_
   refine cO ?_
   refine run ?_
   exact fin0 ⟨rfl,L2,⟨hL2.w,hL2.q,hL2.l,hL2.t,hL2.p⟩,by unfold ML.hp;rw [ew];(exact ak)⟩
theorem wE.tls {L:ML} {s:PS} {cpu:Nat} {two:eu} (h:wE L s) (hs:fD s cpu two) {w:World} (h1:Here L.hl w) (h2:Here L.ht w):qB w L.lv L.ts:=by
 have hlen:L.ts.length=s.ls.length:=by rw [← h.p,List.length_map]
 have:=hs.len
 exact ⟨h.l.lie h1 au1,fun t ht=>((h.t.i t ht).1 w h2).1,fun t ht=>((h.t.i t ht).1 w h2).2⟩
theorem wE.U4 {L:ML} {s:PS} {cpu:Nat} {two:eu} (h:wE L s) (hs:fD s cpu two):(∀ t∈L.ts,t.es.length≤t.ec)∧(∀ t∈L.ts,bJ t.es t.ds=true):=by
 refine ⟨fun t ht=>(h.t.i t ht).2,fun t ht=>?_⟩
 have hm:t.p∈s.ls:=by rw [← h.p];exact List.mem_map.2 ⟨t,ht,rfl⟩
 exact (hs.es _ hm).vg
def XQ:Hp:=[⟨0,#[],0⟩,⟨0,#[.bool true],0⟩]
theorem Hq {w:World} (h:Here XQ w):False:=by
 have h1:=h _ (List.mem_cons_self ..)
 have h2:=h _ (List.mem_cons_of_mem _ (List.mem_cons_self ..))
 have h3:=h1.symm.trans h2
 simp only [Option.some.injEq,Obj.cells.injEq] at h3
 exact absurd (congrArg Array.size h3.1) au0
theorem uS {ls:List (List bf × List dh)} (hl:ls.length<100000):∃ v ha hs,∃ ts:List dR,Own 77 2 v ha (ts.map lq)∧wC hs ts∧ts.map dR.p=ls:=by
 obtain ⟨v,ha,hO⟩:=fE (e:=77) (sz:=2) (xs:=(ls.map fun t=>(⟨t.1,t.2,none,t.1.length,none,0⟩:dR)).map lq) (fun c hc=>by obtain ⟨x,_,rfl⟩:=List.mem_map.1 hc;exact ⟨rfl,rfl⟩) ay2
 refine ⟨v,ha,XQ,_,hO,fun t ht=>⟨fun wc hw=>(Hq hw).elim,?_⟩,by rw [List.map_map];exact List.map_id _⟩
 obtain ⟨u,_,rfl⟩:=List.mem_map.1 ht
 exact Nat.le_refl _
theorem Bi {ls:List (List bf × List dh)} (hl:ls.length<100000) (h8:∀ t∈ls,t.1.length≤8∧t.2.length≤8):∃ v ha hs,∃ ts:List dR,Own 77 2 v ha (ts.map lq)∧jk ts hs∧ts.map dR.p=ls:=by
 obtain ⟨ts,h,h1,h2⟩:=Dp ls h8
 obtain ⟨v,ha,hO⟩:=fE (e:=77) (sz:=2) (xs:=ts.map lq) (fun c hc=>by obtain ⟨x,_,rfl⟩:=List.mem_map.1 hc;exact ⟨rfl,rfl⟩) (by rw [List.length_map];have:=congrArg List.length h2;simp at this;omega)
 exact ⟨v,ha,h,ts,hO,h1,h2⟩
theorem KU (L:ML) (M cpu:Nat) (two:eu) (s:PS) (hL:wE L s) (hs:fD s cpu two) {w:World} (hN:eF (L.hp M cpu two s) w):Fn Tryz.prog 77 [.pointer (some ⟨M,0,none⟩)].toArray w ((L.hp M cpu two s).map (·.b)) (U2 M cpu two (jB s cpu) (.tuple #[])):=by
 obtain ⟨htc,hto⟩:=hL.U4 hs
 have hlen:L.ts.length=s.ls.length:=by rw [← hL.p,List.length_map]
 have hcl:cpu<L.ts.length:=by rw [hlen];exact hs.cpu
 have hll:L.ts.length<100000:=by rw [hlen];exact hs.len
 refine dY (aH.mk M (mc L.wv L.sv L.lv cpu two s) 82::(L.hl++L.hs++(L.hw++L.ht))) hN Tryz.func77 ?_
 refine run ?_
 refine iQ 13 [0,1,2,3,4,5,6,7,8] [9] [10,11,12] [13,14] [15] ?_
 refine eX ?_
 refine iU (fun wc hG=>UM L.ts cpu hcl hll (hL.tls hs (fun e he=>hG.here e av1) (fun e he=>hG.here e av1)) htc hto) ?_ ?_
 ·rw [hL.p]
  obtain ⟨v,ha,h',ts',h1,h2,h3⟩:=Bi (pM hs).len (fun t ht=>by have:=dJ ((pM hs).es t ht).vg;exact this.2)
  exact ⟨_,_,v,ha,h',ts',rfl,h1,h2,h3,aC.refl _⟩
 refine gW ?_
 rintro u hn ⟨v,ha,h',ts',rfl,g1,g2,g3,hle⟩
 refine mP ?_
 refine aQ ?_
 refine aQ ?_
 refine eY ?_
 refine jR ?_
 refine rF ?_
 refine eY ?_
 simp only [DN,List.cons_append,List.nil_append,List.append_nil]
 have hv:=g1.opened
 obtain ⟨q1,c1,e1⟩:=hv
 subst e1
 refine iM (b:=M) (tb:=82) (cs:=mc L.wv L.sv L.lv cpu two s) (mc L.wv L.sv (.slice q1 (ts'.map lq).length c1) cpu two (jB s cpu)) (hp':=hn++(L.hl++L.hs++(L.hw++L.ht))) ?_ (hperm:=by (exact au))
 refine aG ?_
 refine cO ?_
 refine run ?_
 refine fin0 ⟨rfl,⟨L.wv,L.sv,.slice q1 (ts'.map lq).length c1,ts',L.hw,L.hs,ha,h'⟩,⟨hL.w,hL.q,g1,g2,?_⟩,by unfold ML.hp;(exact cnt1 hle)⟩
 rw [g3,hL.p];rfl
theorem wE.row {L:ML} {s:PS} {cpu:Nat} {two:eu} (h:wE L s) (hs:fD s cpu two):∃ g lc fO,∃ tc:dR,L.lv=.slice (some ⟨g,0,none⟩) L.ts.length lc∧L.hl=[⟨g,fO,77⟩]∧List.take 2 (List.drop (cpu * 2) fO.toList)=[tc.ev,tc.dv]∧tc.p=s.tl cpu∧NC L.ht tc∧cpu<L.ts.length∧cpu * 2 + 2≤fO.size ∧
  ∀ (y:dR) (he hd:Hp),EW y he hd→Own 77 2 (.slice (some ⟨g,0,none⟩) L.ts.length lc) [⟨g,putAt fO (cpu * 2) [y.ev,y.dv],77⟩] ((L.ts.set cpu y).map lq)∧jk (L.ts.set cpu y) (he++hd++L.ht)∧(L.ts.set cpu y).map dR.p=s.ls.set cpu y.p:=by
 have hlen:L.ts.length=s.ls.length:=by rw [← h.p,List.length_map]
 have hcl:cpu<L.ts.length:=by rw [hlen];exact hs.cpu
 obtain ⟨g,lc,fO,e1,e2,hsz,qG,hput⟩:=h.l.ND hcl
 refine ⟨g,lc,fO,L.ts.getD cpu default,e1,e2,x9 (qG 0 _ rfl) (qG 1 _ rfl),h.tl cpu,h.t.i _ (getD_mem hcl),hcl,hsz,fun y he hd hty=>⟨hput 0 [y.ev,y.dv] y au3 rfl ⟨rfl,rfl⟩,jk.set hty cpu h.t,by rw [List.map_set,h.p]⟩⟩
theorem Bj (es:List bf) (ds:List dh) (d:dh) (h1:es.length≤8) (h2:ds.length≤8):∃ r hn v1 h1 v2 h2,r=Value.tuple #[.agg #[v1,v2],.int .i64 0]∧Own 114 14 v1 h1 (es.map bG)∧Own 121 4 v2 h2 ((ds++[d]).map dG)∧aC (h1++h2) hn:=by
 obtain ⟨a1,b1,o1⟩:=fE (e:=114) (xs:=es.map bG) jY au1
 obtain ⟨a2,b2,o2⟩:=fE (e:=121) (xs:=(ds++[d]).map dG) yQ (by rw [List.length_map,List.length_append,List.length_singleton];omega)
 exact ⟨_,_,a1,b1,a2,b2,rfl,o1,o2,aC.refl _⟩
theorem NI (L:ML) (M cpu:Nat) (two:eu) (s:PS) (hL:wE L s) (hs:fD s cpu two) (op aV:Int) (D N K:Nat) (hi:(⟨op,D,N,K,aV⟩:bF).may=true) (hop:op=13) {w:World} (hN:eF (L.hp M cpu two s) w):Fn Tryz.prog 76 [.pointer (some ⟨M,0,none⟩),.agg #[.int .i64 op,.int .i64 (D:Nat),.int .i64 (N:Nat),.int .i64 (K:Nat),.int .i64 aV]].toArray w ((L.hp M cpu two s).map (·.b)) (U2 M cpu two (iY s cpu two ⟨op,D,N,K,aV⟩) (.tuple #[])):=by
 have hb:PtD.bV (N:Int) 0 7=true:=by
  simp only [bF.may,bF.base,Bool.and_eq_true] at hi
  exact hi.1.2.2.1
 obtain hN':N<8:=by
  simp only [PtD.bV,Bool.and_eq_true,decide_eq_true_eq] at hb;omega
 have hxN:=Q9 L.wv L.sv L.lv cpu two s hN'
 have hdm:=KT hs hi hop
 obtain ⟨d,hd⟩:∃ d,d=s.due two ⟨op,D,N,K,aV⟩:=⟨_,rfl⟩
 refine dY (aH.mk M (mc L.wv L.sv L.lv cpu two s) 82::(L.hl++L.hs++(L.hw++L.ht))) hN Tryz.func76 ?_
 refine run ?_
 intro I
 refine run ?_
 refine eG ?_
 refine bW ?_
 refine run ?_
 have hxl:s.r.x N<18446744073709551616:=dB.x_lt hs.r N
 have e1:s.r.x N >>> 48 &&& 15=aS (s.r.x N) 48 4:=rfl
 have e2:s.r.x N &&& 4095=aS (s.r.x N) 0 12:=rfl
 have b1:=oh (s.r.x N) 48 (n:=4) au0
 have b2:=oh (s.r.x N) 0 (n:=12) au0
 refine oN 17 16 [0,1,2,3,4,5,6,7,8,9,10,11,12,13,14] [15] [16] [] ?_
 refine bY ?_
 refine Ed au2 aw3 (fun hx=>vX rfl rfl (s.r.x N) 48 rfl rfl au0) ?_
 refine bY ?_
 refine Ed au2 aw3 (fun hx=>kR rfl rfl (s.r.x N >>> 48) 15 rfl rfl (Nat.lt_of_le_of_lt (Nat.shiftRight_le ..) hxl) au0) ?_
 rw [e1]
 generalize hg1:aS (s.r.x N) 48 4=z1 at b1 ⊢
 refine bY ?_
 refine Ed au2 aw3 (fun hx=>kR rfl rfl (s.r.x N) 4095 rfl rfl hxl au0) ?_
 rw [e2]
 generalize hg2:aS (s.r.x N) 0 12=z2 at b2 ⊢
 refine bY ?_
 refine dL ?_
 refine gW ?_
 rintro _ _ ⟨Y,rfl,rfl⟩
 simp only [DN,List.cons_append,List.nil_append,List.append_nil]
 have hdv:d=⟨aV,two.tag,(z1:Nat),(z2:Nat)⟩:=by rw [hd,← hg1,← hg2];rfl
 refine pW (b:=Y) (tb:=121) (cs':=(dG d).toArray) (hp':=aH.mk I #[.int .i64 op,.int .i64 (D:Nat),.int .i64 (N:Nat),.int .i64 (K:Nat),.int .i64 aV] 41::aH.mk M (mc L.wv L.sv L.lv cpu two s) 82::(L.hl++L.hs++(L.hw++L.ht))) ?_ (hput:=by rw [hdv];rfl)
 refine aG ?_
 refine cO ?_
 refine aI (⟨Y,(dG d).toArray,121⟩::aH.mk I #[.int .i64 op,.int .i64 (D:Nat),.int .i64 (N:Nat),.int .i64 (K:Nat),.int .i64 aV] 41::aH.mk M (mc L.wv L.sv L.lv cpu two s) 82::(L.hl++L.hs++(L.hw++L.ht))) ak ?_
 refine run ?_
 obtain ⟨g,lc,fO,tc,e3,e4,hld,htc,hti,hcl,hsz,hput⟩:=hL.row hs
 have h8:=dJ hs.te.vg
 have Jz:=hs.te
 rw [← htc] at h8 Jz
 unfold iY
 rw [← hd]
 cases hdl:decide ((s.tl cpu).2.length<8) with
 | true=>
  have U5:decide (tc.ds.length<8)=true:=by rw [← hdl,← htc]
  rw [e3,e4]
  simp only [cond_true,List.cons_append,List.nil_append]
  refine iQ 16 [0,1,2,3,4,5,6,7,8,9,10] [11,15] [12,13,14] [17] [16] ?_
  refine eX ?_
  have hla:∀ wc,Here L.ht wc→_:=fun wc hh=>Bd tc.es tc.ds d tc.ev tc.dv (hti.1 wc hh).1 (hti.1 wc hh).2 ⟨_,_,rfl,hti.2⟩ Jz.vg (by rw [hd];exact hdm)
  simp only [U5,cond_true] at hla
  refine iU (fun wc hG=>hla wc (fun e he=>hG.here e av1)) (Bj tc.es tc.ds d h8.2.1 h8.2.2) ?_
  refine dL ?_
  refine gW ?_
  rintro _ _ ⟨T,rfl,rfl⟩ u hn ⟨v1,h1,v2,h2,rfl,g1,g2,hle⟩
  obtain ⟨q1,c1,x1⟩:=g1.opened
  obtain ⟨q2,c2,x2⟩:=g2.opened
  rw [List.length_map] at x1 x2
  subst x1 x2
  refine mP ?_
  refine aQ ?_
  refine aQ ?_
  refine eY ?_
  refine iy ?_
  refine eY ?_
  simp only [DN,List.cons_append,List.nil_append,List.append_nil]
  refine pW (b:=T) (tb:=77) (cs:=#[.slice none 0 0,.slice none 0 0]) (cs':=#[.slice q1 tc.es.length c1,.slice q2 (tc.ds++[d]).length c2]) (hp':=hn++(⟨Y,(dG d).toArray,121⟩::aH.mk I #[.int .i64 op,.int .i64 (D:Nat),.int .i64 (N:Nat),.int .i64 (K:Nat),.int .i64 aV] 41::aH.mk M (mc L.wv L.sv (.slice (some ⟨g,0,none⟩) L.ts.length lc) cpu two s) 82::aH.mk g fO 77::(L.hs++(L.hw++L.ht)))) ?_ (hput:=rfl) (hperm:=by (exact au))
  refine aG ?_
  refine cO ?_
  refine aI (aH.mk M (mc L.wv L.sv (.slice (some ⟨g,0,none⟩) L.ts.length lc) cpu two s) 82::aH.mk g fO 77::⟨T,#[.slice q1 tc.es.length c1,.slice q2 (tc.ds++[d]).length c2],77⟩::((h1++h2)++(L.hs++(L.hw++L.ht)))) (cnt1 hle) ?_
  refine aW ?_
  refine iT 10 ?_
  refine bW ?_
  refine run ?_
  obtain ⟨p1',p2',RP⟩:=hput ⟨tc.es,tc.ds++[d],q1,c1,q2,c2⟩ h1 h2 ⟨g1,g2,h8.2.1,by show (tc.ds++[d]).length≤8;rw [List.length_append,List.length_singleton];have:=of_decide_eq_true U5;omega⟩
  refine fin0 ⟨rfl,⟨L.wv,L.sv,.slice (some ⟨g,0,none⟩) L.ts.length lc,L.ts.set cpu ⟨tc.es,tc.ds++[d],q1,c1,q2,c2⟩,L.hw,L.hs,[⟨g,putAt fO (cpu * 2) [.slice q1 tc.es.length c1,.slice q2 (tc.ds++[d]).length c2],77⟩],h1++h2++L.ht⟩,⟨hL.w,hL.q,p1',p2',?_⟩,by unfold ML.hp;dsimp only;rw [show mc L.wv L.sv (.slice (some ⟨g,0,none⟩) L.ts.length lc) cpu two (s.more cpu d)=mc L.wv L.sv (.slice (some ⟨g,0,none⟩) L.ts.length lc) cpu two s from rfl];simp only [putAt];(exact ak)⟩
  dsimp only
  rw [RP,PS.more,← htc]
 | false=>
  have U5:decide (tc.ds.length<8)=false:=by rw [← hdl,← htc]
  rw [e3,e4]
  simp only [cond_false,List.cons_append,List.nil_append]
  refine iQ 16 [0,1,2,3,4,5,6,7,8,9,10] [11,15] [12,13,14] [17] [16] ?_
  refine eX ?_
  have hla:∀ wc,Here L.ht wc→_:=fun wc hh=>Bd tc.es tc.ds d tc.ev tc.dv (hti.1 wc hh).1 (hti.1 wc hh).2 ⟨_,_,rfl,hti.2⟩ Jz.vg (by rw [hd];exact hdm)
  simp only [U5,cond_false] at hla
  refine iU (fun wc hG=>hla wc (fun e he=>hG.here e av1)) ⟨_,[],rfl⟩ ?_
  refine dL ?_
  refine gW ?_
  rintro _ _ ⟨T,rfl,rfl⟩ u hn rfl
  refine mP ?_
  refine aQ ?_
  refine aQ ?_
  refine eY ?_
  refine iy ?_
  refine eY ?_
  simp only [DN,List.cons_append,List.nil_append,List.append_nil]
  refine pW (b:=T) (tb:=77) (cs:=#[.slice none 0 0,.slice none 0 0]) (cs':=#[.slice none 0 0,.slice none 0 0]) (hp':=hn++(⟨Y,(dG d).toArray,121⟩::aH.mk I #[.int .i64 op,.int .i64 (D:Nat),.int .i64 (N:Nat),.int .i64 (K:Nat),.int .i64 aV] 41::aH.mk M (mc L.wv L.sv (.slice (some ⟨g,0,none⟩) L.ts.length lc) cpu two s) 82::aH.mk g fO 77::(L.hs++(L.hw++L.ht)))) ?_ (hput:=rfl) (hperm:=by (exact au))
  refine aG ?_
  refine cO ?_
  rw [← e3]
  refine aI (⟨T,#[.slice none 0 0,.slice none 0 0],77⟩::⟨Y,(dG d).toArray,121⟩::aH.mk M (mc L.wv L.sv L.lv cpu two s) 82::(L.hl++L.hs++(L.hw++L.ht))) (by rw [e4];(exact ak)) ?_
  refine aW ?_
  refine dH (aH.mk M (mc L.wv L.sv L.lv cpu two s) 82::(L.hl++L.hs++(L.hw++L.ht))) [⟨T,#[.slice none 0 0,.slice none 0 0],77⟩,⟨Y,(dG d).toArray,121⟩] (fun wc hG=>KU L M cpu two s hL hs hG.dD) (fun v hn2 hv=>?_) au
  obtain ⟨rfl,L2,hL2,hle2⟩:=hv
  have hs2:=pM hs
  have hwt:=Fe hs.cpu
  generalize jB s cpu=s2 at hL2 hle2 hs2 hwt ⊢
  obtain ⟨g2,Yh,KW,Fg,e5,e6,ao2,NJ,XR,ao3,hsz2,VT⟩:=hL2.row hs2
  have h82:=dJ hs2.te.vg
  have ZF:=hs2.te
  rw [← NJ] at h82 ZF hwt
  unfold ML.hp at hle2
  rw [e5,e6] at hle2
  have hd0:Fg.ds=[]:=congrArg Prod.snd hwt
  refine aI (⟨T,#[.slice none 0 0,.slice none 0 0],77⟩::⟨Y,(dG d).toArray,121⟩::aH.mk M (mc L2.wv L2.sv (.slice (some ⟨g2,0,none⟩) L2.ts.length Yh) cpu two s2) 82::aH.mk g2 KW 77::(L2.hs++(L2.hw++L2.ht))) (cnt1 hle2) ?_
  refine run ?_
  refine iQ 15 [0,1,2,3,4,5,6,7,8,9,10] [11] [12,13,14] [] [15] ?_
  refine eX ?_
  have ZG:∀ wc,Here L2.ht wc→_:=fun wc hh=>Bd Fg.es Fg.ds d Fg.ev Fg.dv (XR.1 wc hh).1 (XR.1 wc hh).2 ⟨_,_,rfl,XR.2⟩ ZF.vg (by rw [hd];exact hdm)
  simp only [show decide (Fg.ds.length<8)=true by rw [hd0];rfl,cond_true] at ZG
  refine iU (fun wc hG=>ZG wc (fun e he=>hG.here e av1)) (Bj Fg.es Fg.ds d h82.2.1 h82.2.2) ?_
  refine gW ?_
  rintro u hn3 ⟨v1,h1,v2,h2,rfl,g3,g4,hle3⟩
  obtain ⟨q1,c1,x1⟩:=g3.opened
  obtain ⟨q2,c2,x2⟩:=g4.opened
  rw [List.length_map] at x1 x2
  subst x1 x2
  refine mP ?_
  refine aQ ?_
  refine aQ ?_
  refine eY ?_
  refine eY ?_
  simp only [DN,List.cons_append,List.nil_append,List.append_nil]
  refine pW (b:=T) (tb:=77) (cs:=#[.slice none 0 0,.slice none 0 0]) (cs':=#[.slice q1 Fg.es.length c1,.slice q2 (Fg.ds++[d]).length c2]) (hp':=hn3++(⟨Y,(dG d).toArray,121⟩::aH.mk M (mc L2.wv L2.sv (.slice (some ⟨g2,0,none⟩) L2.ts.length Yh) cpu two s2) 82::aH.mk g2 KW 77::(L2.hs++(L2.hw++L2.ht)))) ?_ (hput:=rfl) (hperm:=by (exact au))
  refine aG ?_
  refine cO ?_
  refine aI (aH.mk M (mc L2.wv L2.sv (.slice (some ⟨g2,0,none⟩) L2.ts.length Yh) cpu two s2) 82::aH.mk g2 KW 77::⟨T,#[.slice q1 Fg.es.length c1,.slice q2 (Fg.ds++[d]).length c2],77⟩::((h1++h2)++(L2.hs++(L2.hw++L2.ht)))) (cnt1 hle3) ?_
  refine aW ?_
  refine iT 10 ?_
  refine bW ?_
  refine run ?_
  obtain ⟨p1',p2',RP⟩:=VT ⟨Fg.es,Fg.ds++[d],q1,c1,q2,c2⟩ h1 h2 ⟨g3,g4,h82.2.1,by show (Fg.ds++[d]).length≤8;rw [List.length_append,List.length_singleton,hd0];decide⟩
  refine fin0 ⟨rfl,⟨L2.wv,L2.sv,.slice (some ⟨g2,0,none⟩) L2.ts.length Yh,L2.ts.set cpu ⟨Fg.es,Fg.ds++[d],q1,c1,q2,c2⟩,L2.hw,L2.hs,[⟨g2,putAt KW (cpu * 2) [.slice q1 Fg.es.length c1,.slice q2 (Fg.ds++[d]).length c2],77⟩],h1++h2++L2.ht⟩,⟨hL2.w,hL2.q,p1',p2',?_⟩,by unfold ML.hp;dsimp only;rw [show mc L2.wv L2.sv (.slice (some ⟨g2,0,none⟩) L2.ts.length Yh) cpu two (s2.more cpu d)=mc L2.wv L2.sv (.slice (some ⟨g2,0,none⟩) L2.ts.length Yh) cpu two s2 from rfl];simp only [putAt];(exact ak)⟩
  dsimp only
  rw [RP,PS.more,← NJ]
def ZH (M cpu:Nat) (two:eu) (x:PS × Option (List Int)) (u:Value) (hn:Hp):Prop:=∃ (v:Value) (ha:Hp) (L:ML),u=.tuple #[v,.bool x.2.isNone]∧Own 3 1 v ha ((x.2.getD []).map dN)∧wE L x.1∧aC (L.hp M cpu two x.1++ha) hn
theorem Bl (b:Nat) (x:Int):Own 3 1 (.slice (some ⟨b,0,none⟩) 1 1) [⟨b,#[.int .i64 x],3⟩] ([x].map dN):=
 rC b 1 _ au2 rfl yJ au3 au3 ax9
theorem KX {i:bF} {n m:Nat}:∃ A:Nat,AQ i n m=(A:Int):=by
 have hmod:∀ z:Int,∃ A:Nat,z % 18446744073709551616=(A:Int):=fun z=>⟨(z % 18446744073709551616).toNat,by omega⟩
 unfold AQ
 cases decide (i.op=1) with
 | true=>exact ⟨_,AL _⟩
 | false=>
  cases decide (i.op=2) with
  | true=>exact hmod _
  | false=>
   cases decide (i.op=3) with
   | true=>exact hmod _
   | false=>
    cases decide (i.op=4) with
    | true=>exact ⟨_,rfl⟩
    | false=>
     cases decide (i.op=5) with
     | true=>exact ⟨_,rfl⟩
     | false=>exact ⟨_,rfl⟩
theorem ZI (L:ML) (M cpu:Nat) (two:eu) (s:PS) (hL:wE L s) (hs:fD s cpu two) (hq:s.seen.length<90000) (hov:s.over=false) (op aV:Int) (D N K:Nat) (hi:(⟨op,D,N,K,aV⟩:bF).may=true) {w:World} (hN:eF (L.hp M cpu two s) w):Fn Tryz.prog 41 [.pointer (some ⟨M,0,none⟩),.agg #[.int .i64 op,.int .i64 (D:Nat),.int .i64 (N:Nat),.int .i64 (K:Nat),.int .i64 aV]].toArray w ((L.hp M cpu two s).map (·.b)) (ZH M cpu two (sK s cpu two ⟨op,D,N,K,aV⟩)):=by
 have hb:PtD.bV op 1 16=true∧PtD.bV (D:Int) 0 7=true∧PtD.bV (N:Int) 0 7=true∧PtD.bV (K:Int) 0 7=true:=by
  simp only [bF.may,bF.base,Bool.and_eq_true] at hi
  exact ⟨hi.1.1,hi.1.2.1,hi.1.2.2.1,hi.1.2.2.2.1⟩
 obtain ⟨hop,hD,hN',hK⟩:(1≤op∧op≤16)∧D<8∧N<8∧K<8:=by
  simp only [PtD.bV,Bool.and_eq_true,decide_eq_true_eq] at hb;omega
 have hxN:=Q9 L.wv L.sv L.lv cpu two s hN'
 have hxK:=Q9 L.wv L.sv L.lv cpu two s hK
 refine dY (aH.mk M (mc L.wv L.sv L.lv cpu two s) 82::(L.hl++L.hs++(L.hw++L.ht))) hN Tryz.func41 ?_
 refine run ?_
 intro I
 refine run ?_
 have hcs:(op=7∨op=8)∨op=9∨op=10∨op=11∨op=12∨op=13∨op=14∨op=15∨op=16∨op≤6:=by omega
 rcases hcs with U1 | rfl | rfl | rfl | rfl | rfl | rfl | rfl | rfl | h6
 ·have hm:=fun wc (hG:eF (L.hp M cpu two s) wc)=>U3 L M cpu two s hL hs hq hov op aV D N K hi U1 hG
  have hdo:sK s cpu two ⟨op,D,N,K,aV⟩=(sD s cpu two ⟨op,D,N,K,aV⟩,some []):=by
   unfold sK
   rcases U1 with rfl | rfl<;>rfl
  rw [hdo]
  rcases U1 with rfl | rfl
  ·refine aW ?_
   refine dH (aH.mk M (mc L.wv L.sv L.lv cpu two s) 82::(L.hl++L.hs++(L.hw++L.ht))) [aH.mk I #[.int .i64 7,.int .i64 (D:Nat),.int .i64 (N:Nat),.int .i64 (K:Nat),.int .i64 aV] 41] (fun wc hG=>hm wc hG.dD) (fun v hn hv=>?_) au
   obtain ⟨rfl,L2,hL2,hle⟩:=hv
   refine run ?_
   exact fin2 ⟨_,_,L2,rfl,Own.nil _ _,hL2,by (exact cnt1 hle)⟩
  ·refine aW ?_
   refine dH (aH.mk M (mc L.wv L.sv L.lv cpu two s) 82::(L.hl++L.hs++(L.hw++L.ht))) [aH.mk I #[.int .i64 8,.int .i64 (D:Nat),.int .i64 (N:Nat),.int .i64 (K:Nat),.int .i64 aV] 41] (fun wc hG=>hm wc hG.dD) (fun v hn hv=>?_) au
   obtain ⟨rfl,L2,hL2,hle⟩:=hv
   refine run ?_
   exact fin2 ⟨_,_,L2,rfl,Own.nil _ _,hL2,by (exact cnt1 hle)⟩
 ·rw [show sK s cpu two ⟨9,D,N,K,aV⟩=(s,some [aV]) from rfl]
  refine aW ?_
  intro B
  exact fin2 ⟨_,_,L,rfl,Bl B aV,hL,by unfold ML.hp;(exact ak)⟩
 ·refine aW ?_
  refine eG ?_
  refine bW ?_
  refine run ?_
  refine aj _ rfl (fun hc=>?_) (fun hc=>?_)
  ·have h0:decide (s.r.x N=0)=true:=by simpa using hc
   rw [show sK s cpu two ⟨10,D,N,K,aV⟩=(s,some (bif decide (s.r.x N=0) then [aV] else [])) from rfl,h0]
   refine run ?_
   intro B
   exact fin2 ⟨_,_,L,rfl,Bl B aV,hL,by unfold ML.hp;(exact ak)⟩
  ·have h0:decide (s.r.x N=0)=false:=by simpa using hc
   rw [show sK s cpu two ⟨10,D,N,K,aV⟩=(s,some (bif decide (s.r.x N=0) then [aV] else [])) from rfl,h0]
   refine run ?_
   exact fin2 ⟨_,_,L,rfl,Own.nil _ _,hL,by unfold ML.hp;(exact ak)⟩
 ·have hk:nP aV=true:=by
   have:=hi
   simp only [bF.may,Bool.and_eq_true] at this
   exact this.2
  rw [show sK s cpu two ⟨11,D,N,K,aV⟩=({ s with r:=s.r.ku D (s.r.get aV) },some []) from rfl]
  refine aW ?_
  refine dI 20 19 [0,1,2,3,4,5,6,7,8,9,10,11,12,13,14,15,16,17,18] [19] [] ?_
  refine bY ?_
  rw [show (List.take 15 (List.drop 15 (mc L.wv L.sv L.lv cpu two s).toList)).toArray=(di s.r).toArray from rfl]
  refine kS (fun wc hx hG=>Qa s.r aV wc) ?_
  rw [hk]
  refine bY ?_
  refine iM (b:=M) (tb:=82) (cs:=mc L.wv L.sv L.lv cpu two s) (mc L.wv L.sv L.lv cpu two { s with r:=s.r.ku D (s.r.get aV) }) (hp':=aH.mk I #[.int .i64 11,.int .i64 (D:Nat),.int .i64 (N:Nat),.int .i64 (K:Nat),.int .i64 aV] 41::(L.hl++L.hs++(L.hw++L.ht))) ?_ (hperm:=by (exact au)) (hput:=Ff _ _ _ _ _ _ hD _) (hlt:=Nat.ble_eq_true_of_le (show 15 + D + 1≤42 by omega))
  refine aG ?_
  refine cO ?_
  refine run ?_
  exact fin2 ⟨_,_,L,rfl,Own.nil _ _,⟨hL.w,hL.q,hL.l,hL.t,hL.p⟩,by unfold ML.hp;(exact ak)⟩
 ·have hk:nP aV=true:=by
   have:=hi
   simp only [bF.may,Bool.and_eq_true] at this
   exact this.2
  rw [show sK s cpu two ⟨12,D,N,K,aV⟩=({ s with r:=s.r.set aV (s.r.x N) },some []) from rfl]
  refine aW ?_
  refine dI 25 24 [0,1,2,3,4,5,6,7,8,9,10,11,12,13,14,15,16,17,18,19,20,21,22,23] [24] [] ?_
  refine bY ?_
  rw [show (List.take 15 (List.drop 15 (mc L.wv L.sv L.lv cpu two s).toList)).toArray=(di s.r).toArray from rfl]
  refine kS (fun wc hx hG=>Qb s.r aV (s.r.x N) wc) ?_
  rw [hk]
  refine bY ?_
  refine iM (b:=M) (tb:=82) (cs:=mc L.wv L.sv L.lv cpu two s) (mc L.wv L.sv L.lv cpu two { s with r:=s.r.set aV (s.r.x N) }) (hp':=aH.mk I #[.int .i64 12,.int .i64 (D:Nat),.int .i64 (N:Nat),.int .i64 (K:Nat),.int .i64 aV] 41::(L.hl++L.hs++(L.hw++L.ht))) ?_ (hperm:=by (exact au))
  refine aG ?_
  refine cO ?_
  refine run ?_
  exact fin2 ⟨_,_,L,rfl,Own.nil _ _,⟨hL.w,hL.q,hL.l,hL.t,hL.p⟩,by unfold ML.hp;(exact ak)⟩
 ·rw [show sK s cpu two ⟨13,D,N,K,aV⟩=(iY s cpu two ⟨13,D,N,K,aV⟩,some []) from rfl]
  refine aW ?_
  refine dH (aH.mk M (mc L.wv L.sv L.lv cpu two s) 82::(L.hl++L.hs++(L.hw++L.ht))) [aH.mk I #[.int .i64 13,.int .i64 (D:Nat),.int .i64 (N:Nat),.int .i64 (K:Nat),.int .i64 aV] 41] (fun wc hG=>NI L M cpu two s hL hs 13 aV D N K hi rfl hG.dD) (fun v hn hv=>?_) au
  obtain ⟨rfl,L2,hL2,hle⟩:=hv
  refine run ?_
  exact fin2 ⟨_,_,L2,rfl,Own.nil _ _,hL2,by (exact cnt1 hle)⟩
 ·rw [show sK s cpu two ⟨14,D,N,K,aV⟩=(jB s cpu,some []) from rfl]
  refine aW ?_
  refine dH (aH.mk M (mc L.wv L.sv L.lv cpu two s) 82::(L.hl++L.hs++(L.hw++L.ht))) [aH.mk I #[.int .i64 14,.int .i64 (D:Nat),.int .i64 (N:Nat),.int .i64 (K:Nat),.int .i64 aV] 41] (fun wc hG=>KU L M cpu two s hL hs hG.dD) (fun v hn hv=>?_) au
  obtain ⟨rfl,L2,hL2,hle⟩:=hv
  refine run ?_
  exact fin2 ⟨_,_,L2,rfl,Own.nil _ _,hL2,by (exact cnt1 hle)⟩
 ·rw [show sK s cpu two ⟨15,D,N,K,aV⟩=({ s with kind:=3 },some []) from rfl]
  refine aW ?_
  refine gB (mc L.wv L.sv L.lv cpu two { s with kind:=3 }) ?_ (hperm:=p1)
  refine run ?_
  exact fin2 ⟨_,_,L,rfl,Own.nil _ _,⟨hL.w,hL.q,hL.l,hL.t,hL.p⟩,by unfold ML.hp;(exact ak)⟩
 ·rw [show sK s cpu two ⟨16,D,N,K,aV⟩=({ s with r:=s.r.back },none) from rfl]
  refine aW ?_
  rw [show (List.take 15 (List.drop 15 (mc L.wv L.sv L.lv cpu two s).toList)).toArray=(di s.r).toArray from rfl]
  refine ax (fun wc hG=>TW s.r wc) ?_
  refine run ?_
  refine gB (mc L.wv L.sv L.lv cpu two { s with r:=s.r.back }) ?_ (hperm:=p1)
  refine run ?_
  exact fin2 ⟨_,_,L,rfl,Own.nil _ _,⟨hL.w,hL.q,hL.l,hL.t,hL.p⟩,by unfold ML.hp;(exact ak)⟩
 ·have hdo:sK s cpu two ⟨op,D,N,K,aV⟩=({ s with r:=s.r.ku D (AQ ⟨op,D,N,K,aV⟩ (s.r.x N) (s.r.x K)).toNat },some []):=by
   unfold sK
   rw [decide_eq_false (show ¬ op=7 by omega),decide_eq_false (show ¬ op=8 by omega),decide_eq_false (show ¬ op=9 by omega),decide_eq_false (show ¬ op=10 by omega),decide_eq_false (show ¬ op=11 by omega),decide_eq_false (show ¬ op=12 by omega),decide_eq_false (show ¬ op=13 by omega),decide_eq_false (show ¬ op=14 by omega),decide_eq_false (show ¬ op=15 by omega),decide_eq_false (show ¬ op=16 by omega)]
   rfl
  rw [hdo]
  rw [decide_eq_false (show ¬ op=7 by omega)];refine aW ?_
  rw [decide_eq_false (show ¬ op=8 by omega)];refine aW ?_
  rw [decide_eq_false (show ¬ op=9 by omega)];refine aW ?_
  rw [decide_eq_false (show ¬ op=10 by omega)];refine aW ?_
  rw [decide_eq_false (show ¬ op=11 by omega)];refine aW ?_
  rw [decide_eq_false (show ¬ op=12 by omega)];refine aW ?_
  rw [decide_eq_false (show ¬ op=13 by omega)];refine aW ?_
  rw [decide_eq_false (show ¬ op=14 by omega)];refine aW ?_
  rw [decide_eq_false (show ¬ op=15 by omega)];refine aW ?_
  rw [decide_eq_false (show ¬ op=16 by omega)];refine aW ?_
  obtain ⟨A,hA⟩:=KX (i:=⟨op,D,N,K,aV⟩) (n:=s.r.x N) (m:=s.r.x K)
  refine dI 32 31 [0,1,2,3,4,5,6,7,8,9,10,11,12,13,14,15,16,17,18,19,20,21,22,23,24,25,26,27,28,29,30] [31] [] ?_
  refine bY ?_
  refine kS (fun wc hx hG=>Zf ⟨op,D,N,K,aV⟩ hi h6 (s.r.x N) (s.r.x K) (dB.x_lt hs.r N) (dB.x_lt hs.r K) wc) ?_
  rw [hA,Int.toNat_natCast]
  refine bY ?_
  refine iM (b:=M) (tb:=82) (cs:=mc L.wv L.sv L.lv cpu two s) (mc L.wv L.sv L.lv cpu two { s with r:=s.r.ku D A }) (hp':=aH.mk I #[.int .i64 op,.int .i64 (D:Nat),.int .i64 (N:Nat),.int .i64 (K:Nat),.int .i64 aV] 41::(L.hl++L.hs++(L.hw++L.ht))) ?_ (hperm:=by (exact au)) (hput:=Ff _ _ _ _ _ _ hD _) (hlt:=Nat.ble_eq_true_of_le (show 15 + D + 1≤42 by omega))
  refine aG ?_
  refine cO ?_
  refine run ?_
  exact fin2 ⟨_,_,L,rfl,Own.nil _ _,⟨hL.w,hL.q,hL.l,hL.t,hL.p⟩,by unfold ML.hp;(exact ak)⟩
theorem XT (L:ML) (M cpu:Nat) (two:eu) (s:PS) (hL:wE L s) (hs:fD s cpu two) (hq:s.seen.length<90000) (hov:s.over=false) (i:bF) (hi:i.may=true) {w:World} (hN:eF (L.hp M cpu two s) w):Fn Tryz.prog 41 [.pointer (some ⟨M,0,none⟩),.agg (Kr i).toArray].toArray w ((L.hp M cpu two s).map (·.b)) (ZH M cpu two (sK s cpu two i)):=by
 obtain ⟨op,d,n,m,aV⟩:=i
 have hb:PtD.bV d 0 7=true∧PtD.bV n 0 7=true∧PtD.bV m 0 7=true:=by
  simp only [bF.may,bF.base,Bool.and_eq_true] at hi
  exact ⟨hi.1.2.1,hi.1.2.2.1,hi.1.2.2.2.1⟩
 simp only [PtD.bV,Bool.and_eq_true,decide_eq_true_eq] at hb
 obtain ⟨D,rfl⟩:∃ D:Nat,d=(D:Int):=⟨d.toNat,by omega⟩
 obtain ⟨N,rfl⟩:∃ N:Nat,n=(N:Int):=⟨n.toNat,by omega⟩
 obtain ⟨K,rfl⟩:∃ K:Nat,m=(K:Int):=⟨m.toNat,by omega⟩
 exact ZI L M cpu two s hL hs hq hov op aV D N K hi hN
def Hr (wv sv lv:Value) (cpu:Int) (two:eu) (s:PS):Array Value:=
 #[wv,.int .i64 cpu,.int .i64 s.kind,.int .i64 s.iW.op,.int .i64 s.iW.d,.int .i64 s.iW.n,.int .i64 s.iW.m,.int .i64 s.iW.aV,
  .int .i64 s.ft.kind,.int .i64 s.ft.stage,.int .i64 s.ft.level,.bool s.ft.walk,.int .i64 s.ft.page,.int .i64 0,sv,
  .int .u64 (s.r.x0:Nat),.int .u64 (s.r.x1:Nat),.int .u64 (s.r.x2:Nat),.int .u64 (s.r.x3:Nat),.int .u64 (s.r.x4:Nat),.int .u64 (s.r.x5:Nat),.int .u64 (s.r.x6:Nat),.int .u64 (s.r.x7:Nat),
  .int .u64 (s.r.pc:Nat),.int .u64 (s.r.jM:Nat),.int .u64 (s.r.eU:Nat),.int .u64 (s.r.oQ:Nat),.int .u64 (s.r.zM:Nat),.int .u64 (s.r.sJ:Nat),.int .u64 (s.r.far:Nat),
  .int .i64 s.pk.cpu,.bool s.pk.fill,.bool s.pk.aN,.bool s.pk.walk,.int .i64 s.pk.drop,.bool s.pk.use,lv,.int .i64 cpu,.bool two.on,.int .i64 two.frame,.int .i64 two.tag,.bool s.over]
theorem U6 (wv sv lv:Value) (cpu:Nat) (two:eu) (s:PS):Hr wv sv lv (cpu:Nat) two s=mc wv sv lv cpu two s:=rfl
def qH (n:Nat) (ls:List (List bf × List dh)) (cpu:Int) (two:eu):Bool:=
 dP n && decide (0≤cpu) && decide (cpu<(ls.length:Int)) && two.on && two.may && ls.all fun t=>bJ t.1 t.2 && lK n t.1
structure yc (w:World) (mu:List Nat) (v:Value) (ts:List dR):Prop where
 rows:dK w mu v 2 (ts.map lq)
 en:∀ t∈ts,dK w mu t.ev 14 (t.es.map bG)
 iv:∀ t∈ts,dK w mu t.dv 4 (t.ds.map dG)
theorem yc.good {w w':World} {mu:List Nat} {hp:Hp} {v:Value} {ts:List dR} (h:yc w mu v ts) (hG:Good w mu hp w'):qB w' v ts:=⟨h.rows.good hG,fun t ht=>(h.en t ht).good hG,fun t ht=>(h.iv t ht).good hG⟩
theorem yc.into {w wc:World} {mu:List Nat} {hi rest:Hp} {v:Value} {ts:List dR} (h:yc w mu v ts) (hG:Good w mu (hi++rest) wc):yc wc (hi.map (·.b)) v ts:=⟨h.rows.into hG,fun t ht=>(h.en t ht).into hG,fun t ht=>(h.iv t ht).into hG⟩
theorem yc.old {w:World} {v:Value} {ts:List dR} (h:qB w v ts):yc w [] v ts:=⟨dK.old h.rows,fun t ht=>dK.old (h.en t ht),fun t ht=>dK.old (h.iv t ht)⟩
theorem U7 (n:Int) (x:bf) (B:Nat) (w:World) (hB:w.cell? ⟨B,0,none⟩=some (.int .i64 n)):Fn Tryz.prog 61 ([]++[Value.agg (bG x).toArray]++[Value.pointer (some ⟨B,0,none⟩)]).toArray w [] (fun u _=>u=.bool (decide (n≤x.frame))):=by
 refine enter Tryz.func61 ?_
 refine run ?_
 intro E
 refine run ?_
 exact fin1 rfl
theorem U8 (n:Int) (t:dR) (B C:Nat) (w:World) (hB:w.cell? ⟨B,0,none⟩=some (.int .i64 n)) (hC:w.cell? ⟨C,0,none⟩=some (.func (.func 61) #[] #[.pointer (some ⟨B,0,none⟩)])) (h1:aB w t.ev 14 (t.es.map bG)) (h2:aB w t.dv 4 (t.ds.map dG)) (hc:t.es.length≤t.ec):
  Fn Tryz.prog 63 ([]++[Value.agg (lq t).toArray]++[Value.pointer (some ⟨C,0,none⟩)]).toArray w [] (fun u _=>u=.bool (!bJ t.es t.ds || t.es.any fun x=>decide (n≤x.frame))):=by
 refine enter Tryz.func63 ?_
 refine run ?_
 intro E
 refine az ?_
 refine ax (fun wc hG=>kL t.es t.ds _ _ (h1.good hG) (h2.good hG) ⟨_,_,rfl,hc⟩) ?_
 refine az ?_
 refine VA au2 au2 au2 au2 (fun _=>FM au2 av6 au2 hC List.not_mem_nil) ?_
 refine az ?_
 refine aZ (fun hg wc hG=>vM (F:=61) (us:=[.pointer (some ⟨B,0,none⟩)]) (fun x=>decide (n≤x.frame)) t.es _ (h1.good hG) (fun x _ w' ha=>U7 n x B w' ?_)) ?_
 ·obtain ⟨hp,hg⟩:=ha
  exact hg.cell (hG.cell hB au3) au3
 refine az ?_
 refine fin1 ?_
 cases bJ t.es t.ds<;>rfl
theorem XU (ws:List Nat) (hw:ws.length<1000000) (cap:Nat) (hcc:ws.length≤cap) {p:Option Addr} {w:World} {M:Nat} (ts:List dR) (cpu:Int) (two:eu) (s:PS) {sv lv:Value} (hT:yc w [M] lv ts) (htc:∀ t∈ts,t.es.length≤t.ec) (hN:eF [⟨M,Hr (.slice p ws.length cap) sv lv cpu two s,82⟩] w):
  Fn Tryz.prog 37 [.pointer (some ⟨M,0,none⟩)].toArray w [M] (fun u hn=>u=.bool (qH ws.length (ts.map dR.p) cpu two)∧aC [⟨M,Hr (.slice p ws.length cap) sv lv cpu two s,82⟩] hn):=by
 obtain ⟨ql,cl,rfl,hlc⟩:=hT.rows.at_.opened
 refine dY _ hN Tryz.func37 ?_
 refine run ?_
 rw [show (List.take 1 (Hr (.slice p ws.length cap) sv (.slice ql ts.length cl) cpu two s).toList).toArray=#[.slice p ws.length cap] from rfl]
 refine ax (fun wc hG=>Df ws.length cap at7 p wc) ?_
 refine run ?_
 intro Nb Tb
 rw [show putAt #[.bool false,.int .i64 0,.int .i64 0] 0 (List.take 3 (List.drop 38 (Hr (.slice p ws.length cap) sv (.slice ql ts.length cl) cpu two s).toList))=(iI two).toArray from rfl]
 refine run ?_
 refine eG ?_
 refine iR ?_
 have hg:(!decide ((bif dP ws.length then (0:Int) else 1)=0) || decide (cpu<0) || decide ((ts.length:Int)≤cpu) || !two.on || decide (two.frame<0) || decide (4095<two.frame) || decide (two.tag<0) || decide (15<two.tag))=!(dP ws.length && decide (0≤cpu) && decide (cpu<(ts.length:Int)) && two.on && two.may):=by
  have e1:∀ b,decide ((bif b then (0:Int) else 1)=0)=b:=by decide
  have e2:∀ a:Int,decide (a<0)=!decide (0≤a):=fun a=>by rw [Bool.eq_iff_iff];simp
  have e3:∀ a b:Int,decide (b<a)=!decide (a≤b):=fun a b=>by rw [Bool.eq_iff_iff];simp
  rw [e1,e2,eu.may,PtD.bV,PtD.bV,e2,e2,e3 two.frame,e3 two.tag,e3 (ts.length:Int)]
  simp only [Bool.not_and,Bool.or_assoc,Bool.not_not]
 rw [hg]
 refine run ?_
 refine aj _ rfl (fun hc=>?_) (fun hc=>?_)
 ·have hf:qH ws.length (ts.map dR.p) cpu two=false:=by
   rw [qH,List.length_map]
   simp only [Bool.not_eq_true'] at hc
   rw [hc];rfl
  rw [hf]
  refine run ?_
  exact fin1 ⟨rfl,by (exact ak)⟩
 ·have hcc:(dP ws.length && decide (0≤cpu) && decide (cpu<(ts.length:Int)) && two.on && two.may)=true:=by simpa using hc
  have hf:qH ws.length (ts.map dR.p) cpu two=(ts.map dR.p).all fun t=>bJ t.1 t.2 && lK ws.length t.1:=by
   rw [qH,List.length_map,hcc];rfl
  have hmo:dP ws.length=true:=by simp only [Bool.and_eq_true] at hcc;exact hcc.1.1.1.1
  rw [hf]
  simp only [hmo,cond_true]
  refine run ?_
  refine BU (z:=.nilFunc) rfl rfl rfl av6 (fun Fb=>?_)
  refine BV [.func (.func 61) #[] #[.pointer (some ⟨Nb,0,none⟩)]] rfl rfl rfl (x:=.tmp 6) rfl rfl rfl rfl av6 (.refl _) (Nat.le_refl 1) ?_
  simp only [putAt]
  rw [show Value.nilFunc.cells.setIfInBounds 0 (.func (.func 61) #[] #[.pointer (some ⟨Nb,0,none⟩)])=#[.func (.func 61) #[] #[.pointer (some ⟨Nb,0,none⟩)]] from rfl]
  refine run ?_
  refine ax (fun wc hG=>vN (F:=63) (us:=[.pointer (some ⟨Fb,0,none⟩)]) (fun t=>!bJ t.es t.ds || t.es.any fun x=>decide (((ws.length / 8:Nat):Int)≤x.frame)) ts _ (hT.good hG).rows (fun x hx w' ha=>?_)) ?_
  ·obtain ⟨hp,hg2⟩:=ha
   refine U8 _ x Nb Fb w' (hg2.cell ax1 au3) (hg2.cell (by rw [cell_of_block (hG.here ⟨Fb,#[.func (.func 61) #[] #[.pointer (some ⟨Nb,0,none⟩)]],115⟩ au3)];rfl) au3) (((hT.good hG).good hg2).en x hx) (((hT.good hG).good hg2).iv x hx) (htc x hx)
  refine run ?_
  refine fin1 ⟨?_,by (exact ak)⟩
  rw [List.not_any_eq_all_not,List.all_map]
  congr 2
  funext t
  simp only [Function.comp_def,lK,Bool.not_or,Bool.not_not,List.not_any_eq_all_not]
  congr 2
  funext x
  rw [Bool.eq_iff_iff];simp
def KY (ws:List Nat) (ls:List (List bf × List dh)) (r:dB) (pk:BJ):PS:=⟨ws,ls,[],r,pk,0,⟨0,0,0,0,0⟩,jO,false⟩
def kP (cpu:Int) (sv:Value) (s:PS):Array Value:=
 #[.int .i64 cpu,.int .i64 s.kind,.int .i64 s.iW.op,.int .i64 s.iW.d,.int .i64 s.iW.n,.int .i64 s.iW.m,.int .i64 s.iW.aV,.int .i64 s.ft.kind,.int .i64 s.ft.stage,.int .i64 s.ft.level,.bool s.ft.walk,.int .i64 s.ft.page,.int .i64 0,sv,
  .int .u64 (s.r.x0:Nat),.int .u64 (s.r.x1:Nat),.int .u64 (s.r.x2:Nat),.int .u64 (s.r.x3:Nat),.int .u64 (s.r.x4:Nat),.int .u64 (s.r.x5:Nat),.int .u64 (s.r.x6:Nat),.int .u64 (s.r.x7:Nat),
  .int .u64 (s.r.pc:Nat),.int .u64 (s.r.jM:Nat),.int .u64 (s.r.eU:Nat),.int .u64 (s.r.oQ:Nat),.int .u64 (s.r.zM:Nat),.int .u64 (s.r.sJ:Nat),.int .u64 (s.r.far:Nat)]
def mg:PS:=⟨[],[],[],kJ,⟨0,false,false,false,0,false⟩,0,⟨0,0,0,0,0⟩,jO,false⟩
def Rh (cpu:Int) (s:PS) (u:Value) (hn:Hp):Prop:=∃ L:ML,wE L s∧u=.tuple #[.agg #[L.wv],.agg (di s.r).toArray,L.lv,.agg (kP cpu L.sv s),.int .i64 0]∧aC (L.hl++L.hs++(L.hw++L.ht)) hn
def XV (u:Value):Prop:=u=.tuple #[.agg #[.slice none 0 0],.agg (di kJ).toArray,.slice none 0 0,.agg (kP 0 (.slice none 0 0) mg),.int .i64 1]
theorem Ri {n:Nat} {es:List bf} {ds:List dh} (h1:bJ es ds=true) (h2:lK n es=true):gK n es ds:=by
 refine ⟨h1,fun e he=>?_⟩
 have h9:=List.all_eq_true.1 h2 e he
 have h10:=(dJ h1).1 e he
 simp only [bf.may,bf.nums,PtD.bV,Bool.and_eq_true,decide_eq_true_eq] at h10
 simp only [dM,Bool.and_eq_true,decide_eq_true_eq]
 exact ⟨h10.1.1.1.2.1,of_decide_eq_true h9⟩
theorem XW (s:PS) (cpu:Nat) (two:eu) (i:bF):∀ x,(sK s cpu two i).2=some x→x.length≤281474976710656:=by
 have h0:∀ x:List Int,some ([]:List Int)=some x→x.length≤281474976710656:=fun x h=>by cases h;simp
 have h1:∀ x:List Int,some [i.aV]=some x→x.length≤281474976710656:=fun x h=>by cases h;simp
 unfold sK
 cases (decide (i.op=7) || decide (i.op=8)) with
 | true=>exact h0
 | false=>
  cases decide (i.op=9) with
  | true=>exact h1
  | false=>
   cases decide (i.op=10) with
   | true=>
    cases decide (s.r.x i.n.toNat=0) with
    | true=>exact h1
    | false=>exact h0
   | false=>
    cases decide (i.op=11)<;>cases decide (i.op=12)<;>cases decide (i.op=13)<;>cases decide (i.op=14)<;>cases decide (i.op=15)<;>cases decide (i.op=16)<;>first | exact h0 | (intro x h;cases h)
theorem Ht {fn:Func} {R:Value→Hp→Prop} {l:Fm} {hp:Hp} {s0 s2 a t b a2 t2 b2 a3 t3 b3:Nat} {cs cs2 KZ:Array Value} {tb tb2 ZJ:TypeId} {v v2:Value} (h:R (.tuple #[.agg cs,.agg cs2,v,.agg KZ,v2]) hp) (hr:fn.results=#[.cell a t,.cell a2 t2,.tmp s0,.cell a3 t3,.tmp s2]:=by rfl) (h0:look l s0=some v:=by rfl) (hv:look l a=some (.pointer (some ⟨b,0,none⟩)):=by rfl) (hw:look l a2=some (.pointer (some ⟨b2,0,none⟩)):=by rfl) (hw3:look l a3=some (.pointer (some ⟨b3,0,none⟩)):=by rfl) (h3:look l s2=some v2:=by rfl) (hag:mem Tb.ag t=true:=by rfl) (hm:(⟨b,cs,tb⟩:aH)∈hp:=by (first | (with_reducible apply mh) | (focus ((repeat (first | (with_reducible apply mh) | (with_reducible apply mt) | (with_reducible apply List.mem_append_right)));done)))) (hz:lk Tb.sz t=some cs.size:=by rfl) (wo:mem Tb.ag t2=true:=by rfl) (hm2:(⟨b2,cs2,tb2⟩:aH)∈hp:=by (first | (with_reducible apply mh) | (focus ((repeat (first | (with_reducible apply mh) | (with_reducible apply mt) | (with_reducible apply List.mem_append_right)));done)))) (hz2:lk Tb.sz t2=some cs2.size:=by rfl) (XX:mem Tb.ag t3=true:=by rfl) (hm3:(⟨b3,KZ,ZJ⟩:aH)∈hp:=by (first | (with_reducible apply mh) | (focus ((repeat (first | (with_reducible apply mh) | (with_reducible apply mt) | (with_reducible apply List.mem_append_right)));done)))) (hz3:lk Tb.sz t3=some KZ.size:=by rfl):Fin Tryz.prog fn R .ret l hp:=
 ⟨.inl rfl,[.agg cs,.agg cs2,v,.agg KZ,v2],by rw [hr];exact ⟨⟨⟨b,cs,tb⟩,hm,hv,.inr ⟨ay.zq hag,ay.sV hz,rfl⟩⟩,⟨⟨b2,cs2,tb2⟩,hm2,hw,.inr ⟨ay.zq wo,ay.sV hz2,rfl⟩⟩,h0,⟨⟨b3,KZ,ZJ⟩,hm3,hw3,.inr ⟨ay.zq XX,ay.sV hz3,rfl⟩⟩,h3,trivial⟩,h⟩
set_option maxHeartbeats 4000000 in
theorem Fh (ws:List Nat) (hw:uy ws) (hwl:ws.length<1000000) (cap:Nat) (hcc:ws.length≤cap) {p:Option Addr} {w:World} (ts:List dR) (r:dB) (hr:r.Ok) (cpu:Int) (two:eu) (pk:BJ) {lv:Value} (hm:aB w (.slice p ws.length cap) 1 (ws.map uV)) (hT:qB w lv ts) (htc:∀ t∈ts,t.es.length≤t.ec) (hl:ts.length<100000):
  Fn Tryz.prog 16 [.agg #[.slice p ws.length cap],.agg (di r).toArray,lv,.int .i64 cpu,.agg (iI two).toArray,.agg (l7 pk).toArray].toArray w [] (fun u hn=>
   bif qH ws.length (ts.map dR.p) cpu two then Rh cpu (oZ (KY ws (ts.map dR.p) r pk) cpu.toNat two) u hn
   else XV u):=by
 have hT':=hT
 obtain ⟨ql,cl,rfl,hne,_⟩:=hT.rows.opened
 refine enter Tryz.func16 ?_
 refine GH ?_
 intro B1 B2 B3 B4 B5 B6 B7
 refine Es (kP cpu (.slice none 0 0) (KY ws (ts.map dR.p) r pk)) ?_
 refine GH ?_
 refine Es (Hr (.slice p ws.length cap) (.slice none 0 0) (.slice ql ts.length cl) cpu two (KY ws (ts.map dR.p) r pk)) ?_
 obtain ⟨S0,hS0⟩:∃ S0,S0=KY ws (ts.map dR.p) r pk:=⟨_,rfl⟩
 rw [← hS0]
 refine run ?_
 intro M
 show Ops _ _ _ _ _ _ _ (aH.mk M (Hr (.slice p ws.length cap) (.slice none 0 0) (.slice ql ts.length cl) cpu two S0) 82::_) _
 refine dH [aH.mk M (Hr (.slice p ws.length cap) (.slice none 0 0) (.slice ql ts.length cl) cpu two S0) 82] (aH.mk B7 (kP 0 (.slice none 0 0) mg) 46::aH.mk B6 ((di kJ).toArray) 30::aH.mk B5 (#[.slice none 0 0]) 24::aH.mk B4 (l7 pk).toArray 51::aH.mk B3 (iI two).toArray 33::aH.mk B2 (di r).toArray 30::aH.mk B1 #[.slice p ws.length cap] 24::[]) (fun wc hG=>XU ws hwl cap hcc ts cpu two S0 ((yc.old hT').into hG) htc hG.dD) (fun v hn hv=>?_) (.refl _)
 obtain ⟨rfl,hle⟩:=hv
 refine aI (aH.mk M (Hr (.slice p ws.length cap) (.slice none 0 0) (.slice ql ts.length cl) cpu two S0) 82::aH.mk B7 (kP 0 (.slice none 0 0) mg) 46::aH.mk B6 ((di kJ).toArray) 30::aH.mk B5 (#[.slice none 0 0]) 24::aH.mk B4 (l7 pk).toArray 51::aH.mk B3 (iI two).toArray 33::aH.mk B2 (di r).toArray 30::aH.mk B1 #[.slice p ws.length cap] 24::[]) (cnt1 hle) ?_
 cases hmay:qH ws.length (ts.map dR.p) cpu two with
 | false=>
  simp only [cond_false]
  refine aW ?_
  refine gZ 14 ?_
  refine gZ 16 ?_
  refine dI 8 3 [0,1,2] [3,4,5,6,7] (aH.mk M (Hr (.slice p ws.length cap) (.slice none 0 0) (.slice ql ts.length cl) cpu two S0) 82::aH.mk B7 (kP 0 (.slice none 0 0) mg) 46::aH.mk B6 ((di kJ).toArray) 30::aH.mk B5 (#[.slice none 0 0]) 24::aH.mk B4 (l7 pk).toArray 51::aH.mk B3 (iI two).toArray 33::aH.mk B2 (di r).toArray 30::aH.mk B1 #[.slice p ws.length cap] 24::[]) ?_
  refine bY ?_
  refine cSame ?_
  refine cSame ?_
  refine sH (fun hx=>eP rfl) ?_
  refine cSame ?_
  refine sH (fun hx=>eP rfl) ?_
  refine aG ?_
  refine cO ?_
  refine run ?_
  exact Ht (cs:=#[.slice none 0 0]) (cs2:=(di kJ).toArray) (KZ:=kP 0 (.slice none 0 0) mg) (rfl:XV _)
 | true=>
  have hall:∀ t∈ts,bJ t.es t.ds=true:=fun t ht=>by
   have h2:=hmay
   simp only [qH,Bool.and_eq_true] at h2
   have h3:=List.all_eq_true.1 h2.2 t.p (List.mem_map.2 ⟨t,ht,rfl⟩)
   simp only [Bool.and_eq_true] at h3
   exact h3.1
  simp only [cond_true]
  refine aW ?_
  refine gY (fun wc hG=>rD (.slice p ws.length cap) (ws.map uV) (hm.good hG) (x8 _) (by rw [List.length_map];exact hwl)) ?_
  intro wv hw1 hW
  obtain ⟨wp,wc,e1⟩:=hW.opened
  rw [List.length_map] at e1
  subst e1
  refine aI (aH.mk M (Hr (.slice p ws.length cap) (.slice none 0 0) (.slice ql ts.length cl) cpu two S0) 82::(hw1++aH.mk B7 (kP 0 (.slice none 0 0) mg) 46::aH.mk B6 ((di kJ).toArray) 30::aH.mk B5 (#[.slice none 0 0]) 24::aH.mk B4 (l7 pk).toArray 51::aH.mk B3 (iI two).toArray 33::aH.mk B2 (di r).toArray 30::aH.mk B1 #[.slice p ws.length cap] 24::[])) ak ?_
  refine run ?_
  refine gB (Hr (.slice wp ws.length wc) (.slice none 0 0) (.slice ql ts.length cl) cpu two S0) ?_
  refine run ?_
  refine gB (Hr (.slice wp ws.length wc) (.slice none 0 0) (.slice none 0 0) cpu two S0) ?_
  refine run ?_
  refine cu (σ:=FgS) (fun z=>[(50,.int .i64 (z.k:Int))]) (fun z=>aH.mk M (Hr (.slice wp ws.length wc) (.slice none 0 0) (z.v) cpu two S0) 82::(z.ha++z.hs++hw1++aH.mk B7 (kP 0 (.slice none 0 0) mg) 46::aH.mk B6 ((di kJ).toArray) 30::aH.mk B5 (#[.slice none 0 0]) 24::aH.mk B4 (l7 pk).toArray 51::aH.mk B3 (iI two).toArray 33::aH.mk B2 (di r).toArray 30::aH.mk B1 #[.slice p ws.length cap] 24::[])) (fun z=>z.k≤ts.length∧Acc 77 2 z.v z.ha (z.ts.map lq)∧jk z.ts z.hs∧z.ts.map dR.p=(ts.take z.k).map dR.p) (fun z=>ts.length - z.k) ⟨0,_,[],[],[]⟩ ⟨Nat.zero_le _,Acc.nil _ _,(trivial:jk [] []),rfl⟩ (hh:=by (exact ak)) ?_
  rintro ⟨k,ov,ha,hs,ts'⟩ m hm2 ⟨hk,hA,hO,hE⟩
  dsimp only at hm2 hk hA hO hE ⊢
  obtain ⟨oq,oc,eo⟩:=hA.own.opened
  have hl':ts'.length=k:=by have:=congrArg List.length hE;simpa [Nat.min_eq_left hk] using this
  rw [List.length_map] at eo
  subst eo
  refine run ?_
  refine aj _ rfl (fun hc2=>?_) (fun hc2=>?_)
  ·have hlt:k<ts.length:=by simpa using hc2
   obtain ⟨b,o,rfl⟩:=hne av7
   have hr2:=hT'.rows.row hlt
   have hen:=hT'.en _ (getD_mem hlt)
   have hiv:=hT'.iv _ (getD_mem hlt)
   have hcp:=htc _ (getD_mem hlt)
   have htn:=gz hlt
   have hok:=hall _ (getD_mem hlt)
   generalize ts.getD k default=t at hr2 hen hiv hcp htn hok
   refine run ?_
   intro X
   refine run ?_
   refine Eu 12 8 [0,1,2,3,4,5,9,10] [(6,false),(7,false),(8,false),(11,false)] (⟨X,#[t.ev,t.dv],77⟩::(hs++hw1++aH.mk B7 (kP 0 (.slice none 0 0) mg) 46::aH.mk B6 ((di kJ).toArray) 30::aH.mk B5 (#[.slice none 0 0]) 24::aH.mk B4 (l7 pk).toArray 51::aH.mk B3 (iI two).toArray 33::aH.mk B2 (di r).toArray 30::aH.mk B1 #[.slice p ws.length cap] 24::[])) ?_
   refine bY ?_
   refine xC ?_
   refine ug (fun wc hG=>oG t.es t.ds _ _ (hen.good hG) (hiv.good hG) (by have:=dJ hok;omega) (by have:=dJ hok;omega)) ?_
   rintro _ hn ⟨v1,h1,v2,h2,rfl,g1,g2,hle2⟩
   obtain ⟨q1,c1,x1⟩:=g1.opened
   obtain ⟨q2,c2,x2⟩:=g2.opened
   rw [List.length_map] at x1 x2
   subst x1 x2
   refine aG ?_
   refine xC ?_
   refine vY [.slice q1 t.es.length c1,.slice q2 t.ds.length c2] (fun Z=>?_)
   refine aG ?_
   refine Y8 (c:=[.slice q1 t.es.length c1,.slice q2 t.ds.length c2]) (hp':=⟨Z,#[.slice q1 t.es.length c1,.slice q2 t.ds.length c2],77⟩::(hn++(⟨X,#[t.ev,t.dv],77⟩::aH.mk M (Hr (.slice wp ws.length wc) (.slice none 0 0) ((.slice oq ts'.length oc)) cpu two S0) 82::(hs++hw1++aH.mk B7 (kP 0 (.slice none 0 0) mg) 46::aH.mk B6 ((di kJ).toArray) 30::aH.mk B5 (#[.slice none 0 0]) 24::aH.mk B4 (l7 pk).toArray 51::aH.mk B3 (iI two).toArray 33::aH.mk B2 (di r).toArray 30::aH.mk B1 #[.slice p ws.length cap] 24::[])))) hA (bP (m:=2) mh rfl) au1 au ak (fun v' ha' hA2=>?_)
   obtain ⟨q9,c9,e9⟩:=hA2.own.opened
   subst e9
   refine xC ?_
   refine iM (b:=M) (tb:=82) (cs:=Hr (.slice wp ws.length wc) (.slice none 0 0) (.slice oq ts'.length oc) cpu two S0) (Hr (.slice wp ws.length wc) (.slice none 0 0) (.slice q9 (ts'.map lq++[[Value.slice q1 t.es.length c1,Value.slice q2 t.ds.length c2]]).length c9) cpu two S0) (hp':=ha'++(⟨Z,#[.slice q1 t.es.length c1,.slice q2 t.ds.length c2],77⟩::(hn++(⟨X,#[t.ev,t.dv],77⟩::(hs++hw1++aH.mk B7 (kP 0 (.slice none 0 0) mg) 46::aH.mk B6 ((di kJ).toArray) 30::aH.mk B5 (#[.slice none 0 0]) 24::aH.mk B4 (l7 pk).toArray 51::aH.mk B3 (iI two).toArray 33::aH.mk B2 (di r).toArray 30::aH.mk B1 #[.slice p ws.length cap] 24::[]))))) ?_ (hperm:=by (exact au))
   refine aG ?_
   refine TY ?_
   refine cO ?_
   refine run ?_
   have hcp1:t.es.length≤c1:=by
    obtain ⟨q8,c8,e8,h8⟩:=g1.cap
    injection e8 with _ _ e8
    omega
   have hb:=dJ hok
   refine bI ⟨k + 1,_,ha',(h1++h2)++hs,ts'++[⟨t.es,t.ds,q1,c1,q2,c2⟩]⟩ ⟨hlt,by dsimp only;rw [List.map_append];exact hA2,?_,?_⟩ (hm:=by dsimp only;omega) (h2:=by (exact cnt1 hle2))
   ·exact jk.snoc (y:=⟨t.es,t.ds,q1,c1,q2,c2⟩) ⟨g1,g2,hb.2.1,hb.2.2⟩ hO
   ·dsimp only
    rw [htn,List.map_append,List.map_append,hE]
    rfl
  ·have hge:k=ts.length:=by simp at hc2;omega
   subst hge
   rw [List.take_length] at hE
   obtain ⟨C,rfl⟩:∃ C:Nat,cpu=(C:Int):=⟨cpu.toNat,by
    have h2:=hmay
    simp only [qH,Bool.and_eq_true,decide_eq_true_eq] at h2
    omega⟩
   have hPs:fD S0 C two:=by
    have h2:=hmay
    simp only [qH,Bool.and_eq_true,decide_eq_true_eq] at h2
    obtain ⟨⟨⟨⟨⟨m1,m2⟩,m3⟩,m4⟩,m5⟩,m6⟩:=h2
    rw [hS0]
    refine ⟨hw,m1,by show C<(ts.map dR.p).length;omega,by show (ts.map dR.p).length<_;rw [List.length_map];exact hl,fun t ht=>?_,⟨m4,m5⟩,hr⟩
    have h3:=List.all_eq_true.1 m6 t ht
    simp only [Bool.and_eq_true] at h3
    exact Ri h3.1 h3.2
   have hov:S0.over=false:=by rw [hS0];rfl
   have hsn:S0.seen.length=0:=by rw [hS0];rfl
   simp only [U6]
   have hML:wE ⟨.slice wp ws.length wc,.slice none 0 0,.slice oq ts'.length oc,ts',hw1,[],ha,hs⟩ S0:=by
    rw [hS0]
    exact ⟨hW,Own.nil _ _,hA.own,hO,hE⟩
   rw [Int.toNat_natCast]
   refine run ?_
   refine dH (aH.mk M (mc (.slice wp ws.length wc) (.slice none 0 0) (.slice oq ts'.length oc) C two S0) 82::(ha++[]++(hw1++hs))) (aH.mk B7 (kP 0 (.slice none 0 0) mg) 46::aH.mk B6 ((di kJ).toArray) 30::aH.mk B5 (#[.slice none 0 0]) 24::aH.mk B4 (l7 pk).toArray 51::aH.mk B3 (iI two).toArray 33::aH.mk B2 (di r).toArray 30::aH.mk B1 #[.slice p ws.length cap] 24::[]) (fun wc' hG=>Q8 _ M C two S0 hML hPs at7 hov hG.dD) (fun v hn2 hv=>?_) au
   obtain ⟨rfl,L2,hL2,hle2⟩:=hv
   obtain ⟨f1,f2,f3⟩:=Ho hPs
   generalize hF:kW S0 C two=F at hL2 hle2 f1 f2 f3
   unfold ML.hp at hle2
   refine aI (aH.mk M (mc L2.wv L2.sv L2.lv C two F) 82::((L2.hl++L2.hs++(L2.hw++L2.ht))++aH.mk B7 (kP 0 (.slice none 0 0) mg) 46::aH.mk B6 ((di kJ).toArray) 30::aH.mk B5 (#[.slice none 0 0]) 24::aH.mk B4 (l7 pk).toArray 51::aH.mk B3 (iI two).toArray 33::aH.mk B2 (di r).toArray 30::aH.mk B1 #[.slice p ws.length cap] 24::[])) (cnt1 hle2) ?_
   refine run ?_
   have hZ:oZ S0 C two=(bif F.over then F else mX (sK F C two F.iW)):=by rw [← hF];rfl
   generalize oZ S0 C two=Z at hZ ⊢
   refine dW (σ:=ML) (fun _=>[]) (fun L=>aH.mk M (mc L.wv L.sv L.lv C two Z) 82::((L.hl++L.hs++(L.hw++L.ht))++aH.mk B7 (kP 0 (.slice none 0 0) mg) 46::aH.mk B6 ((di kJ).toArray) 30::aH.mk B5 (#[.slice none 0 0]) 24::aH.mk B4 (l7 pk).toArray 51::aH.mk B3 (iI two).toArray 33::aH.mk B2 (di r).toArray 30::aH.mk B1 #[.slice p ws.length cap] 24::[])) (fun L=>wE L Z) ?_ ?_
   ·refine aj _ rfl (fun hc3=>?_) (fun hc3=>?_)
    ·have ho:F.over=false:=by simpa using hc3
     rw [ho,cond_false] at hZ
     obtain ⟨d1,d2⟩:=VS f1 (f3 ho).1
     refine run ?_
     rw [show (List.take 5 (List.drop 3 (mc L2.wv L2.sv L2.lv C two F).toList)).toArray=(Kr F.iW).toArray from rfl]
     refine dH (aH.mk M (mc L2.wv L2.sv L2.lv C two F) 82::(L2.hl++L2.hs++(L2.hw++L2.ht))) (aH.mk B7 (kP 0 (.slice none 0 0) mg) 46::aH.mk B6 ((di kJ).toArray) 30::aH.mk B5 (#[.slice none 0 0]) 24::aH.mk B4 (l7 pk).toArray 51::aH.mk B3 (iI two).toArray 33::aH.mk B2 (di r).toArray 30::aH.mk B1 #[.slice p ws.length cap] 24::[]) (fun wc' hG=>XT L2 M C two F hL2 f1 at7 ho F.iW (f3 ho).1 hG.dD) (fun v hn3 hv=>?_) au
     obtain ⟨av,ah,L4,rfl,hA4,hL4,yT⟩:=hv
     have hxl:=XW F C two F.iW
     generalize sK F C two F.iW=D at hZ d1 d2 hA4 hL4 yT hxl ⊢
     unfold ML.hp at yT
     obtain ⟨aq,ac,ea⟩:=hA4.opened
     rw [List.length_map] at ea
     subst ea
     refine aI (aH.mk M (mc L4.wv L4.sv L4.lv C two D.1) 82::((L4.hl++L4.hs++(L4.hw++L4.ht))++ah++aH.mk B7 (kP 0 (.slice none 0 0) mg) 46::aH.mk B6 ((di kJ).toArray) 30::aH.mk B5 (#[.slice none 0 0]) 24::aH.mk B4 (l7 pk).toArray 51::aH.mk B3 (iI two).toArray 33::aH.mk B2 (di r).toArray 30::aH.mk B1 #[.slice p ws.length cap] 24::[])) (cnt1 yT) ?_
     refine az ?_
     refine aj _ rfl (fun hc4=>?_) (fun hc4=>?_)
     ·rw [Bool.and_eq_true,Bool.not_eq_true',Bool.not_eq_true'] at hc4
      obtain ⟨x,hx⟩:∃ x,D.2=some x:=by
       have h2:=hc4.2
       cases hD2:D.2 with
       | none=>rw [hD2] at h2;cases h2
       | some x=>exact ⟨x,rfl⟩
      have hz2:Z={ D.1 with r:=D.1.r.next x }:=by rw [hZ];unfold mX;rw [hc4.1,hx];rfl
      rw [hx] at hA4 ⊢
      refine run ?_
      rw [show (List.take 15 (List.drop 15 (mc L4.wv L4.sv L4.lv C two D.1).toList)).toArray=(di D.1.r).toArray from rfl]
      refine ax (fun wc' hG=>Uf D.1.r x (hA4.lie (fun e he=>hG.here e av1) (by rw [List.length_map];exact hxl x hx))) ?_
      refine run ?_
      refine gB (mc L4.wv L4.sv L4.lv C two Z) ?_ (hput:=by rw [hz2];kernel_rfl)
      refine run ?_
      exact dA L4 (by rw [hz2];exact ⟨hL4.w,hL4.q,hL4.l,hL4.t,hL4.p⟩) (h2:=by (exact ak))
     ·have hz2:Z=D.1:=by
       rw [hZ]
       unfold mX
       cases ho2:D.1.over with
       | true=>rfl
       | false=>
        rw [ho2] at hc4
        cases hD2:D.2 with
        | none=>rfl
        | some x=>rw [hD2] at hc4;cases hc4
      rw [hz2]
      refine run ?_
      exact dA L4 hL4 (h2:=by (exact ak))
    ·have ho:F.over=true:=by simpa using hc3
     rw [ho,cond_true] at hZ
     rw [hZ]
     refine run ?_
     exact dA L2 hL2
   intro L3 hL3
   refine run ?_
   obtain ⟨wv3,sv3,lv3,FC,hw3,hs3,hl3,ht3⟩:=L3
   obtain ⟨wH,wI,ew,ag'⟩:=hL3.mem
   obtain ⟨y7,y8,es⟩:=hL3.q.opened
   obtain ⟨FD,FH,el⟩:=hL3.l.opened
   dsimp only at ew es el ⊢
   subst ew es el
   refine gZ 14 ?_
   refine gZ 16 ?_
   refine dI 22 17 [0,1,2,3,4,5,6,7,8,9,10,11,12,13,14,15,16] [17,18,19,20,21] [aH.mk M (mc (.slice wH Z.ws.length wI) (.slice y7 (Z.seen.map dN).length y8) (.slice FD (FC.map lq).length FH) C two Z) 82] ?_
   refine bY ?_
   rw [show (List.take 29 (List.drop 1 (mc (.slice wH Z.ws.length wI) (.slice y7 (Z.seen.map dN).length y8) (.slice FD (FC.map lq).length FH) C two Z).toList)).toArray=kP C (.slice y7 (Z.seen.map dN).length y8) Z from rfl,show (List.take 15 (List.drop 15 (mc (.slice wH Z.ws.length wI) (.slice y7 (Z.seen.map dN).length y8) (.slice FD (FC.map lq).length FH) C two Z).toList)).toArray=(di Z.r).toArray from rfl,show (List.take 1 (mc (.slice wH Z.ws.length wI) (.slice y7 (Z.seen.map dN).length y8) (.slice FD (FC.map lq).length FH) C two Z).toList).toArray=#[.slice wH Z.ws.length wI] from rfl]
   refine pW (b:=B5) (tb:=24) (cs:=#[.slice none 0 0]) (cs':=#[.slice wH Z.ws.length wI]) (hp':=aH.mk M (mc (.slice wH Z.ws.length wI) (.slice y7 (Z.seen.map dN).length y8) (.slice FD (FC.map lq).length FH) C two Z) 82::(aH.mk B7 (kP 0 (.slice none 0 0) mg) 46::aH.mk B6 (di kJ).toArray 30::[]++((hl3++hs3++(hw3++ht3))++[aH.mk B4 (l7 pk).toArray 51,aH.mk B3 (iI two).toArray 33,aH.mk B2 (di r).toArray 30,aH.mk B1 #[.slice p ws.length cap] 24]))) ?_ (hperm:=by (exact au))
   refine pW (b:=B6) (tb:=30) (cs:=(di kJ).toArray) (cs':=(di Z.r).toArray) (hp':=aH.mk M (mc (.slice wH Z.ws.length wI) (.slice y7 (Z.seen.map dN).length y8) (.slice FD (FC.map lq).length FH) C two Z) 82::(aH.mk B7 (kP 0 (.slice none 0 0) mg) 46::aH.mk B5 #[.slice wH Z.ws.length wI] 24::[]++((hl3++hs3++(hw3++ht3))++[aH.mk B4 (l7 pk).toArray 51,aH.mk B3 (iI two).toArray 33,aH.mk B2 (di r).toArray 30,aH.mk B1 #[.slice p ws.length cap] 24]))) ?_ (hperm:=by (exact au))
   refine sH (fun hx=>eP rfl) ?_
   refine iM (b:=B7) (tb:=46) (cs:=kP 0 (.slice none 0 0) mg) (kP C (.slice y7 (Z.seen.map dN).length y8) Z) (hp':=aH.mk M (mc (.slice wH Z.ws.length wI) (.slice y7 (Z.seen.map dN).length y8) (.slice FD (FC.map lq).length FH) C two Z) 82::(aH.mk B6 (di Z.r).toArray 30::aH.mk B5 #[.slice wH Z.ws.length wI] 24::[]++((hl3++hs3++(hw3++ht3))++[aH.mk B4 (l7 pk).toArray 51,aH.mk B3 (iI two).toArray 33,aH.mk B2 (di r).toArray 30,aH.mk B1 #[.slice p ws.length cap] 24]))) ?_ (hperm:=by (exact au))
   refine sH (fun hx=>eP rfl) ?_
   refine aG ?_
   refine cO ?_
   refine aI (aH.mk B7 (kP C (.slice y7 (Z.seen.map dN).length y8) Z) 46::aH.mk B6 (di Z.r).toArray 30::aH.mk B5 #[.slice wH Z.ws.length wI] 24::(hl3++hs3++(hw3++ht3))) ak ?_
   refine run ?_
   refine Ht (cs:=#[.slice wH Z.ws.length wI]) (cs2:=(di Z.r).toArray) (KZ:=kP C (.slice y7 (Z.seen.map dN).length y8) Z) ?_
   exact ⟨_,hL3,rfl,by (exact ak)⟩
def fG (wv sv lv:Value) (cpu:Nat) (two:eu) (s:PS):Array Value:=
 #[wv,.int .u64 (s.r.x0:Nat),.int .u64 (s.r.x1:Nat),.int .u64 (s.r.x2:Nat),.int .u64 (s.r.x3:Nat),.int .u64 (s.r.x4:Nat),.int .u64 (s.r.x5:Nat),.int .u64 (s.r.x6:Nat),.int .u64 (s.r.x7:Nat),
  .int .u64 (s.r.pc:Nat),.int .u64 (s.r.jM:Nat),.int .u64 (s.r.eU:Nat),.int .u64 (s.r.oQ:Nat),.int .u64 (s.r.zM:Nat),.int .u64 (s.r.sJ:Nat),.int .u64 (s.r.far:Nat),
  lv,.int .i64 (cpu:Nat),.bool two.on,.int .i64 two.frame,.int .i64 two.tag,.int .i64 s.pk.cpu,.bool s.pk.fill,.bool s.pk.aN,.bool s.pk.walk,.int .i64 s.pk.drop,.bool s.pk.use,
  .int .i64 (cpu:Nat),.int .i64 s.kind,.int .i64 s.iW.op,.int .i64 s.iW.d,.int .i64 s.iW.n,.int .i64 s.iW.m,.int .i64 s.iW.aV,.int .i64 s.ft.kind,.int .i64 s.ft.stage,.int .i64 s.ft.level,.bool s.ft.walk,.int .i64 s.ft.page,.int .i64 0,sv,
  .int .u64 0,.int .u64 0,.int .u64 0,.int .u64 0,.int .u64 0,.int .u64 0,.int .u64 0,.int .u64 0,.int .u64 0,.int .u64 0,.int .u64 0,.int .u64 0,.int .u64 0,.int .u64 0,.int .u64 0]
theorem yf (wv sv lv:Value) (cpu:Nat) (two:eu) (s:PS) (sJ far M:Nat) {w:World} (hN:eF [⟨M,fG wv sv lv cpu two s,92⟩] w):Fn Tryz.prog 83 [.pointer (some ⟨M,0,none⟩),.int .u64 (sJ:Nat),.int .u64 (far:Nat)].toArray w [M] (fun u hn=>u=.tuple #[]∧aC [⟨M,fG wv sv lv cpu two (lM s sJ far),92⟩] hn):=by
 refine dY [⟨M,fG wv sv lv cpu two s,92⟩] hN Tryz.func83 ?_
 refine run ?_
 refine gB (fG wv sv lv cpu two { s with kind:=1 }) ?_
 refine run ?_
 rw [show (List.take 15 (List.drop 1 (fG wv sv lv cpu two { s with kind:=1 }).toList)).toArray=(di s.r).toArray from rfl]
 refine ax (fun wc hG=>MG s.r sJ far wc) ?_
 refine run ?_
 refine gB (fG wv sv lv cpu two (lM s sJ far)) ?_
 refine run ?_
 exact fin0 ⟨rfl,by (exact ak)⟩
theorem Dz (wv sv lv:Value) (cpu:Nat) (two:eu) (s:PS) (f:mW) (hf:f.stage ≠ 2→f.Fit) (addr M:Nat) {w:World} (hN:eF [⟨M,fG wv sv lv cpu two s,92⟩] w):Fn Tryz.prog 126 [.pointer (some ⟨M,0,none⟩),xQ f,.int .u64 (addr:Nat)].toArray w [M] (fun u hn=>u=.tuple #[]∧aC [⟨M,fG wv sv lv cpu two (gp s f addr),92⟩] hn):=by
 refine dY [⟨M,fG wv sv lv cpu two s,92⟩] hN Tryz.func126 ?_
 refine run ?_
 intro F
 refine run ?_
 refine gB (fG wv sv lv cpu two { s with ft:=f }) ?_ (hperm:=p1)
 refine run ?_
 refine aj _ rfl (fun hc=>?_) (fun hc=>?_)
 ·have h2:gp s f addr={ s with ft:=f,over:=true,kind:=2 }:=by
   unfold gp
   rw [show decide (f.stage=2)=true from hc];rfl
  rw [h2]
  refine run ?_
  refine gB (fG wv sv lv cpu two { s with ft:=f,over:=true,kind:=2 }) ?_
  refine run ?_
  exact fin0 ⟨rfl,by (exact ak)⟩
 ·have h2:gp s f addr=lM { s with ft:=f } (Jl f) addr:=by
   unfold gp
   rw [show decide (f.stage=2)=false from hc];rfl
  rw [h2]
  have hF:=hf (of_decide_eq_false hc)
  refine run ?_
  refine ax (fun wc hG=>Xq f hF wc) ?_
  refine run ?_
  refine dH [⟨M,fG wv sv lv cpu two { s with ft:=f },92⟩] [⟨F,#[.int .i64 f.kind,.int .i64 f.stage,.int .i64 f.level,.bool f.walk,.int .i64 f.page],43⟩] (fun wc hG=>yf wv sv lv cpu two { s with ft:=f } (Jl f) addr M hG.dD) (fun v hn hv=>?_) (.refl _)
  obtain ⟨rfl,hle⟩:=hv
  refine run ?_
  exact fin0 ⟨rfl,by (exact cnt1 hle)⟩
theorem U9 (addr:Nat) (h:addr<18446744073709551616) (w:World):Fn Tryz.prog 27 [.int .u64 (addr:Nat)].toArray w [] (fun u _=>u=bif decide (addr<262144) then .tuple #[.int .i64 ((addr / 64:Nat):Int),.int .i64 ((addr % 64:Nat):Int),.bool true] else .tuple #[.int .i64 0,.int .i64 0,.bool false]):=by
 refine enter Tryz.func27 ?_
 refine run ?_
 refine aj _ rfl (fun hc=>?_) (fun hc=>?_)
 ·rw [show decide (addr<262144)=false by simp at hc;exact decide_eq_false at7]
  refine run ?_
  exact F8 rfl
 ·have hl:addr<262144:=by simp at hc;omega
  rw [show decide (addr<262144)=true from decide_eq_true hl]
  refine run ?_
  refine fA au2 (ny rfl rfl addr 64 rfl rfl au0 at7) ?_
  refine run ?_
  refine fA au2 (iG rfl rfl addr 64 rfl rfl au0) ?_
  refine run ?_
  exact F8 rfl
def ML.pO (L:ML) (M cpu:Nat) (two:eu) (s:PS):Hp:=⟨M,fG L.wv L.sv L.lv cpu two s,92⟩::(L.hl++L.hs++(L.hw++L.ht))
structure lN (wv:Value) (ws:List Nat) (L:ML) (s:PS):Prop where
 w:(L.wv=wv∧s.ws=ws)∨Own 25 1 L.wv L.hw (s.ws.map uV)
 c:∃ p c,L.wv=.slice p s.ws.length c∧s.ws.length≤c
 q:Own 3 1 L.sv L.hs (s.seen.map dN)
 l:Own 77 2 L.lv L.hl (L.ts.map lq)
 t:wC L.ht L.ts
 p:L.ts.map dR.p=s.ls
theorem lN.tl {wv:Value} {ws:List Nat} {L:ML} {s:PS} (h:lN wv ws L s) (cpu:Nat):(L.ts.getD cpu default).p=s.tl cpu:=by
 unfold PS.tl
 rw [← h.p,List.getD_eq_getElem?_getD,List.getD_eq_getElem?_getD,List.getElem?_map]
 cases L.ts[cpu]?<;>rfl
theorem lN.row {wv:Value} {ws:List Nat} {L:ML} {s:PS} {cpu:Nat} {two:eu} (h:lN wv ws L s) (hs:fD s cpu two):∃ g lc fO,∃ tc:dR,L.lv=.slice (some ⟨g,0,none⟩) L.ts.length lc∧L.hl=[⟨g,fO,77⟩]∧List.take 2 (List.drop (cpu * 2) fO.toList)=[tc.ev,tc.dv]∧tc.p=s.tl cpu∧NC L.ht tc∧cpu<L.ts.length∧cpu * 2 + 2≤fO.size ∧
  (∀ (j:Nat) (c:Value),[tc.ev,tc.dv][j]?=some c→nth fO.toList (cpu * 2 + j)=some c) ∧
  (∀ (y:dR) (hy:Hp),NC hy y→Own 77 2 (.slice (some ⟨g,0,none⟩) L.ts.length lc) [⟨g,putAt fO (cpu * 2) [y.ev,y.dv],77⟩] ((L.ts.set cpu y).map lq)∧wC (hy++L.ht) (L.ts.set cpu y)∧(L.ts.set cpu y).map dR.p=s.ls.set cpu y.p) ∧
  (∀ (y:dR) (hy:Hp),tc.ev=y.ev→NC hy y→Own 77 2 (.slice (some ⟨g,0,none⟩) L.ts.length lc) [⟨g,putAt fO (cpu * 2 + 1) [y.dv],77⟩] ((L.ts.set cpu y).map lq)∧wC (hy++L.ht) (L.ts.set cpu y)∧(L.ts.set cpu y).map dR.p=s.ls.set cpu y.p):=by
 have hlen:L.ts.length=s.ls.length:=by rw [← h.p,List.length_map]
 have hcl:cpu<L.ts.length:=by rw [hlen];exact hs.cpu
 obtain ⟨g,lc,fO,e1,e2,hsz,qG,hput⟩:=h.l.ND hcl
 refine ⟨g,lc,fO,L.ts.getD cpu default,e1,e2,x9 (qG 0 _ rfl) (qG 1 _ rfl),h.tl cpu,h.t _ (getD_mem hcl),hcl,hsz,qG,fun y hy hty=>⟨hput 0 [y.ev,y.dv] y au3 rfl ⟨rfl,rfl⟩,Hg hty h.t,by rw [List.map_set,h.p]⟩,fun y hy he hty=>⟨hput 1 [y.dv] y au3 (by show [_,_]=[_,_];rw [he]) ⟨rfl,rfl⟩,Hg hty h.t,by rw [List.map_set,h.p]⟩⟩
theorem lN.read {wv:Value} {ws:List Nat} {L:ML} {s:PS} (h:lN wv ws L s) {w wc:World} {mu:List Nat} {hp:Hp} (hm:dK w mu wv 1 (ws.map uV)) (hG:Good w mu hp wc) (hle:Here L.hw wc) (hlen:s.ws.length<1000000):aB wc L.wv 1 (s.ws.map uV):=by
 rcases h.w with ⟨h1,h2⟩ | h1
 ·rw [h1,h2];exact hm.good hG
 ·exact h1.lie hle au1
theorem lN.fault {wv:Value} {ws:List Nat} {L:ML} {s:PS} (h:lN wv ws L s) (f:mW) (addr:Nat):lN wv ws L (gp s f addr):=by
 unfold gp
 cases decide (f.stage=2) with
 | true=>exact ⟨h.w,h.c,h.q,h.l,h.t,h.p⟩
 | false=>exact ⟨h.w,h.c,h.q,h.l,h.t,h.p⟩
def RPg (A:zo) (ds:List dh) (u:Value) (hn:Hp):Prop:=∃ (ev dv rv:Value) (he hd hr:Hp),u=.tuple #[.int .i64 A.n,xQ A.f,.agg #[ev,dv],rv]∧Own 114 14 ev he (A.s.es.map bG)∧Own 121 4 dv hd (ds.map dG)∧Own 3 1 rv hr (A.s.rd.map dN)∧aC (he++hd++hr) hn
theorem rpg {A:zo} {ds:List dh} {u:Value} {hn:Hp} (h:∃ X:zo,X=A∧∃ ev' rQ rv' he' hd' hr',u=.tuple #[.int .i64 X.n,xQ X.f,.agg #[ev',rQ],rv']∧Own 114 14 ev' he' (X.s.es.map bG)∧Own 121 4 rQ hd' (ds.map dG)∧Own 3 1 rv' hr' (X.s.rd.map dN)∧aC (he'++hd'++hr') hn):RPg A ds u hn:=by
 obtain ⟨X,rfl,ev',rQ,rv',he',hd',hr',h⟩:=h
 exact ⟨ev',rQ,rv',he',hd',hr',h⟩
theorem XY {A:zo} {ds:List dh} (h1:A.s.es.length≤8) (h2:ds.length≤8) (h3:A.s.rd.length≤100):∃ u hn,RPg A ds u hn:=by
 obtain ⟨_,hn,ev,dv,rv,he,hd,hr,_,h⟩:=VR h1 h2 h3
 exact ⟨_,hn,ev,dv,rv,he,hd,hr,rfl,h⟩
theorem yg (wv:Value) (ws:List Nat) (L:ML) (M cpu:Nat) (two:eu) (s:PS) (hL:lN wv ws L s) (hs:fD s cpu two) (hsn:s.seen.length<100000) (hov:s.over=false) (addr:Nat) (ha:addr<18446744073709551616) (acc:Int) (hac:PtD.bV acc 0 2=true) {w:World} (hm:dK w ((L.pO M cpu two s).map (·.b)) wv 1 (ws.map uV)) (hN:eF (L.pO M cpu two s) w):Fn Tryz.prog 84 [.pointer (some ⟨M,0,none⟩),.int .u64 (addr:Nat),.int .i64 acc].toArray w ((L.pO M cpu two s).map (·.b)) (fun u hn=>u=.tuple #[.int .i64 (bU s cpu two addr acc).2,.bool (!(bU s cpu two addr acc).1.over)]∧∃ L',lN wv ws L' (bU s cpu two addr acc).1∧aC (L'.pO M cpu two (bU s cpu two addr acc).1) hn):=by
 have Jz:=hs.te
 have h8:=dJ Jz.vg
 have BF:=bC hs.mem
 have ZK:=fun (wc:World) (hp:Hp) (hG:Good w ((L.pO M cpu two s).map (·.b)) hp wc) (hle:Here L.hw wc)=>hL.read hm hG hle at7
 obtain ⟨g,lc,fO,tc,e1,e2,hld,htl,hx,hcl,hsz,_,hput,_⟩:=hL.row hs
 obtain ⟨wp,wc,e0,hwc⟩:=hL.c
 obtain ⟨wv1,sv,lv,ts,hw,hq,hl,ht⟩:=L
 obtain ⟨hLw,hLc,hLq,NG,XL,Yg⟩:=hL
 dsimp only at e0 e1 e2 hx hcl hput hLw hLc hLq NG XL Yg ZK
 subst e0 e1 e2
 refine dY (aH.mk M (fG (.slice wp s.ws.length wc) sv (.slice (some ⟨g,0,none⟩) ts.length lc) cpu two s) 92::(aH.mk g fO 77::(hq++(hw++ht)))) hN Tryz.func84 ?_
 refine run ?_
 refine ax (fun wc hG=>U9 addr ha wc) ?_
 cases hd:decide (addr<262144) with
 | false=>
  have hp:bU s cpu two addr acc=(gp s ⟨2,1,0,false,4095⟩ addr,0):=by unfold bU;rw [hd];rfl
  rw [hp,rW]
  refine aW ?_
  refine dH [aH.mk M (fG (.slice wp s.ws.length wc) sv (.slice (some ⟨g,0,none⟩) ts.length lc) cpu two s) 92] (aH.mk g fO 77::(hq++(hw++ht))) (fun wc' hG=>Dz _ _ _ cpu two s ⟨2,1,0,false,4095⟩ (fun _=>⟨by decide,by decide,by decide,by decide⟩) addr M hG.dD) (fun v hn hv=>?_) (.refl _)
  obtain ⟨rfl,hle⟩:=hv
  refine run ?_
  exact fin2 ⟨rfl,⟨.slice wp s.ws.length wc,sv,(.slice (some ⟨g,0,none⟩) ts.length lc),ts,hw,hq,[⟨g,fO,77⟩],ht⟩,(lN.fault (s:=s) ⟨hLw,hLc,hLq,NG,XL,Yg⟩ ⟨2,1,0,false,4095⟩ addr),by unfold ML.pO;(exact cnt1 hle)⟩
 | true=>
  have hd':=of_decide_eq_true hd
  refine aW ?_
  refine iQ 37 [0,1,2,3,4,5,6,7,8,9,10,11,12,13,14,15,16,17,18,19,20,21,22,23,24,25,26,27,28] [29,35,36] [30,31,32,33,34] [37,40] [38,39] ?_
  refine eX ?_
  rw [show (List.take 15 (List.drop 1 (fG (.slice wp s.ws.length wc) sv (.slice (some ⟨g,0,none⟩) ts.length lc) cpu two s).toList)).toArray=(di s.r).toArray from rfl,show (List.take 1 (fG (.slice wp s.ws.length wc) sv (.slice (some ⟨g,0,none⟩) ts.length lc) cpu two s).toList).toArray=#[.slice wp s.ws.length wc] from rfl]
  refine Az (fun wc hx hG=>Qo s.r hs.r.jM hs.r.eU wc) ?_
  refine eX ?_
  have hAo:=AZ (hs.ac hd' acc) Jz
  have hAr:=E5 (hs.ac hd' acc) Jz
  refine iU (fun wc' hG=>(Nc (s.ac two addr acc) (hs.ac hd' acc) tc.es tc.ds (by rw [← htl] at Jz;exact Jz) (ZK wc' _ hG (fun e he=>hG.here e av1)) (hx.1 wc' (fun e he=>hG.here e av1)).1 ⟨_,_,rfl,hx.2⟩ (hx.1 wc' (fun e he=>hG.here e av1)).2).mono (fun u hn hu=>rpg hu)) ?_ ?_
  ·rw [← htl] at hAo h8;exact XY (dJ hAo.es.vg).2.1 h8.2.2 aw8
  refine dL ?_
  refine dL ?_
  refine gW ?_
  rintro _ _ ⟨Y2,rfl,rfl⟩ _ _ ⟨Y1,rfl,rfl⟩ u hn ⟨ev1,oU,pJ,he1,hd1,hr1,rfl,g1,g2,g3,hle⟩
  have XM:s.acc cpu two addr acc=nR (s.ac two addr acc) (s.tl cpu).1:=rfl
  have Q5:s.acc cpu two addr acc=nR (s.ac two addr acc) tc.es:=by unfold PS.acc;rw [← htl];rfl
  obtain ⟨X,hX⟩:∃ X,X=s.acc cpu two addr acc:=⟨_,rfl⟩
  rw [← Q5,← hX] at g1 g3 ⊢
  have hX8:X.s.es.length≤8:=by rw [hX,Q5];rw [← htl] at hAo;exact (dJ hAo.es.vg).2.1
  have hD8:tc.ds.length≤8:=by rw [← htl] at h8;exact h8.2.2
  have hXf:X.f.stage ≠ 2→X.f.Fit:=by rw [hX,Q5];rw [← htl] at hAr;exact hAr.f
  have Zw:X.f.kind=0→dM s.ws.length X.n=true:=by rw [hX,Q5];rw [← htl] at hAr;exact hAr.n
  obtain ⟨r1,c1,e1⟩:=g1.opened
  obtain ⟨r2,c2,e2⟩:=g2.opened
  obtain ⟨r3,c3,e3⟩:=g3.opened
  rw [List.length_map] at e1 e2 e3
  subst e1 e2 e3
  refine mP ?_
  refine aQ ?_
  refine aQ ?_
  refine aQ ?_
  refine aQ ?_
  refine eY ?_
  refine iy ?_
  refine iy ?_
  refine eY ?_
  simp only [DN,List.cons_append,List.nil_append,List.append_nil]
  refine aU (b:=Y1) (tb:=43) (cs:=#[.int .i64 0,.int .i64 0,.int .i64 0,.bool false,.int .i64 0]) (cs':=#[.int .i64 X.f.kind,.int .i64 X.f.stage,.int .i64 X.f.level,.bool X.f.walk,.int .i64 X.f.page]) (hp':=⟨Y2,#[.slice none 0 0,.slice none 0 0],77⟩::(hn++aH.mk M (fG (.slice wp s.ws.length wc) sv (.slice (some ⟨g,0,none⟩) ts.length lc) cpu two s) 92::aH.mk g fO 77::(hq++(hw++ht)))) ?_ au
  refine aU (b:=Y2) (tb:=77) (cs:=#[.slice none 0 0,.slice none 0 0]) (cs':=#[.slice r1 X.s.es.length c1,.slice r2 tc.ds.length c2]) (hp':=⟨Y1,#[.int .i64 X.f.kind,.int .i64 X.f.stage,.int .i64 X.f.level,.bool X.f.walk,.int .i64 X.f.page],43⟩::(hn++aH.mk M (fG (.slice wp s.ws.length wc) sv (.slice (some ⟨g,0,none⟩) ts.length lc) cpu two s) 92::aH.mk g fO 77::(hq++(hw++ht)))) ?_ au
  refine aG ?_
  refine cO ?_
  refine aI (aH.mk g fO 77::aH.mk M (fG (.slice wp s.ws.length wc) sv (.slice (some ⟨g,0,none⟩) ts.length lc) cpu two s) 92::⟨Y1,#[.int .i64 X.f.kind,.int .i64 X.f.stage,.int .i64 X.f.level,.bool X.f.walk,.int .i64 X.f.page],43⟩::⟨Y2,#[.slice r1 X.s.es.length c1,.slice r2 tc.ds.length c2],77⟩::((he1++hd1++hr1)++(hq++(hw++ht)))) (cnt1 hle) ?_
  refine run ?_
  refine gB (fG (.slice wp s.ws.length wc) sv (.slice (some ⟨g,0,none⟩) ts.length lc) cpu two { s with pk:={ s.pk with drop:=-1 } }) ?_ (hperm:=p1)
  refine run ?_
  refine iT 10 ?_
  refine bW ?_
  refine run ?_
  refine aI (aH.mk M (fG (.slice wp s.ws.length wc) sv (.slice (some ⟨g,0,none⟩) ts.length lc) cpu two { s with pk:={ s.pk with drop:=-1 } }) 92::(hq++(aH.mk g (putAt fO (cpu * 2) [.slice r1 X.s.es.length c1,.slice r2 tc.ds.length c2]) 77::⟨Y1,#[.int .i64 X.f.kind,.int .i64 X.f.stage,.int .i64 X.f.level,.bool X.f.walk,.int .i64 X.f.page],43⟩::⟨Y2,#[.slice r1 X.s.es.length c1,.slice r2 tc.ds.length c2],77⟩::((he1++hd1++hr1)++(hw++ht))))) (by simp only [putAt];(exact ak)) ?_
  have hrd:=hAo.rd
  rw [← XM,← hX] at hrd
  simp only [List.length_nil,Nat.zero_add] at hrd
  refine pG (X.s.rd.map dN) (aH.mk M (fG (.slice wp s.ws.length wc) sv (.slice (some ⟨g,0,none⟩) ts.length lc) cpu two { s with pk:={ s.pk with drop:=-1 } }) 92::aH.mk g (putAt fO (cpu * 2) [.slice r1 X.s.es.length c1,.slice r2 tc.ds.length c2]) 77::⟨Y1,#[.int .i64 X.f.kind,.int .i64 X.f.stage,.int .i64 X.f.level,.bool X.f.walk,.int .i64 X.f.page],43⟩::⟨Y2,#[.slice r1 X.s.es.length c1,.slice r2 tc.ds.length c2],77⟩::((he1++hd1++hr1)++(hw++ht))) hLq (uz.own g3 ak) (fun sv2 hq2 hO2=>?_) ay2 yJ au
  rw [← List.map_append] at hO2
  obtain ⟨q2,k2,e4⟩:=hO2.opened
  rw [List.length_map] at e4
  subst e4
  refine aI (aH.mk M (fG (.slice wp s.ws.length wc) sv (.slice (some ⟨g,0,none⟩) ts.length lc) cpu two { s with pk:={ s.pk with drop:=-1 } }) 92::(hq2++(aH.mk g (putAt fO (cpu * 2) [.slice r1 X.s.es.length c1,.slice r2 tc.ds.length c2]) 77::⟨Y1,#[.int .i64 X.f.kind,.int .i64 X.f.stage,.int .i64 X.f.level,.bool X.f.walk,.int .i64 X.f.page],43⟩::⟨Y2,#[.slice r1 X.s.es.length c1,.slice r2 tc.ds.length c2],77⟩::((he1++hd1++hr1)++(hw++ht))))) ak ?_
  refine run ?_
  refine gB (fG (.slice wp s.ws.length wc) (.slice q2 (s.seen++X.s.rd).length k2) (.slice (some ⟨g,0,none⟩) ts.length lc) cpu two (s.put cpu X)) ?_
  refine run ?_
  have hy:NC (he1++hd1) ⟨X.s.es,tc.ds,r1,c1,r2,c2⟩:=UW g1 g2 hX8 hD8
  obtain ⟨o1,o2,o3⟩:=hput ⟨X.s.es,tc.ds,r1,c1,r2,c2⟩ _ hy
  have hM:lN wv ws ⟨.slice wp s.ws.length wc,.slice q2 (s.seen++X.s.rd).length k2,(.slice (some ⟨g,0,none⟩) ts.length lc),ts.set cpu ⟨X.s.es,tc.ds,r1,c1,r2,c2⟩,hw,hq2,[⟨g,putAt fO (cpu * 2) [.slice r1 X.s.es.length c1,.slice r2 tc.ds.length c2],77⟩],he1++hd1++ht⟩ (s.put cpu X):=
   ⟨hLw,hLc,hO2,o1,o2,by dsimp only at o3 ⊢;rw [o3];show s.ls.set cpu (X.s.es,tc.ds)=s.ls.set cpu (X.s.es,(s.tl cpu).2);rw [← htl]⟩
  refine aj _ rfl (fun hc=>?_) (fun hc=>?_)
  ·have hk:X.f.kind ≠ 0:=by simpa using hc
   have hp:bU s cpu two addr acc=(gp (s.put cpu X) X.f addr,0):=by
    unfold bU
    rw [← hX,hd,decide_eq_false hk];rfl
   rw [hp,rW]
   refine run ?_
   refine dH [⟨M,fG (.slice wp s.ws.length wc) (.slice q2 (s.seen++X.s.rd).length k2) (.slice (some ⟨g,0,none⟩) ts.length lc) cpu two (s.put cpu X),92⟩] (hq2++(aH.mk g (putAt fO (cpu * 2) [.slice r1 X.s.es.length c1,.slice r2 tc.ds.length c2]) 77::⟨Y1,#[.int .i64 X.f.kind,.int .i64 X.f.stage,.int .i64 X.f.level,.bool X.f.walk,.int .i64 X.f.page],43⟩::⟨Y2,#[.slice r1 X.s.es.length c1,.slice r2 tc.ds.length c2],77⟩::((he1++hd1++hr1)++(hw++ht)))) (fun wc' hG=>Dz _ _ _ cpu two (s.put cpu X) X.f hXf addr M hG.dD) (fun v hn hv=>?_) (.refl _)
   obtain ⟨rfl,hle⟩:=hv
   refine run ?_
   exact fin2 ⟨rfl,_,hM.fault _ _,by unfold ML.pO;(exact cnt1 hle)⟩
  ·have hk:X.f.kind=0:=by simpa using hc
   have hp:bU s cpu two addr acc=((s.put cpu X).see X.n,X.n * 64 + ((addr % 64:Nat):Int)):=by
    unfold bU
    rw [← hX,hd,decide_eq_true hk];rfl
   have ho2:((s.put cpu X).see X.n).over=false:=hov
   rw [hp,ho2]
   refine run ?_
   intro B
   have hn:=jo (Zw hk)
   refine pG ([X.n].map dN) (aH.mk M (fG (.slice wp s.ws.length wc) (.slice q2 (s.seen++X.s.rd).length k2) (.slice (some ⟨g,0,none⟩) ts.length lc) cpu two (s.put cpu X)) 92::⟨B,#[.int .i64 X.n],3⟩::aH.mk g (putAt fO (cpu * 2) [.slice r1 X.s.es.length c1,.slice r2 tc.ds.length c2]) 77::⟨Y1,#[.int .i64 X.f.kind,.int .i64 X.f.stage,.int .i64 X.f.level,.bool X.f.walk,.int .i64 X.f.page],43⟩::⟨Y2,#[.slice r1 X.s.es.length c1,.slice r2 tc.ds.length c2],77⟩::((he1++hd1++hr1)++(hw++ht))) hO2 ⟨_,_,rfl,.inr ⟨_,_,rfl,bP (m:=1) mh rfl⟩⟩ (fun sv3 hq3 hO4=>?_) ax6 yJ au
   rw [← List.map_append] at hO4
   obtain ⟨q3,k3,e5⟩:=hO4.opened
   rw [List.length_map] at e5
   subst e5
   refine aI (aH.mk M (fG (.slice wp s.ws.length wc) (.slice q2 (s.seen++X.s.rd).length k2) (.slice (some ⟨g,0,none⟩) ts.length lc) cpu two (s.put cpu X)) 92::(hq3++(aH.mk g (putAt fO (cpu * 2) [.slice r1 X.s.es.length c1,.slice r2 tc.ds.length c2]) 77::⟨Y1,#[.int .i64 X.f.kind,.int .i64 X.f.stage,.int .i64 X.f.level,.bool X.f.walk,.int .i64 X.f.page],43⟩::⟨Y2,#[.slice r1 X.s.es.length c1,.slice r2 tc.ds.length c2],77⟩::((he1++hd1++hr1)++(hw++ht))))) ak ?_
   refine run ?_
   refine gB (fG (.slice wp s.ws.length wc) (.slice q3 (s.seen++X.s.rd++[X.n]).length k3) (.slice (some ⟨g,0,none⟩) ts.length lc) cpu two (s.put cpu X)) ?_
   refine run ?_
   refine fin2 ⟨rfl,⟨.slice wp s.ws.length wc,.slice q3 (s.seen++X.s.rd++[X.n]).length k3,(.slice (some ⟨g,0,none⟩) ts.length lc),ts.set cpu ⟨X.s.es,tc.ds,r1,c1,r2,c2⟩,hw,hq3,[⟨g,putAt fO (cpu * 2) [.slice r1 X.s.es.length c1,.slice r2 tc.ds.length c2],77⟩],he1++hd1++ht⟩,⟨hM.w,hM.c,hO4,hM.l,hM.t,hM.p⟩,?_⟩
   unfold ML.pO
   show aC (⟨M,fG (.slice wp s.ws.length wc) (.slice q3 (s.seen++X.s.rd++[X.n]).length k3) (.slice (some ⟨g,0,none⟩) ts.length lc) cpu two (s.put cpu X),92⟩::_) _
   (exact ak)
end
end Go.Proofs.YtndklbjnofdgeaaGreat
