/- Texts of one's own, merged: the engine, what the functions do, plain laws. -/
import Derived.Test.YtndklbjnofdgeaaGreatPo4
namespace Go.Proofs.YtndklbjnofdgeaaGreat
open Go.RowKit
set_option linter.unusedVariables false
set_option linter.unusedSimpArgs false
set_option maxRecDepth 20000
section
attribute [local irreducible] Hy St Ops DH gB iH iq fK DS fA jX
def NI (c:kW) (X:Ym) (M:Nat) (d:DsD):zD:=bif !decide (X.f.kind=0) then ⟨X.s,0,X.f⟩ else ⟨⟨bif c.pk.fill then fG X.s.es (yU c X.n M d X.a) else X.s.es,X.s.rd⟩,X.n,jQ⟩
def JH (c:kW) (s:qx):zD:=bif !decide ((gW c s).f.kind=0) then ⟨(gW c s).s,0,(gW c s).f⟩ else rX c (4 - o7 c s) (o7 c s) (gW c s).n (gW c s).s
theorem NJ {c:kW} (hk:kX c) {ds:List dB} {s:qx} (hE:gU c.ws.length s.es ds):EY c.ws.length ds 4 s (gW c s).s∧((gW c s).f.kind=0→o7 c s<4∧dS c.ws.length (gW c s).n=true):=by
 unfold gW o7
 cases hc:(c.pk.use && decide (0≤fD c s.es)) with
 | true=>
  rw [Bool.and_eq_true] at hc
  obtain ⟨h1,h2,h3,h4⟩:=yf hE (of_decide_eq_true hc.2)
  simp only [cond_true]
  exact ⟨⟨hE,by simp⟩,fun _=>⟨by omega,h4⟩⟩
 | false=>
  simp only [cond_false]
  have ho:=bQ.iF hk.one
  obtain ⟨h1,h2⟩:=su hk hE (mid:=c.one.frame.toNat) (level:=0) au' au'
  exact ⟨h1,fun h0=>⟨by omega,h2 h0⟩⟩
theorem NK (c:kW) (s:qx) (l:Nat) (d:DsD):vO c s l d=NI c (bif !decide ((gQ d.r d.w d.x d.af c.acc 1 l c.page).kind=0) then ⟨s,0,EN,gQ d.r d.w d.x d.af c.acc 1 l c.page⟩ else dV c s (iG c l d) c.acc) (iG c l d) d:=by
 unfold vO NI
 cases hc:(!decide ((gQ d.r d.w d.x d.af c.acc 1 l c.page).kind=0)) with
 | true=>simp only [cond_true];rw [hc];rfl
 | false=>rfl
theorem Rh {c:kW} (hk:kX c) {ds:List dB} {s:qx} (hE:gU c.ws.length s.es ds) {l:Nat} {d:DsD} (hM:iG c l d≤4095) {X:Ym} (hX:X=(bif !decide ((gQ d.r d.w d.x d.af c.acc 1 l c.page).kind=0) then ⟨s,0,EN,gQ d.r d.w d.x d.af c.acc 1 l c.page⟩ else dV c s (iG c l d) c.acc)):gU c.ws.length X.s.es ds∧X.s.rd.length≤s.rd.length + 4∧(X.f.kind=0→dS c.ws.length X.n=true∧X.f=jQ):=by
 cases hc:(!decide ((gQ d.r d.w d.x d.af c.acc 1 l c.page).kind=0)) with
 | true=>
  rw [hc] at hX
  subst hX
  exact ⟨hE,by simp,fun h0=>by simp at hc;exact absurd h0 hc⟩
 | false=>
  rw [hc] at hX
  subst hX
  obtain ⟨h1,h2⟩:=pO hk hE hM c.acc
  exact ⟨h1.es,h1.rd,fun h0=>⟨(h2 h0).1,(h2 h0).2.1⟩⟩
structure XQ where
 fr:Int
 lv:Int
 f:nD
 s:qx
 ev:Value
 dv:Value
 rv:Value
 he:Hp
 hd:Hp
 hr:Hp
structure ag9 (c:kW) (ds:List dB) (R:zD) (z:XQ):Prop where
 es:gU c.ws.length z.s.es ds
 rd:z.s.rd.length<40000
 on:z.f.kind=0→∃ L:Nat,z.lv=L∧L<4∧dS c.ws.length z.fr=true∧z.s.rd.length + 6 * (4 - L)≤2000∧rX c (4 - L) L z.fr z.s=R
 off:z.f.kind ≠ 0→(⟨z.s,0,z.f⟩:zD)=R
 h1:Own 114 14 z.ev z.he (z.s.es.map bI)
 h2:Own 121 4 z.dv z.hd (ds.map dJ)
 h3:Own 3 1 z.rv z.hr (z.s.rd.map dH)
theorem NL (c:kW) (hk:kX c) (cap:Nat) (hcc:c.ws.length≤cap) {p:Option Addr} {w:World} {Wb:Nat} {ev dv rv:Value} {he hd hr:Hp} (s:qx) (ds:List dB) (hE:gU c.ws.length s.es ds)  (ha:PtD.bY c.acc 0 2=true) (hrl:s.rd.length<1000)
  (hm:dP w (Wb::(he++hd++hr).map (·.b)) (.slice p c.ws.length cap) 1 (c.ws.map uV)) (h1:Own 114 14 ev he (s.es.map bI)) (h2:Own 121 4 dv hd (ds.map dJ)) (h3:Own 3 1 rv hr (s.rd.map dH)) (hN:eP (⟨Wb,vJ c (.slice p c.ws.length cap) ev dv rv,194⟩::(he++hd++hr)) w):
  Fn Tryz.prog 167 [.pointer (some ⟨Wb,0,none⟩)].toArray w (Wb::(he++hd++hr).map (·.b)) (fun u hn=>∃ (H:kV) (X:Ym) (M:Nat) (d:DsD) (ev' rZ rv':Value) (he' hd' hr':Hp),NI c X M d=JH c s∧gU c.ws.length X.s.es ds∧X.s.rd.length<50000∧u=.tuple #[Sj H,xZ X.f]∧H.frame=X.n∧(X.f.kind=0→M≤4095∧dS c.ws.length X.n=true∧X.f=jQ∧H.mid=(M:Int)∧H.soft=0∧(⟨H.r,H.w,H.x,H.af,H.ng⟩:AtD)=lZ ⟨d.r,d.w,d.x,d.af,d.ng⟩ X.a)∧Own 114 14 ev' he' (X.s.es.map bI)∧Own 121 4 rZ hd' (ds.map dJ)∧Own 3 1 rv' hr' (X.s.rd.map dH)∧aF (⟨Wb,vJ c (.slice p c.ws.length cap) ev' rZ rv',194⟩::(he'++hd'++hr')) hn):=by
 simp only [vJ] at hN ⊢
 have BV:=bD hk.mem
 have hem:=hE.may
 refine eF _ hN Tryz.func167 ?_
 refine run ?_
 intro R1 R2
 refine dK (⟨Wb,#[.slice p c.ws.length cap,ev,dv,.int .i64 c.pk.cpu,.bool c.pk.fill,.bool c.pk.aO,.bool c.pk.walk,.int .i64 c.pk.drop,.bool c.pk.use,.bool c.one.on,.int .i64 c.one.frame,.int .i64 c.one.tag,.bool c.two.on,.int .i64 c.two.frame,.int .i64 c.two.tag,.int .i64 (c.page:Int),.int .i64 c.acc,rv],194⟩::(he++hd++hr)) (⟨R2,#[.int .i64 0,.int .i64 0,.int .i64 0,.bool false,.int .i64 0],43⟩::⟨R1,#[.int .i64 0,.int .i64 0,.bool false,.bool false,.bool false,.bool false,.bool false,.int .i64 0,.int .i64 0],234⟩::[]) (fun wc hG=>NH c hk cap hcc s ds hE au' (hm.into hG) h1 h2 h3 hG.dG) ?_ au
 rintro u1 hn1 ⟨lv,ev1,o6,pR,he1,hd1,hr1,rfl,hlv,h11,h21,h31,hle1⟩
 simp only [vJ] at hle1
 refine aJ (⟨R2,#[.int .i64 0,.int .i64 0,.int .i64 0,.bool false,.int .i64 0],43⟩::⟨R1,#[.int .i64 0,.int .i64 0,.bool false,.bool false,.bool false,.bool false,.bool false,.int .i64 0,.int .i64 0],234⟩::⟨Wb,#[.slice p c.ws.length cap,ev1,o6,.int .i64 c.pk.cpu,.bool c.pk.fill,.bool c.pk.aO,.bool c.pk.walk,.int .i64 c.pk.drop,.bool c.pk.use,.bool c.one.on,.int .i64 c.one.frame,.int .i64 c.one.tag,.bool c.two.on,.int .i64 c.two.frame,.int .i64 c.two.tag,.int .i64 (c.page:Int),.int .i64 c.acc,pR],194⟩::(he1++hd1++hr1)) (cnt1 hle1) ?_
 obtain ⟨hFs,hFl⟩:=NJ hk hE
 have hFr:=hFs.rd
 refine run ?_
 intro F
 have hm':=hm
 refine cO (σ:=XQ) (fun z=>[(4,.int .i64 z.fr),(5,.int .i64 z.lv)]) (fun z=>⟨F,#[.int .i64 z.f.kind,.int .i64 z.f.stage,.int .i64 z.f.level,.bool z.f.walk,.int .i64 z.f.page],43⟩::⟨R2,#[.int .i64 0,.int .i64 0,.int .i64 0,.bool false,.int .i64 0],43⟩::⟨R1,#[.int .i64 0,.int .i64 0,.bool false,.bool false,.bool false,.bool false,.bool false,.int .i64 0,.int .i64 0],234⟩::⟨Wb,#[.slice p c.ws.length cap,z.ev,z.dv,.int .i64 c.pk.cpu,.bool c.pk.fill,.bool c.pk.aO,.bool c.pk.walk,.int .i64 c.pk.drop,.bool c.pk.use,.bool c.one.on,.int .i64 c.one.frame,.int .i64 c.one.tag,.bool c.two.on,.int .i64 c.two.frame,.int .i64 c.two.tag,.int .i64 (c.page:Int),.int .i64 c.acc,z.rv],194⟩::(z.he++z.hd++z.hr)) (ag9 c ds (JH c s)) (fun z=>bif decide (z.f.kind=0) then 6 - z.lv.toNat else 0) ⟨(gW c s).n,lv,(gW c s).f,(gW c s).s,ev1,o6,pR,he1,hd1,hr1⟩ ⟨hFs.es,by dsimp only;omega,fun h0=>?_,fun h0=>?_,h11,h21,h31⟩ ?_
 ·obtain ⟨g1,g2⟩:=hFl h0
  exact ⟨o7 c s,hlv h0,g1,g2,by dsimp only;omega,by dsimp only;rw [JH,show decide ((gW c s).f.kind=0)=true from decide_eq_true h0];rfl⟩
 ·dsimp only at h0 ⊢
  rw [JH,show decide ((gW c s).f.kind=0)=false from decide_eq_false h0];rfl
 rintro ⟨fr,lv,f,S,ev,dv,rv,he,hd,hr⟩ m hm ⟨yx,hrd,hon,hoff,h1,h2,h3⟩
 dsimp only at hm yx hrd hon hoff h1 h2 h3 ⊢
 refine run ?_
 refine aj _ rfl (fun hc=>?_) (fun hc=>?_)
 ·have hf0:f.kind=0:=by simpa using hc
  obtain ⟨L,rfl,hl,VZ,XH,hwk⟩:=hon hf0
  clear hon hoff
  generalize JH c s=R at hwk ⊢
  refine run ?_
  intro T
  refine xI (c:=dH fr) (⟨T,#[.int .i64 fr],3⟩::⟨F,#[.int .i64 f.kind,.int .i64 f.stage,.int .i64 f.level,.bool f.walk,.int .i64 f.page],43⟩::⟨R2,#[.int .i64 0,.int .i64 0,.int .i64 0,.bool false,.int .i64 0],43⟩::⟨R1,#[.int .i64 0,.int .i64 0,.bool false,.bool false,.bool false,.bool false,.bool false,.int .i64 0,.int .i64 0],234⟩::⟨Wb,#[.slice p c.ws.length cap,ev,dv,.int .i64 c.pk.cpu,.bool c.pk.fill,.bool c.pk.aO,.bool c.pk.walk,.int .i64 c.pk.drop,.bool c.pk.use,.bool c.one.on,.int .i64 c.one.frame,.int .i64 c.one.tag,.bool c.two.on,.int .i64 c.two.frame,.int .i64 c.two.tag,.int .i64 (c.page:Int),.int .i64 c.acc,rv],194⟩::(he++hd)) h3 (fun v' ha' hA'=>?_) aw0 (bT (m:=1) mh rfl) (hperm:=by (exact au))
  rw [show S.rd.map dH++[dH fr]=(S.rd++[fr]).map dH by simp] at hA'
  obtain ⟨q4,c4,e4⟩:=hA'.opened
  rw [List.length_map] at e4
  subst e4
  refine aJ (⟨F,#[.int .i64 f.kind,.int .i64 f.stage,.int .i64 f.level,.bool f.walk,.int .i64 f.page],43⟩::⟨R2,#[.int .i64 0,.int .i64 0,.int .i64 0,.bool false,.int .i64 0],43⟩::⟨R1,#[.int .i64 0,.int .i64 0,.bool false,.bool false,.bool false,.bool false,.bool false,.int .i64 0,.int .i64 0],234⟩::⟨Wb,#[.slice p c.ws.length cap,ev,dv,.int .i64 c.pk.cpu,.bool c.pk.fill,.bool c.pk.aO,.bool c.pk.walk,.int .i64 c.pk.drop,.bool c.pk.use,.bool c.one.on,.int .i64 c.one.frame,.int .i64 c.one.tag,.bool c.two.on,.int .i64 c.two.frame,.int .i64 c.two.tag,.int .i64 (c.page:Int),.int .i64 c.acc,rv],194⟩::(he++hd++ha')) ak ?_
  refine run ?_
  have hT:=fun {wc:World} (h:aB wc (.slice p c.ws.length cap) 1 (c.ws.map uV))=>Hu c.ws hk.uZ cap hk.mem hcc h 1 (.inl rfl) L hl fr VZ c.page hk.page
  have hmay:=rQ c.ws 1 (sK fr L c.page) L
  rw [show 4 - L=(3 - L) + 1 by omega,rX] at hwk
  generalize Cc c.ws 1 (sK fr L c.page) L=d at hwk hmay hT
  obtain ⟨hkk,hk0,hk1,hk2⟩:=jT hmay
  refine oV 16 15 [0,1,2,3,4,5,6,7,8,9,10,11,12,13] [14] [15] (⟨F,#[.int .i64 f.kind,.int .i64 f.stage,.int .i64 f.level,.bool f.walk,.int .i64 f.page],43⟩::⟨R2,#[.int .i64 0,.int .i64 0,.int .i64 0,.bool false,.int .i64 0],43⟩::⟨R1,#[.int .i64 0,.int .i64 0,.bool false,.bool false,.bool false,.bool false,.bool false,.int .i64 0,.int .i64 0],234⟩::⟨Wb,#[.slice p c.ws.length cap,ev,dv,.int .i64 c.pk.cpu,.bool c.pk.fill,.bool c.pk.aO,.bool c.pk.walk,.int .i64 c.pk.drop,.bool c.pk.use,.bool c.one.on,.int .i64 c.one.frame,.int .i64 c.one.tag,.bool c.two.on,.int .i64 c.two.frame,.int .i64 c.two.tag,.int .i64 (c.page:Int),.int .i64 c.acc,.slice q4 (S.rd++[fr]).length c4],194⟩::(he++hd++ha')) ?_
  refine dh ?_
  refine kU (fun wc hx hG=>hT (hm'.good hG)) ?_
  refine dh ?_
  refine dR ?_
  refine gZ ?_
  rintro _ _ ⟨D,rfl,rfl⟩
  simp only [DN,List.cons_append,List.nil_append,List.append_nil]
  refine aV (b:=D) (tb:=258) (cs:=#[.int .i64 0,.int .i64 0,.bool false,.bool false,.bool false,.bool false,.bool false,.int .i64 0,.int .i64 0]) (cs':=#[.int .i64 d.kind,.int .i64 d.frame,.bool d.r,.bool d.w,.bool d.x,.bool d.af,.bool d.ng,.int .i64 d.soft,.int .i64 d.note]) (hp':=⟨F,#[.int .i64 f.kind,.int .i64 f.stage,.int .i64 f.level,.bool f.walk,.int .i64 f.page],43⟩::⟨R2,#[.int .i64 0,.int .i64 0,.int .i64 0,.bool false,.int .i64 0],43⟩::⟨R1,#[.int .i64 0,.int .i64 0,.bool false,.bool false,.bool false,.bool false,.bool false,.int .i64 0,.int .i64 0],234⟩::⟨Wb,#[.slice p c.ws.length cap,ev,dv,.int .i64 c.pk.cpu,.bool c.pk.fill,.bool c.pk.aO,.bool c.pk.walk,.int .i64 c.pk.drop,.bool c.pk.use,.bool c.one.on,.int .i64 c.one.frame,.int .i64 c.one.tag,.bool c.two.on,.int .i64 c.two.frame,.int .i64 c.two.tag,.int .i64 (c.page:Int),.int .i64 c.acc,.slice q4 (S.rd++[fr]).length c4],194⟩::(he++hd++ha')) ?_ au
  refine aH ?_
  refine di ?_
  refine run ?_
  refine aj _ rfl (fun hc2=>?_) (fun hc2=>?_)
  ·have Ny:d.kind=2:=by simpa using hc2
   obtain ⟨hlf,Py⟩:=qL hmay Ny hl c.page
   simp only [Ny,show decide ((2:Int)=1)=false from rfl,show decide ((2:Int)=0)=false from rfl,cond_false] at hwk
   refine run ?_
   refine dK (⟨Wb,#[.slice p c.ws.length cap,ev,dv,.int .i64 c.pk.cpu,.bool c.pk.fill,.bool c.pk.aO,.bool c.pk.walk,.int .i64 c.pk.drop,.bool c.pk.use,.bool c.one.on,.int .i64 c.one.frame,.int .i64 c.one.tag,.bool c.two.on,.int .i64 c.two.frame,.int .i64 c.two.tag,.int .i64 (c.page:Int),.int .i64 c.acc,.slice q4 (S.rd++[fr]).length c4],194⟩::(he++hd++ha')) (⟨D,#[.int .i64 d.kind,.int .i64 d.frame,.bool d.r,.bool d.w,.bool d.x,.bool d.af,.bool d.ng,.int .i64 d.soft,.int .i64 d.note],258⟩::⟨F,#[.int .i64 f.kind,.int .i64 f.stage,.int .i64 f.level,.bool f.walk,.int .i64 f.page],43⟩::⟨R2,#[.int .i64 0,.int .i64 0,.int .i64 0,.bool false,.int .i64 0],43⟩::⟨R1,#[.int .i64 0,.int .i64 0,.bool false,.bool false,.bool false,.bool false,.bool false,.int .i64 0,.int .i64 0],234⟩::[]) (fun wc hG=>Q9 c hk cap hcc ⟨S.es,S.rd++[fr]⟩ ds yx ha L hl d hmay Ny ax5 (hm'.into hG) h1 h2 hA' hG.dG) ?_ au
   rintro u1 hn1 ⟨H,X,wM,yY,E8,he2,hd2,hr2,hX,rfl,hH1,hH2,h12,h22,h32,hle2⟩
   simp only [vJ] at hle2
   rw [NK,← hX] at hwk
   obtain ⟨hX1,hX2,hX3⟩:=Rh hk (s:=⟨S.es,S.rd++[fr]⟩) yx hlf hX
   simp only [List.length_append,List.length_singleton] at hX2
   refine aJ (⟨R2,#[.int .i64 0,.int .i64 0,.int .i64 0,.bool false,.int .i64 0],43⟩::⟨R1,#[.int .i64 0,.int .i64 0,.bool false,.bool false,.bool false,.bool false,.bool false,.int .i64 0,.int .i64 0],234⟩::⟨Wb,#[.slice p c.ws.length cap,wM,yY,.int .i64 c.pk.cpu,.bool c.pk.fill,.bool c.pk.aO,.bool c.pk.walk,.int .i64 c.pk.drop,.bool c.pk.use,.bool c.one.on,.int .i64 c.one.frame,.int .i64 c.one.tag,.bool c.two.on,.int .i64 c.two.frame,.int .i64 c.two.tag,.int .i64 (c.page:Int),.int .i64 c.acc,E8],194⟩::(he2++hd2++hr2)) (cnt1 hle2) ?_
   refine run ?_
   exact nO (cs:=#[.int .i64 H.frame,.int .i64 H.mid,.bool H.r,.bool H.w,.bool H.x,.bool H.af,.bool H.ng,.int .i64 H.soft,.int .i64 H.level]) (cs2:=#[.int .i64 X.f.kind,.int .i64 X.f.stage,.int .i64 X.f.level,.bool X.f.walk,.int .i64 X.f.page]) ⟨H,X,iG c L d,d,wM,yY,E8,he2,hd2,hr2,hwk,hX1,by omega,rfl,hH1,fun h0=>⟨hlf,(hX3 h0).1,(hX3 h0).2,hH2 h0⟩,h12,h22,h32,by (exact ak)⟩
  refine run ?_
  refine aj _ rfl (fun hc3=>?_) (fun hc3=>?_)
  ·have ag':d.kind=0:=by simpa using hc3
   simp only [ag',show decide ((0:Int)=1)=false from rfl,show decide ((0:Int)=0)=true from rfl,cond_false,cond_true] at hwk
   refine run ?_
   refine dN 9 7 [0,1,2,3,4,5,6] [7,8] (⟨D,#[.int .i64 d.kind,.int .i64 d.frame,.bool d.r,.bool d.w,.bool d.x,.bool d.af,.bool d.ng,.int .i64 d.soft,.int .i64 d.note],258⟩::⟨F,#[.int .i64 f.kind,.int .i64 f.stage,.int .i64 f.level,.bool f.walk,.int .i64 f.page],43⟩::⟨Wb,#[.slice p c.ws.length cap,ev,dv,.int .i64 c.pk.cpu,.bool c.pk.fill,.bool c.pk.aO,.bool c.pk.walk,.int .i64 c.pk.drop,.bool c.pk.use,.bool c.one.on,.int .i64 c.one.frame,.int .i64 c.one.tag,.bool c.two.on,.int .i64 c.two.frame,.int .i64 c.two.tag,.int .i64 (c.page:Int),.int .i64 c.acc,.slice q4 (S.rd++[fr]).length c4],194⟩::(he++hd++ha')) ?_
   refine dh ?_
   refine aV (b:=R1) (tb:=234) (cs:=#[.int .i64 0,.int .i64 0,.bool false,.bool false,.bool false,.bool false,.bool false,.int .i64 0,.int .i64 0]) (cs':=#[.int .i64 0,.int .i64 0,.bool false,.bool false,.bool false,.bool false,.bool false,.int .i64 0,.int .i64 0]) (hp':=⟨D,#[.int .i64 d.kind,.int .i64 d.frame,.bool d.r,.bool d.w,.bool d.x,.bool d.af,.bool d.ng,.int .i64 d.soft,.int .i64 d.note],258⟩::⟨F,#[.int .i64 f.kind,.int .i64 f.stage,.int .i64 f.level,.bool f.walk,.int .i64 f.page],43⟩::⟨R2,#[.int .i64 0,.int .i64 0,.int .i64 0,.bool false,.int .i64 0],43⟩::⟨Wb,#[.slice p c.ws.length cap,ev,dv,.int .i64 c.pk.cpu,.bool c.pk.fill,.bool c.pk.aO,.bool c.pk.walk,.int .i64 c.pk.drop,.bool c.pk.use,.bool c.one.on,.int .i64 c.one.frame,.int .i64 c.one.tag,.bool c.two.on,.int .i64 c.two.frame,.int .i64 c.two.tag,.int .i64 (c.page:Int),.int .i64 c.acc,.slice q4 (S.rd++[fr]).length c4],194⟩::(he++hd++ha')) ?_ au
   refine aV (b:=R2) (tb:=43) (cs:=#[.int .i64 0,.int .i64 0,.int .i64 0,.bool false,.int .i64 0]) (cs':=#[.int .i64 2,.int .i64 1,.int .i64 (L:Int),.bool false,.int .i64 (c.page:Int)]) (hp':=⟨R1,#[.int .i64 0,.int .i64 0,.bool false,.bool false,.bool false,.bool false,.bool false,.int .i64 0,.int .i64 0],234⟩::⟨D,#[.int .i64 d.kind,.int .i64 d.frame,.bool d.r,.bool d.w,.bool d.x,.bool d.af,.bool d.ng,.int .i64 d.soft,.int .i64 d.note],258⟩::⟨F,#[.int .i64 f.kind,.int .i64 f.stage,.int .i64 f.level,.bool f.walk,.int .i64 f.page],43⟩::⟨Wb,#[.slice p c.ws.length cap,ev,dv,.int .i64 c.pk.cpu,.bool c.pk.fill,.bool c.pk.aO,.bool c.pk.walk,.int .i64 c.pk.drop,.bool c.pk.use,.bool c.one.on,.int .i64 c.one.frame,.int .i64 c.one.tag,.bool c.two.on,.int .i64 c.two.frame,.int .i64 c.two.tag,.int .i64 (c.page:Int),.int .i64 c.acc,.slice q4 (S.rd++[fr]).length c4],194⟩::(he++hd++ha')) ?_ au
   refine aH ?_
   refine di ?_
   refine run ?_
   exact nO (cs:=#[.int .i64 0,.int .i64 0,.bool false,.bool false,.bool false,.bool false,.bool false,.int .i64 0,.int .i64 0]) (cs2:=#[.int .i64 2,.int .i64 1,.int .i64 (L:Int),.bool false,.int .i64 (c.page:Int)]) ⟨⟨0,0,false,false,false,false,false,0,0⟩,⟨⟨S.es,S.rd++[fr]⟩,0,EN,⟨2,1,L,false,c.page⟩⟩,0,default,_,_,_,he,hd,ha',hwk,yx,by dsimp only;simp only [List.length_append,List.length_singleton];omega,rfl,rfl,fun h0=>by simp at h0,h1,h2,hA',by (exact ak)⟩
  have UG:d.kind=1:=by simp at hc2 hc3;omega
  obtain ⟨k1,k2,k3,k4⟩:=hk1 UG
  simp only [UG,show decide ((1:Int)=1)=true from rfl,cond_true] at hwk
  have hcl:=fun (wc:World) (hG:eP (⟨Wb,#[.slice p c.ws.length cap,ev,dv,.int .i64 c.pk.cpu,.bool c.pk.fill,.bool c.pk.aO,.bool c.pk.walk,.int .i64 c.pk.drop,.bool c.pk.use,.bool c.one.on,.int .i64 c.one.frame,.int .i64 c.one.tag,.bool c.two.on,.int .i64 c.two.frame,.int .i64 c.two.tag,.int .i64 (c.page:Int),.int .i64 c.acc,.slice q4 (S.rd++[fr]).length c4],194⟩::(he++hd++ha')) wc) (hm:dP wc (Wb::(he++hd++ha').map (·.b)) (.slice p c.ws.length cap) 1 (c.ws.map uV))=>Dz c hk cap hcc ⟨S.es,S.rd++[fr]⟩ ds d.frame.toNat (L + 1) au' au' yx ax5 hm h1 h2 hA' hG
  rw [show ((d.frame.toNat:Nat):Int)=d.frame by omega] at hcl
  refine run ?_
  refine dK (⟨Wb,#[.slice p c.ws.length cap,ev,dv,.int .i64 c.pk.cpu,.bool c.pk.fill,.bool c.pk.aO,.bool c.pk.walk,.int .i64 c.pk.drop,.bool c.pk.use,.bool c.one.on,.int .i64 c.one.frame,.int .i64 c.one.tag,.bool c.two.on,.int .i64 c.two.frame,.int .i64 c.two.tag,.int .i64 (c.page:Int),.int .i64 c.acc,.slice q4 (S.rd++[fr]).length c4],194⟩::(he++hd++ha')) (⟨D,#[.int .i64 d.kind,.int .i64 d.frame,.bool d.r,.bool d.w,.bool d.x,.bool d.af,.bool d.ng,.int .i64 d.soft,.int .i64 d.note],258⟩::⟨F,#[.int .i64 f.kind,.int .i64 f.stage,.int .i64 f.level,.bool f.walk,.int .i64 f.page],43⟩::⟨R2,#[.int .i64 0,.int .i64 0,.int .i64 0,.bool false,.int .i64 0],43⟩::⟨R1,#[.int .i64 0,.int .i64 0,.bool false,.bool false,.bool false,.bool false,.bool false,.int .i64 0,.int .i64 0],234⟩::[]) (fun wc hG=>hcl wc hG.dG (hm'.into hG)) ?_ au
  rintro u1 hn1 ⟨lv2,wM,yY,E8,he2,hd2,hr2,rfl,hlv2,h12,h22,h32,hle2⟩
  simp only [vJ] at hle2
  obtain ⟨hYs,hYf⟩:=su hk (s:=⟨S.es,S.rd++[fr]⟩) yx (mid:=d.frame.toNat) (level:=L + 1) au' au'
  have hYr:=hYs.rd
  simp only [List.length_append,List.length_singleton] at hYr
  generalize jH c ⟨S.es,S.rd++[fr]⟩ d.frame.toNat (L + 1)=Y at hlv2 h12 h32 hYs hYf hYr hwk ⊢
  refine aJ (⟨F,#[.int .i64 f.kind,.int .i64 f.stage,.int .i64 f.level,.bool f.walk,.int .i64 f.page],43⟩::⟨R2,#[.int .i64 0,.int .i64 0,.int .i64 0,.bool false,.int .i64 0],43⟩::⟨R1,#[.int .i64 0,.int .i64 0,.bool false,.bool false,.bool false,.bool false,.bool false,.int .i64 0,.int .i64 0],234⟩::⟨Wb,#[.slice p c.ws.length cap,wM,yY,.int .i64 c.pk.cpu,.bool c.pk.fill,.bool c.pk.aO,.bool c.pk.walk,.int .i64 c.pk.drop,.bool c.pk.use,.bool c.one.on,.int .i64 c.one.frame,.int .i64 c.one.tag,.bool c.two.on,.int .i64 c.two.frame,.int .i64 c.two.tag,.int .i64 (c.page:Int),.int .i64 c.acc,E8],194⟩::(he2++hd2++hr2)) (cnt1 hle2) ?_
  refine run ?_
  refine bH (⟨Y.n,lv2,Y.f,Y.s,wM,yY,E8,he2,hd2,hr2⟩:XQ) ⟨hYs.es,by dsimp only;omega,fun h0=>?_,fun h0=>?_,h12,h22,h32⟩ (hm:=?_) (h2:=by (exact ak))
  ·dsimp only at h0 ⊢
   rw [show decide (Y.f.kind=0)=true from decide_eq_true h0] at hwk
   exact ⟨L + 1,hlv2 h0,by omega,hYf h0,by omega,by rw [show 4 - (L + 1)=3 - L by omega];exact hwk⟩
  ·dsimp only at h0 ⊢
   rw [show decide (Y.f.kind=0)=false from decide_eq_false h0] at hwk
   exact hwk
  ·dsimp only
   rw [show decide (f.kind=0)=true from decide_eq_true hf0,cond_true] at hm
   cases h0:decide (Y.f.kind=0) with
   | true=>rw [cond_true,hlv2 (of_decide_eq_true h0)];omega
   | false=>rw [cond_false];omega
 ·have hf0:f.kind ≠ 0:=by simpa using hc
  have hwk:=hoff hf0
  refine run ?_
  refine dN 4 2 [0,1] [2,3] (⟨F,#[.int .i64 f.kind,.int .i64 f.stage,.int .i64 f.level,.bool f.walk,.int .i64 f.page],43⟩::⟨Wb,#[.slice p c.ws.length cap,ev,dv,.int .i64 c.pk.cpu,.bool c.pk.fill,.bool c.pk.aO,.bool c.pk.walk,.int .i64 c.pk.drop,.bool c.pk.use,.bool c.one.on,.int .i64 c.one.frame,.int .i64 c.one.tag,.bool c.two.on,.int .i64 c.two.frame,.int .i64 c.two.tag,.int .i64 (c.page:Int),.int .i64 c.acc,rv],194⟩::(he++hd++hr)) ?_
  refine dh ?_
  refine aV (b:=R1) (tb:=234) (cs:=#[.int .i64 0,.int .i64 0,.bool false,.bool false,.bool false,.bool false,.bool false,.int .i64 0,.int .i64 0]) (cs':=#[.int .i64 0,.int .i64 0,.bool false,.bool false,.bool false,.bool false,.bool false,.int .i64 0,.int .i64 0]) (hp':=⟨F,#[.int .i64 f.kind,.int .i64 f.stage,.int .i64 f.level,.bool f.walk,.int .i64 f.page],43⟩::⟨R2,#[.int .i64 0,.int .i64 0,.int .i64 0,.bool false,.int .i64 0],43⟩::⟨Wb,#[.slice p c.ws.length cap,ev,dv,.int .i64 c.pk.cpu,.bool c.pk.fill,.bool c.pk.aO,.bool c.pk.walk,.int .i64 c.pk.drop,.bool c.pk.use,.bool c.one.on,.int .i64 c.one.frame,.int .i64 c.one.tag,.bool c.two.on,.int .i64 c.two.frame,.int .i64 c.two.tag,.int .i64 (c.page:Int),.int .i64 c.acc,rv],194⟩::(he++hd++hr)) ?_ au
  refine aV (b:=R2) (tb:=43) (cs:=#[.int .i64 0,.int .i64 0,.int .i64 0,.bool false,.int .i64 0]) (cs':=#[.int .i64 f.kind,.int .i64 f.stage,.int .i64 f.level,.bool f.walk,.int .i64 f.page]) (hp':=⟨R1,#[.int .i64 0,.int .i64 0,.bool false,.bool false,.bool false,.bool false,.bool false,.int .i64 0,.int .i64 0],234⟩::⟨F,#[.int .i64 f.kind,.int .i64 f.stage,.int .i64 f.level,.bool f.walk,.int .i64 f.page],43⟩::⟨Wb,#[.slice p c.ws.length cap,ev,dv,.int .i64 c.pk.cpu,.bool c.pk.fill,.bool c.pk.aO,.bool c.pk.walk,.int .i64 c.pk.drop,.bool c.pk.use,.bool c.one.on,.int .i64 c.one.frame,.int .i64 c.one.tag,.bool c.two.on,.int .i64 c.two.frame,.int .i64 c.two.tag,.int .i64 (c.page:Int),.int .i64 c.acc,rv],194⟩::(he++hd++hr)) ?_ au
  refine aH ?_
  refine di ?_
  refine run ?_
  exact nO (cs:=#[.int .i64 0,.int .i64 0,.bool false,.bool false,.bool false,.bool false,.bool false,.int .i64 0,.int .i64 0]) (cs2:=#[.int .i64 f.kind,.int .i64 f.stage,.int .i64 f.level,.bool f.walk,.int .i64 f.page]) ⟨⟨0,0,false,false,false,false,false,0,0⟩,⟨S,0,EN,f⟩,0,default,_,_,_,he,hd,hr,by rw [NI,show decide (f.kind=0)=false from decide_eq_false hf0];exact hwk,yx,by dsimp only;omega,rfl,rfl,fun h0=>absurd h0 hf0,h1,h2,h3,by (exact ak)⟩
theorem NM (c:kW) (es:List bg):lX c es=bif !c.one.on then ⟨(dV c ⟨es,[]⟩ c.page c.acc).s,(dV c ⟨es,[]⟩ c.page c.acc).n,(dV c ⟨es,[]⟩ c.page c.acc).f⟩ else bif c.pk.use && decide (0≤iD c es) then ⟨⟨es,[]⟩,(es.getD (iD c es).toNat default).frame,jQ⟩ else JH c ⟨es,[]⟩:=by
 unfold lX vS JH gW o7
 cases hc:(c.pk.use && decide (0≤fD c es)) with
 | true=>simp only [hc,cond_true,jQ,decide_true,Bool.not_true,cond_false]
 | false=>
  simp only [hc,cond_false]
  rw [vP]
theorem NP (c:kW) (hk:kX c) (cap:Nat) (hcc:c.ws.length≤cap) {p:Option Addr} {w:World} {Wb:Nat} {ev dv rv:Value} {he hd hr:Hp} (es:List bg) (ds:List dB) (hE:gU c.ws.length es ds) (ha:PtD.bY c.acc 0 2=true)
  (hm:dP w (Wb::(he++hd++hr).map (·.b)) (.slice p c.ws.length cap) 1 (c.ws.map uV)) (h1:Own 114 14 ev he ((⟨es,[]⟩:qx).es.map bI)) (h2:Own 121 4 dv hd (ds.map dJ)) (h3:Own 3 1 rv hr ((⟨es,[]⟩:qx).rd.map dH)) (hN:eP (⟨Wb,vJ c (.slice p c.ws.length cap) ev dv rv,194⟩::(he++hd++hr)) w):
  Fn Tryz.prog 138 [.pointer (some ⟨Wb,0,none⟩)].toArray w (Wb::(he++hd++hr).map (·.b)) (fun u hn=>∃ (ev' rZ rv':Value) (he' hd' hr':Hp),u=.tuple #[.int .i64 (lX c es).n,xZ (lX c es).f]∧Own 114 14 ev' he' ((lX c es).s.es.map bI)∧Own 121 4 rZ hd' (ds.map dJ)∧Own 3 1 rv' hr' ((lX c es).s.rd.map dH)∧aF (⟨Wb,vJ c (.slice p c.ws.length cap) ev' rZ rv',194⟩::(he'++hd'++hr')) hn):=by
 have hcap:=h1.cap
 obtain ⟨qe,ce,ee⟩:=h1.opened
 obtain ⟨qd,cd,ed⟩:=h2.opened
 obtain ⟨qr,cr,er⟩:=h3.opened
 rw [List.length_map] at ee ed er
 subst ee ed er
 simp only [vJ] at hN ⊢
 have BV:=bD hk.mem
 have hem:=hE.may
 have ho:=bQ.iF hk.one
 have htw:=bQ.iF hk.two
 have hm':=hm
 rw [NM]
 refine eF _ hN Tryz.func138 ?_
 refine run ?_
 intro R
 refine run ?_
 refine aj _ rfl (fun hc=>?_) (fun hc=>?_)
 ·rw [hc,cond_true]
  refine run ?_
  have hcall:=fun (wc:World) (hG:eP (⟨Wb,#[.slice p c.ws.length cap,.slice qe es.length ce,.slice qd ds.length cd,.int .i64 c.pk.cpu,.bool c.pk.fill,.bool c.pk.aO,.bool c.pk.walk,.int .i64 c.pk.drop,.bool c.pk.use,.bool c.one.on,.int .i64 c.one.frame,.int .i64 c.one.tag,.bool c.two.on,.int .i64 c.two.frame,.int .i64 c.two.tag,.int .i64 (c.page:Int),.int .i64 c.acc,.slice qr ([]:List Int).length cr],194⟩::(he++hd++hr)) wc) (hm:dP wc (Wb::(he++hd++hr).map (·.b)) (.slice p c.ws.length cap) 1 (c.ws.map uV))=>Fg c hk cap hcc ⟨es,[]⟩ ds c.page hk.page c.acc ha hE av4 hm h1 h2 h3 hG
  refine Ql 15 9 (⟨Wb,#[.slice p c.ws.length cap,.slice qe es.length ce,.slice qd ds.length cd,.int .i64 c.pk.cpu,.bool c.pk.fill,.bool c.pk.aO,.bool c.pk.walk,.int .i64 c.pk.drop,.bool c.pk.use,.bool c.one.on,.int .i64 c.one.frame,.int .i64 c.one.tag,.bool c.two.on,.int .i64 c.two.frame,.int .i64 c.two.tag,.int .i64 (c.page:Int),.int .i64 c.acc,.slice qr ([]:List Int).length cr],194⟩::(he++hd++hr)) (⟨R,#[.int .i64 0,.int .i64 0,.int .i64 0,.bool false,.int .i64 0],43⟩::[]) [0,1,2,3,4,5,6,7,8] [9,13,14] [10,11,12] [] [15,16] ?_
  refine fB ?_
  refine VS (fun wc hG=>hcall wc hG.dG (hm.into hG)) (hcall w hN hm).some ?_
  refine EH ?_
  refine EH ?_
  refine Zg ?_
  rintro _ _ ⟨A2,rfl,rfl⟩ _ _ ⟨A1,rfl,rfl⟩ u1 hn1 ⟨H,ev1,o6,pR,he1,hd1,hr1,rfl,⟨hH1,hH2⟩,h11,h21,h31,hle1⟩
  simp only [vJ] at hle1
  generalize dV c ⟨es,[]⟩ c.page c.acc=Y at hH1 hH2 h11 h31 ⊢
  refine ni ?_
  refine aS ?_
  refine aS ?_
  refine fC ?_
  refine fC ?_
  simp only [DN,List.cons_append,List.nil_append,List.append_nil]
  refine aV (b:=A1) (tb:=234) (cs:=#[.int .i64 0,.int .i64 0,.bool false,.bool false,.bool false,.bool false,.bool false,.int .i64 0,.int .i64 0]) (cs':=#[.int .i64 H.frame,.int .i64 H.mid,.bool H.r,.bool H.w,.bool H.x,.bool H.af,.bool H.ng,.int .i64 H.soft,.int .i64 H.level]) (hp':=⟨A2,#[.int .i64 0,.int .i64 0,.int .i64 0,.bool false,.int .i64 0],43⟩::(hn1++[⟨R,#[.int .i64 0,.int .i64 0,.int .i64 0,.bool false,.int .i64 0],43⟩])) ?_ au
  refine aV (b:=A2) (tb:=43) (cs:=#[.int .i64 0,.int .i64 0,.int .i64 0,.bool false,.int .i64 0]) (cs':=#[.int .i64 Y.f.kind,.int .i64 Y.f.stage,.int .i64 Y.f.level,.bool Y.f.walk,.int .i64 Y.f.page]) (hp':=⟨A1,#[.int .i64 H.frame,.int .i64 H.mid,.bool H.r,.bool H.w,.bool H.x,.bool H.af,.bool H.ng,.int .i64 H.soft,.int .i64 H.level],234⟩::(hn1++[⟨R,#[.int .i64 0,.int .i64 0,.int .i64 0,.bool false,.int .i64 0],43⟩])) ?_ au
  refine aH ?_
  refine di ?_
  refine aJ (⟨A2,#[.int .i64 Y.f.kind,.int .i64 Y.f.stage,.int .i64 Y.f.level,.bool Y.f.walk,.int .i64 Y.f.page],43⟩::⟨A1,#[.int .i64 H.frame,.int .i64 H.mid,.bool H.r,.bool H.w,.bool H.x,.bool H.af,.bool H.ng,.int .i64 H.soft,.int .i64 H.level],234⟩::⟨R,#[.int .i64 0,.int .i64 0,.int .i64 0,.bool false,.int .i64 0],43⟩::⟨Wb,#[.slice p c.ws.length cap,ev1,o6,.int .i64 c.pk.cpu,.bool c.pk.fill,.bool c.pk.aO,.bool c.pk.walk,.int .i64 c.pk.drop,.bool c.pk.use,.bool c.one.on,.int .i64 c.one.frame,.int .i64 c.one.tag,.bool c.two.on,.int .i64 c.two.frame,.int .i64 c.two.tag,.int .i64 (c.page:Int),.int .i64 c.acc,pR],194⟩::(he1++hd1++hr1)) (cnt1 hle1) ?_
  refine run ?_
  refine iw 2 ?_
  refine dN 5 4 [0,1,2,3] [4] (⟨A2,#[.int .i64 Y.f.kind,.int .i64 Y.f.stage,.int .i64 Y.f.level,.bool Y.f.walk,.int .i64 Y.f.page],43⟩::⟨A1,#[.int .i64 H.frame,.int .i64 H.mid,.bool H.r,.bool H.w,.bool H.x,.bool H.af,.bool H.ng,.int .i64 H.soft,.int .i64 H.level],234⟩::⟨Wb,#[.slice p c.ws.length cap,ev1,o6,.int .i64 c.pk.cpu,.bool c.pk.fill,.bool c.pk.aO,.bool c.pk.walk,.int .i64 c.pk.drop,.bool c.pk.use,.bool c.one.on,.int .i64 c.one.frame,.int .i64 c.one.tag,.bool c.two.on,.int .i64 c.two.frame,.int .i64 c.two.tag,.int .i64 (c.page:Int),.int .i64 c.acc,pR],194⟩::(he1++hd1++hr1)) ?_
  refine dh ?_
  refine aV (b:=R) (tb:=43) (cs:=#[.int .i64 0,.int .i64 0,.int .i64 0,.bool false,.int .i64 0]) (cs':=#[.int .i64 Y.f.kind,.int .i64 Y.f.stage,.int .i64 Y.f.level,.bool Y.f.walk,.int .i64 Y.f.page]) (hp':=⟨A2,#[.int .i64 Y.f.kind,.int .i64 Y.f.stage,.int .i64 Y.f.level,.bool Y.f.walk,.int .i64 Y.f.page],43⟩::⟨A1,#[.int .i64 H.frame,.int .i64 H.mid,.bool H.r,.bool H.w,.bool H.x,.bool H.af,.bool H.ng,.int .i64 H.soft,.int .i64 H.level],234⟩::⟨Wb,#[.slice p c.ws.length cap,ev1,o6,.int .i64 c.pk.cpu,.bool c.pk.fill,.bool c.pk.aO,.bool c.pk.walk,.int .i64 c.pk.drop,.bool c.pk.use,.bool c.one.on,.int .i64 c.one.frame,.int .i64 c.one.tag,.bool c.two.on,.int .i64 c.two.frame,.int .i64 c.two.tag,.int .i64 (c.page:Int),.int .i64 c.acc,pR],194⟩::(he1++hd1++hr1)) ?_ au
  refine aH ?_
  refine di ?_
  refine run ?_
  exact vU (v:=.int .i64 H.frame) (cs:=#[.int .i64 Y.f.kind,.int .i64 Y.f.stage,.int .i64 Y.f.level,.bool Y.f.walk,.int .i64 Y.f.page]) ⟨_,_,_,he1,hd1,hr1,by rw [hH1],h11,h21,h31,by (exact ak)⟩
 rw [hc,cond_false]
 refine run ?_
 refine dX (σ:=Unit) (fun _=>[]) (fun _=>⟨R,#[.int .i64 0,.int .i64 0,.int .i64 0,.bool false,.int .i64 0],43⟩::⟨Wb,#[.slice p c.ws.length cap,.slice qe es.length ce,.slice qd ds.length cd,.int .i64 c.pk.cpu,.bool c.pk.fill,.bool c.pk.aO,.bool c.pk.walk,.int .i64 c.pk.drop,.bool c.pk.use,.bool c.one.on,.int .i64 c.one.frame,.int .i64 c.one.tag,.bool c.two.on,.int .i64 c.two.frame,.int .i64 c.two.tag,.int .i64 (c.page:Int),.int .i64 c.acc,.slice qr ([]:List Int).length cr],194⟩::(he++hd++hr)) (fun _=>(c.pk.use && decide (0≤iD c es))=false) ?_ ?_
 ·refine aj _ rfl (fun hc1=>?_) (fun hc1=>?_)
  ·refine run ?_
   have hmm:=fun {wc:World} (ha1:aB wc (.slice qe es.length ce) 14 (es.map bI)) (hb1:aB wc (.slice qd ds.length cd) 4 (ds.map dJ))=>Q5 ha1 hb1 hcap hE.vI c.two.tag c.one.tag c.page c.acc (lV htw.2.1 htw.2.2) (lV ho.2.1 ho.2.2) hk.page ha
   rw [pU,show fM (kz c.two.tag c.one.tag c.page c.acc) es=iD c es from rfl] at hmm
   obtain ⟨E,hEE⟩:∃ E,E=(bif decide (0≤iD c es) then es.getD (iD c es).toNat default else default):=⟨_,rfl⟩
   rw [← hEE] at hmm
   refine oV 28 27 [0,1,2,3,4,5,6,7,8,9,10,11,12,13,14,15,16,17,18,19,20,21,22,23,24,25] [26] [27] (⟨R,#[.int .i64 0,.int .i64 0,.int .i64 0,.bool false,.int .i64 0],43⟩::⟨Wb,#[.slice p c.ws.length cap,.slice qe es.length ce,.slice qd ds.length cd,.int .i64 c.pk.cpu,.bool c.pk.fill,.bool c.pk.aO,.bool c.pk.walk,.int .i64 c.pk.drop,.bool c.pk.use,.bool c.one.on,.int .i64 c.one.frame,.int .i64 c.one.tag,.bool c.two.on,.int .i64 c.two.frame,.int .i64 c.two.tag,.int .i64 (c.page:Int),.int .i64 c.acc,.slice qr ([]:List Int).length cr],194⟩::(he++hd++hr)) ?_
   refine dh ?_
   refine kU (fun wc hx hG=>hmm (h1.lie (fun b hb=>hG.here b aw9) (by rw [List.length_map];dsimp only;omega)) (h2.lie (fun b hb=>hG.here b aw9) av3)) ?_
   refine dh ?_
   refine dR ?_
   refine gZ ?_
   rintro _ _ ⟨X,rfl,rfl⟩
   simp only [DN,List.cons_append,List.nil_append,List.append_nil]
   refine aV (b:=X) (tb:=114) (cs:=#[.int .i64 0,.int .i64 0,.int .i64 0,.bool false,.int .i64 0,.int .i64 0,.int .i64 0,.int .i64 0,.bool false,.bool false,.bool false,.bool false,.bool false,.int .i64 0]) (cs':=#[.int .i64 E.kind,.int .i64 E.jm,.int .i64 E.ku,.bool E.all,.int .i64 E.page,.int .i64 E.level,.int .i64 E.frame,.int .i64 E.mid,.bool E.r,.bool E.w,.bool E.x,.bool E.af,.bool E.ng,.int .i64 E.soft]) (hp':=⟨R,#[.int .i64 0,.int .i64 0,.int .i64 0,.bool false,.int .i64 0],43⟩::⟨Wb,#[.slice p c.ws.length cap,.slice qe es.length ce,.slice qd ds.length cd,.int .i64 c.pk.cpu,.bool c.pk.fill,.bool c.pk.aO,.bool c.pk.walk,.int .i64 c.pk.drop,.bool c.pk.use,.bool c.one.on,.int .i64 c.one.frame,.int .i64 c.one.tag,.bool c.two.on,.int .i64 c.two.frame,.int .i64 c.two.tag,.int .i64 (c.page:Int),.int .i64 c.acc,.slice qr ([]:List Int).length cr],194⟩::(he++hd++hr)) ?_ au
   refine aH ?_
   refine di ?_
   refine run ?_
   refine aj _ rfl (fun hc2=>?_) (fun hc2=>?_)
   ·have h0:0≤iD c es:=by
     cases hq:decide (0≤iD c es) with
     | true=>exact of_decide_eq_true hq
     | false=>rw [hq] at hc2;simp at hc2
    simp only [h0,decide_true,cond_true] at hEE
    rw [show (c.pk.use && decide (0≤iD c es))=true by rw [hc1,decide_eq_true h0];rfl,cond_true,← hEE]
    refine run ?_
    exact vU (v:=.int .i64 E.frame) (cs:=#[.int .i64 0,.int .i64 0,.int .i64 0,.bool false,.int .i64 0]) ⟨_,_,_,he,hd,hr,rfl,h1,h2,h3,by (exact ak)⟩
   ·refine run ?_
    exact dA () (by
     rw [hc1,Bool.true_and]
     cases hq:decide (0≤iD c es) with
     | false=>rfl
     | true=>rw [hq] at hc2;simp at hc2)
  ·refine run ?_
   exact dA () (by rw [hc1];rfl)
 rintro ⟨⟩ hcut
 rw [hcut,cond_false]
 refine run ?_
 refine dK (⟨Wb,#[.slice p c.ws.length cap,.slice qe es.length ce,.slice qd ds.length cd,.int .i64 c.pk.cpu,.bool c.pk.fill,.bool c.pk.aO,.bool c.pk.walk,.int .i64 c.pk.drop,.bool c.pk.use,.bool c.one.on,.int .i64 c.one.frame,.int .i64 c.one.tag,.bool c.two.on,.int .i64 c.two.frame,.int .i64 c.two.tag,.int .i64 (c.page:Int),.int .i64 c.acc,.slice qr ([]:List Int).length cr],194⟩::(he++hd++hr)) [⟨R,#[.int .i64 0,.int .i64 0,.int .i64 0,.bool false,.int .i64 0],43⟩] (fun wc hG=>NL c hk cap hcc ⟨es,[]⟩ ds hE ha av4 (hm.into hG) h1 h2 h3 hG.dG) ?_ au
 rintro u1 hn1 ⟨H,X,M,d,ev1,o6,pR,he1,hd1,hr1,hX,hXE,hXr,rfl,hH1,hH2,h11,h21,h31,hle1⟩
 simp only [vJ] at hle1
 refine aJ (⟨R,#[.int .i64 0,.int .i64 0,.int .i64 0,.bool false,.int .i64 0],43⟩::⟨Wb,#[.slice p c.ws.length cap,ev1,o6,.int .i64 c.pk.cpu,.bool c.pk.fill,.bool c.pk.aO,.bool c.pk.walk,.int .i64 c.pk.drop,.bool c.pk.use,.bool c.one.on,.int .i64 c.one.frame,.int .i64 c.one.tag,.bool c.two.on,.int .i64 c.two.frame,.int .i64 c.two.tag,.int .i64 (c.page:Int),.int .i64 c.acc,pR],194⟩::(he1++hd1++hr1)) (cnt1 hle1) ?_
 refine run ?_
 intro HB F
 refine aj _ rfl (fun hc3=>?_) (fun hc3=>?_)
 ·rw [← hX,NI,hc3,cond_true]
  refine run ?_
  refine iw 2 ?_
  refine dN 3 2 [0,1] [2] (⟨F,#[.int .i64 X.f.kind,.int .i64 X.f.stage,.int .i64 X.f.level,.bool X.f.walk,.int .i64 X.f.page],43⟩::⟨HB,#[.int .i64 H.frame,.int .i64 H.mid,.bool H.r,.bool H.w,.bool H.x,.bool H.af,.bool H.ng,.int .i64 H.soft,.int .i64 H.level],234⟩::⟨Wb,#[.slice p c.ws.length cap,ev1,o6,.int .i64 c.pk.cpu,.bool c.pk.fill,.bool c.pk.aO,.bool c.pk.walk,.int .i64 c.pk.drop,.bool c.pk.use,.bool c.one.on,.int .i64 c.one.frame,.int .i64 c.one.tag,.bool c.two.on,.int .i64 c.two.frame,.int .i64 c.two.tag,.int .i64 (c.page:Int),.int .i64 c.acc,pR],194⟩::(he1++hd1++hr1)) ?_
  refine dh ?_
  refine aV (b:=R) (tb:=43) (cs:=#[.int .i64 0,.int .i64 0,.int .i64 0,.bool false,.int .i64 0]) (cs':=#[.int .i64 X.f.kind,.int .i64 X.f.stage,.int .i64 X.f.level,.bool X.f.walk,.int .i64 X.f.page]) (hp':=⟨F,#[.int .i64 X.f.kind,.int .i64 X.f.stage,.int .i64 X.f.level,.bool X.f.walk,.int .i64 X.f.page],43⟩::⟨HB,#[.int .i64 H.frame,.int .i64 H.mid,.bool H.r,.bool H.w,.bool H.x,.bool H.af,.bool H.ng,.int .i64 H.soft,.int .i64 H.level],234⟩::⟨Wb,#[.slice p c.ws.length cap,ev1,o6,.int .i64 c.pk.cpu,.bool c.pk.fill,.bool c.pk.aO,.bool c.pk.walk,.int .i64 c.pk.drop,.bool c.pk.use,.bool c.one.on,.int .i64 c.one.frame,.int .i64 c.one.tag,.bool c.two.on,.int .i64 c.two.frame,.int .i64 c.two.tag,.int .i64 (c.page:Int),.int .i64 c.acc,pR],194⟩::(he1++hd1++hr1)) ?_ au
  refine aH ?_
  refine di ?_
  refine run ?_
  exact vU (v:=.int .i64 0) (cs:=#[.int .i64 X.f.kind,.int .i64 X.f.stage,.int .i64 X.f.level,.bool X.f.walk,.int .i64 X.f.page]) ⟨_,_,_,he1,hd1,hr1,rfl,h11,h21,h31,by (exact ak)⟩
 have hf0:X.f.kind=0:=by simpa using hc3
 obtain ⟨hM,ZH,ah0,hHm,hHs,hHa⟩:=hH2 hf0
 have hEq:bI (yU c H.frame M d X.a)=[.int .i64 1,.int .i64 c.two.tag,.int .i64 c.one.tag,.bool !H.ng,.int .i64 (c.page:Int),.int .i64 0,.int .i64 H.frame,.int .i64 H.mid,.bool H.r,.bool H.w,.bool H.x,.bool H.af,.bool H.ng,.int .i64 H.soft]:=by
  rw [AtD.mk.injEq] at hHa
  obtain ⟨e1,e2,e3,e4,e5⟩:=hHa
  rw [hHm,hHs,e1,e2,e3,e4,e5]
  rfl
 rw [← hX,NI,hc3,cond_false]
 refine run ?_
 obtain ⟨es',hes⟩:∃ es',es'=(bif c.pk.fill then fG X.s.es (yU c X.n M d X.a) else X.s.es):=⟨_,rfl⟩
 rw [← hes]
 have hXm:=hXE.may
 refine dX (σ:=Value × Value × Hp × Hp) (fun _=>[]) (fun z=>⟨F,#[.int .i64 X.f.kind,.int .i64 X.f.stage,.int .i64 X.f.level,.bool X.f.walk,.int .i64 X.f.page],43⟩::⟨HB,#[.int .i64 H.frame,.int .i64 H.mid,.bool H.r,.bool H.w,.bool H.x,.bool H.af,.bool H.ng,.int .i64 H.soft,.int .i64 H.level],234⟩::⟨R,#[.int .i64 0,.int .i64 0,.int .i64 0,.bool false,.int .i64 0],43⟩::⟨Wb,#[.slice p c.ws.length cap,z.1,z.2.1,.int .i64 c.pk.cpu,.bool c.pk.fill,.bool c.pk.aO,.bool c.pk.walk,.int .i64 c.pk.drop,.bool c.pk.use,.bool c.one.on,.int .i64 c.one.frame,.int .i64 c.one.tag,.bool c.two.on,.int .i64 c.two.frame,.int .i64 c.two.tag,.int .i64 (c.page:Int),.int .i64 c.acc,pR],194⟩::(z.2.2.1++z.2.2.2++hr1)) (fun z=>Own 114 14 z.1 z.2.2.1 (es'.map bI)∧Own 121 4 z.2.1 z.2.2.2 (ds.map dJ)) ?_ ?_
 ·refine aj _ rfl (fun hc4=>?_) (fun hc4=>?_)
  ·rw [hc4,cond_true] at hes
   subst hes
   have hF:=fun (wc:World) (hG:eP (⟨Wb,#[.slice p c.ws.length cap,ev1,o6,.int .i64 c.pk.cpu,.bool c.pk.fill,.bool c.pk.aO,.bool c.pk.walk,.int .i64 c.pk.drop,.bool c.pk.use,.bool c.one.on,.int .i64 c.one.frame,.int .i64 c.one.tag,.bool c.two.on,.int .i64 c.two.frame,.int .i64 c.two.tag,.int .i64 (c.page:Int),.int .i64 c.acc,pR],194⟩::(he1++hd1++hr1)) wc)=>Bz c X.s.es ds hXE.vI (yU c H.frame M d X.a) (Hq hk hM (by rw [hH1];exact ZH)) ⟨_,_,_,rfl⟩ ⟨_,_,_,h31.opened.choose_spec.choose_spec⟩ h11 h21 hG
   rw [hEq] at hF
   refine run ?_
   refine iV 26 ?_
   refine cu ?_
   refine dK (⟨Wb,#[.slice p c.ws.length cap,ev1,o6,.int .i64 c.pk.cpu,.bool c.pk.fill,.bool c.pk.aO,.bool c.pk.walk,.int .i64 c.pk.drop,.bool c.pk.use,.bool c.one.on,.int .i64 c.one.frame,.int .i64 c.one.tag,.bool c.two.on,.int .i64 c.two.frame,.int .i64 c.two.tag,.int .i64 (c.page:Int),.int .i64 c.acc,pR],194⟩::(he1++hd1++hr1)) (⟨F,#[.int .i64 X.f.kind,.int .i64 X.f.stage,.int .i64 X.f.level,.bool X.f.walk,.int .i64 X.f.page],43⟩::⟨HB,#[.int .i64 H.frame,.int .i64 H.mid,.bool H.r,.bool H.w,.bool H.x,.bool H.af,.bool H.ng,.int .i64 H.soft,.int .i64 H.level],234⟩::⟨R,#[.int .i64 0,.int .i64 0,.int .i64 0,.bool false,.int .i64 0],43⟩::[]) (fun wc hG=>hF wc hG.dG) ?_ au
   rintro u7 ZC ⟨ZE,ZF,ZG,hd7,rfl,h17,h27,Cm⟩
   simp only [vJ] at Cm
   rw [hH1] at h17
   refine run ?_
   exact dA (ZE,ZF,ZG,hd7) ⟨h17,h27⟩ (h2:=by (exact cnt1 Cm))
  ·rw [hc4,cond_false] at hes
   subst hes
   refine run ?_
   exact dA (ev1,o6,he1,hd1) ⟨h11,h21⟩ (h2:=by (exact ak))
 rintro ⟨wM,yY,he2,hd2⟩ ⟨h1',h2'⟩
 dsimp only at h1' h2' ⊢
 refine run ?_
 refine iw 2 ?_
 refine dN 5 4 [0,1,2,3] [4] (⟨F,#[.int .i64 X.f.kind,.int .i64 X.f.stage,.int .i64 X.f.level,.bool X.f.walk,.int .i64 X.f.page],43⟩::⟨HB,#[.int .i64 H.frame,.int .i64 H.mid,.bool H.r,.bool H.w,.bool H.x,.bool H.af,.bool H.ng,.int .i64 H.soft,.int .i64 H.level],234⟩::⟨Wb,#[.slice p c.ws.length cap,wM,yY,.int .i64 c.pk.cpu,.bool c.pk.fill,.bool c.pk.aO,.bool c.pk.walk,.int .i64 c.pk.drop,.bool c.pk.use,.bool c.one.on,.int .i64 c.one.frame,.int .i64 c.one.tag,.bool c.two.on,.int .i64 c.two.frame,.int .i64 c.two.tag,.int .i64 (c.page:Int),.int .i64 c.acc,pR],194⟩::(he2++hd2++hr1)) ?_
 refine dh ?_
 refine aV (b:=R) (tb:=43) (cs:=#[.int .i64 0,.int .i64 0,.int .i64 0,.bool false,.int .i64 0]) (cs':=#[.int .i64 X.f.kind,.int .i64 X.f.stage,.int .i64 X.f.level,.bool X.f.walk,.int .i64 X.f.page]) (hp':=⟨F,#[.int .i64 X.f.kind,.int .i64 X.f.stage,.int .i64 X.f.level,.bool X.f.walk,.int .i64 X.f.page],43⟩::⟨HB,#[.int .i64 H.frame,.int .i64 H.mid,.bool H.r,.bool H.w,.bool H.x,.bool H.af,.bool H.ng,.int .i64 H.soft,.int .i64 H.level],234⟩::⟨Wb,#[.slice p c.ws.length cap,wM,yY,.int .i64 c.pk.cpu,.bool c.pk.fill,.bool c.pk.aO,.bool c.pk.walk,.int .i64 c.pk.drop,.bool c.pk.use,.bool c.one.on,.int .i64 c.one.frame,.int .i64 c.one.tag,.bool c.two.on,.int .i64 c.two.frame,.int .i64 c.two.tag,.int .i64 (c.page:Int),.int .i64 c.acc,pR],194⟩::(he2++hd2++hr1)) ?_ au
 refine aH ?_
 refine di ?_
 refine run ?_
 exact vU (v:=.int .i64 H.frame) (cs:=#[.int .i64 X.f.kind,.int .i64 X.f.stage,.int .i64 X.f.level,.bool X.f.walk,.int .i64 X.f.page]) ⟨_,_,_,he2,hd2,hr1,by rw [hH1,ah0],h1',h2',h31,by (exact ak)⟩
theorem vV {w:World} {F:Nat} {us:List Value} (p:bg→Bool) (xs:List (bg)) (v:Value) (h:aB w v 14 (xs.map bI)) (hF:∀ x,x∈xs→∀ w',He w w'→Fn Tryz.prog F ([]++[Value.agg (bI x).toArray]++us).toArray w' [] (fun u _=>u=.bool (p x))) (dY:mem mY F=true:=by rfl):
  Fn Tryz.prog 65 [v,.func (.func F) [].toArray us.toArray].toArray w [] (fun u _=>u=.bool (xs.any p)):=by
 refine enter Tryz.func65 ?_
 refine run ?_
 refine ax (fun wc hG=>Bg p xs v (h.good hG) (fun x hx w' ha=>hF x hx w' ?_) dY) ?_
 ·obtain ⟨hp,hg⟩:=ha
  exact ⟨_,hG.trans hg⟩
 refine run ?_
 refine fin1 ?_
 rw [← xG]
theorem Ri (n:Int) (x:bg) (B:Nat) (w:World) (hB:w.cell? ⟨B,0,none⟩=some (.int .i64 n)):Fn Tryz.prog 163 ([]++[Value.agg (bI x).toArray]++[Value.pointer (some ⟨B,0,none⟩)]).toArray w [] (fun u _=>u=.bool (decide (n≤x.frame))):=by
 refine enter Tryz.func163 ?_
 refine run ?_
 intro E
 refine run ?_
 exact fin1 rfl
theorem V4 (r:bQ):(decide (r.frame<0) || decide (4095<r.frame) || decide (r.tag<0) || decide (15<r.tag))=!r.may:=by
 have e2:∀ a:Int,decide (a<0)=!decide (0≤a):=fun a=>by rw [Bool.eq_iff_iff];simp
 have e3:∀ a b:Int,decide (b<a)=!decide (a≤b):=fun a b=>by rw [Bool.eq_iff_iff];simp
 rw [bQ.may,PtD.bY,PtD.bY,e2,e2,e3,e3]
 simp only [Bool.not_and,Bool.or_assoc]
theorem UX (ws:List Nat) (hw:ws.length<1000000) (cap:Nat) (hcc:ws.length≤cap) {p:Option Addr} {w:World} {Wb:Nat} (es:List bg) (ds:List dB) (pk:vg) (one two:bQ) (page acc:Int) {ev dv rv:Value} (he:dP w [Wb] ev 14 (es.map bI)) (hd:dP w [Wb] dv 4 (ds.map dJ)) (hcap:∃ q c,ev=.slice q es.length c∧es.length≤c) (hel:es.length<1000000)
  (hN:eP [⟨Wb,#[.slice p ws.length cap,ev,dv,.int .i64 pk.cpu,.bool pk.fill,.bool pk.aO,.bool pk.walk,.int .i64 pk.drop,.bool pk.use,.bool one.on,.int .i64 one.frame,.int .i64 one.tag,.bool two.on,.int .i64 two.frame,.int .i64 two.tag,.int .i64 page,.int .i64 acc,rv],194⟩] w):
  Fn Tryz.prog 136 [.pointer (some ⟨Wb,0,none⟩)].toArray w [Wb] (fun u hn=>u=.bool (wI ws.length es ds one two page acc)∧aF [⟨Wb,#[.slice p ws.length cap,ev,dv,.int .i64 pk.cpu,.bool pk.fill,.bool pk.aO,.bool pk.walk,.int .i64 pk.drop,.bool pk.use,.bool one.on,.int .i64 one.frame,.int .i64 one.tag,.bool two.on,.int .i64 two.frame,.int .i64 two.tag,.int .i64 page,.int .i64 acc,rv],194⟩] hn):=by
 refine eF _ hN Tryz.func136 ?_
 obtain ⟨qe,ce,rfl,hlc⟩:=hcap
 obtain ⟨qd,cd,rfl,_⟩:=hd.at_.opened
 refine run ?_
 refine ax (fun wc hG=>Dw ws.length cap au' p wc) ?_
 refine run ?_
 intro Nb
 refine ax (fun wc hG=>Bq false false false false false 0 acc wc) ?_
 refine az ?_
 refine aZ (fun hg wc hG=>kP es ds _ _ (he.good hG) (hd.good hG) ⟨_,_,rfl,hlc⟩) ?_
 refine az ?_
 have hg:(!decide ((bif dQ ws.length then (0:Int) else 1)=0) || !decide ((bif PtD.bY acc 0 2 then (0:Int) else 1)=0) || !decide ((bif bK es ds then (0:Int) else 1)=0) || !two.on || decide (page<0) || decide (4095<page))=!(dQ ws.length && PtD.bY acc 0 2 && bK es ds && two.on && PtD.bY page 0 4095):=by
  have e1:∀ b,decide ((bif b then (0:Int) else 1)=0)=b:=by decide
  rw [e1,e1,e1]
  have e2:decide (page<0)=!decide (0≤page):=by rw [Bool.eq_iff_iff];simp
  have e3:decide (4095<page)=!decide (page≤4095):=by rw [Bool.eq_iff_iff];simp
  rw [e2,e3,PtD.bY,PtD.bY]
  simp only [Bool.not_and,Bool.or_assoc]
 rw [hg]
 refine aj _ rfl (fun hc=>?_) (fun hc=>?_)
 ·have hf:wI ws.length es ds one two page acc=false:=by
   rw [wI,Cf]
   simp only [Bool.not_eq_true',Bool.and_eq_false_iff] at hc
   rcases hc with (((h | h) | h) | h) | h<;>simp [h]
  rw [hf]
  refine run ?_
  exact fin1 ⟨rfl,by (exact ak)⟩
 have hcc:dQ ws.length=true∧PtD.bY acc 0 2=true∧bK es ds=true∧two.on=true∧PtD.bY page 0 4095=true:=by
  simp only [Bool.not_eq_false',Bool.and_eq_true] at hc
  exact ⟨hc.1.1.1.1,hc.1.1.1.2,hc.1.1.2,hc.1.2,hc.2⟩
 obtain ⟨g1,g2,g3,g4,g5⟩:=hcc
 have hmay:wI ws.length es ds one two page acc=(one.may && two.may && lQ ws.length es):=by
  rw [wI,Cf,g1,g2,g3,g4,g5];simp
 rw [hmay]
 simp only [g1,cond_true]
 refine run ?_
 refine dN 11 8 [0,1,2,3,4,5,6,7,10] [8,9] [⟨Nb,#[.int .i64 ((ws.length / 8:Nat):Int)],3⟩,⟨Wb,#[.slice p ws.length cap,.slice qe es.length ce,.slice qd ds.length cd,.int .i64 pk.cpu,.bool pk.fill,.bool pk.aO,.bool pk.walk,.int .i64 pk.drop,.bool pk.use,.bool one.on,.int .i64 one.frame,.int .i64 one.tag,.bool two.on,.int .i64 two.frame,.int .i64 two.tag,.int .i64 page,.int .i64 acc,rv],194⟩] ?_
 refine dh ?_
 refine wC [.bool one.on,.int .i64 one.frame,.int .i64 one.tag,.bool two.on,.int .i64 two.frame,.int .i64 two.tag] (fun Z=>?_)
 refine sV (fun hx=>x_len ay rfl rfl) ?_
 refine aH ?_
 refine di ?_
 refine run ?_
 refine cO (σ:=Nat) (fun j=>[(72,.int .i64 (j:Int))]) (fun j=>[⟨Z,#[.bool one.on,.int .i64 one.frame,.int .i64 one.tag,.bool two.on,.int .i64 two.frame,.int .i64 two.tag],33⟩,⟨Nb,#[.int .i64 ((ws.length / 8:Nat):Int)],3⟩,⟨Wb,#[.slice p ws.length cap,.slice qe es.length ce,.slice qd ds.length cd,.int .i64 pk.cpu,.bool pk.fill,.bool pk.aO,.bool pk.walk,.int .i64 pk.drop,.bool pk.use,.bool one.on,.int .i64 one.frame,.int .i64 one.tag,.bool two.on,.int .i64 two.frame,.int .i64 two.tag,.int .i64 page,.int .i64 acc,rv],194⟩]) (fun j=>j≤2∧(1≤j→one.may=true)∧(2≤j→two.may=true)) (fun j=>2 - j) 0 ⟨by omega,fun h=>by omega,fun h=>by omega⟩ ?_
 rintro j m hmj ⟨hj2,hj0,hj1⟩
 obtain rfl | rfl | rfl:j=0∨j=1∨j=2:=by omega
 ·refine aX ?_
  intro B
  rw [V4]
  refine aj _ rfl (fun hc2=>?_) (fun hc2=>?_)
  ·refine run ?_
   rw [show one.may=false by simpa using hc2]
   exact fin1 ⟨rfl,by (exact ak)⟩
  ·refine run ?_
   exact bH 1 ⟨by omega,fun _=>by simpa using hc2,fun h=>by omega⟩ (h2:=by (exact ak))
 ·refine aX ?_
  intro B
  rw [V4]
  refine aj _ rfl (fun hc2=>?_) (fun hc2=>?_)
  ·refine run ?_
   rw [show two.may=false by simpa using hc2,Bool.and_false,Bool.false_and]
   exact fin1 ⟨rfl,by (exact ak)⟩
  ·refine run ?_
   exact bH 2 ⟨by omega,fun _=>hj0 au',fun _=>by simpa using hc2⟩ (h2:=by (exact ak))
 refine aX ?_
 refine ax (fun wc hG=>vV (us:=[.pointer (some ⟨Nb,0,none⟩)]) (fun x=>decide (((ws.length / 8:Nat):Int)≤x.frame)) es _ (he.good hG) (fun x _ w' ha=>Ri _ x Nb w' ?_)) ?_
 ·obtain ⟨hp,hg⟩:=ha
  exact hg.cell ay2 av4
 refine run ?_
 rw [hj0 au',hj1 au']
 refine fin1 ⟨?_,by (exact ak)⟩
 rw [Bool.true_and,Bool.true_and,lQ,List.not_any_eq_all_not]
 congr 2
 funext x
 rw [Bool.eq_iff_iff];simp
end
section
section
variable {P : Program} {n : Nat} {w0 : World} {mu : List Nat} {l : Fm} {h0 hp : Hp} {Q : Exit → Fm → Hp → Prop} {all : Array Oper} {aG : Fm} {k t0 : Nat} {ds : List (Nat × Nat)}
theorem DC {aN Cb:Fm} {h h':Hp} {listed:Array Bool} {a:Act} {w w':World} {i:Nat} {o:Oper} {v:Value} (hm:nK n w0 mu all l aG aN h listed a w) (ho:all[i]?=some o) (hi:i<k) (hun:listed.getD i true=false) (hs:i<listed.size)
  (hd:pG all k n=true) (hf:∀ i d u,i<k→aQ all i=some d→look l d=some u→lk aG i=some u) (hG:Good w0 mu h' w') (WV:∀ j v,lk aG j=some v→j<k) (hEk:∀ j v,(j,v)∈aN→j<k)
  (hv:(lk aG i=some v∧Cb=aN)∨(lk aG i=none∧Cb=(i,v)::aN)):nK n w0 mu all l aG Cb h' (listed.setIfInBounds i true) (a.put o.dst v) w':=by
 have hod:aQ all i=o.dst:=by simp [aQ,ho]
 have hput:∀ t,(∀ d,o.dst=some d→t ≠ d)→(a.put o.dst v).tmps.getD t undef=a.tmps.getD t undef:=by
  intro t ht
  cases hdd:o.dst with
  | none=>rfl
  | some d=>simp [Act.put,Array.getElem?_setIfInBounds_ne (Ne.symm (ht d hdd))]
 have hself:∀ d,o.dst=some d→(a.put o.dst v).tmps.getD d undef=v:=by
  intro d hdd
  have:=Ky hd hi (hod.trans hdd)
  rw [hdd]
  simp [Act.put,hm.size,this]
 have hother:∀ j d,j<k→j ≠ i→aQ all j=some d→(a.put o.dst v).tmps.getD d undef=a.tmps.getD d undef:=fun j d hj hji hdj=>hput d fun d' hd'=>Kz hd hj hi hji hdj (hod.trans hd')
 refine ⟨?_,?_,fun t u hu=>?_,hG,fun j u hj hl d hdj=>?_,fun j u hj=>?_⟩
 ·cases o.dst<;>simpa [Act.put] using hm.size
 ·cases o.dst<;>exact hm.defers
 ·by_cases hit:o.dst=some t
  ·have h1:=hf i t u hi (hod.trans hit) hu
   rcases hv with ⟨h2,_⟩ | ⟨h2,_⟩
   ·rw [h1] at h2;cases h2;exact hself t hit
   ·rw [h1] at h2;cases h2
  ·rw [hput t fun d hdd e=>hit (by rw [e];exact hdd)]
   exact hm.has t u hu
 ·by_cases hji:j=i
  ·subst hji
   rcases hv with ⟨h1,_⟩ | ⟨h1,_⟩
   ·rw [h1] at hj;cases hj
    exact hself d (hod▸hdj)
   ·rw [h1] at hj;cases hj
  ·rw [hother j d (WV j u hj) hji hdj]
   exact hm.nU j u hj az1 d hdj
 ·have hold:(j,u)∈aN→(listed.setIfInBounds i true).getD j false=true∧∀ d,aQ all j=some d→(a.put o.dst v).tmps.getD d undef=u:=fun hj=>by
   have h1:=hm.jZ j u hj
   have hji:j ≠ i:=fun e=>by subst e;rw [getD_both hun] at h1;cases h1.1
   exact ⟨getD_set_true h1.1,fun d hdj=>by rw [hother j d (hEk j u hj) hji hdj];exact h1.2 d hdj⟩
  rcases hv with ⟨_,rfl⟩ | ⟨_,rfl⟩
  ·exact hold hj
  ·rcases List.mem_cons.1 hj with hj | hj
   ·cases hj
    exact ⟨by simp [hs],fun d hdj=>hself d (hod▸hdj)⟩
   ·exact hold hj
theorem JI (hds:∀ k d,lk ds k=some d→aQ all k=some d) {g:Nat} {Q':Exit→Act→World→Prop} {X:Fm→Hp→Prop} (hk:k≤all.size) (hd:pG all k n=true) (hf:∀ i d u,i<k→aQ all i=some d→look l d=some u→lk aG i=some u) (hback:lH all=true) (hle0:aF h0 hp)
  (qf:∀ i,i<k→aQ all i=none→i=t0∨Region.waitsFor .any all i t0=true)
  (hS:∀ i v,lk aG i=some v→i<k∧∃ o bC,all[i]?=some o∧lG bC aG∧∀ hx,pz P n w0 mu all (aA ds bC o.after.toList++l) (bif Region.waitsFor .any all t0 i then hx++hp else hx++h0) o v)
  (htail:∀ aN h listed,HeadInv .any all k listed→(∀ i,i<k→listed.getD i true=true)→X aN h→∀ a w,nK n w0 mu all l aG aN h listed a w→(∀ i v,(i,v)∈aN→i<k)→wpAny P .any all Q' g listed a w)
  (jW:∀ listed,HeadInv .any all k listed→∀ i,i<k→listed.getD i true=false→∀ t,k≤t→t ∉ Region.ready .any all listed):
  ∀ f r aN h listed a w,leftOf k listed=f→HeadInv .any all k listed→nK n w0 mu all l aG aN h listed a w→(∀ i v,(i,v)∈aN→i<k)→(∀ i∈r,i<k∧listed.getD i true=false∧lk aG i=none)→r.Nodup→nT all r=true→(∀ i,i<k→listed.getD i true=false→(∃ v,lk aG i=some v)∨i∈r) →
   aF h0 h→(listed.getD t0 false=false→aF hp h)→fA P n w0 mu all ds l h0 aG X r aN h→wpAny P .any all Q' (f + g) listed a w:=by
 intro f
 induction f with
 | zero=>
  intro r aN h listed a w hlf inv hm hEk hr hnd dU hcov hle ny hD
  have hall:∀ i,i<k→listed.getD i true=true:=by
   intro i hi
   cases hc:listed.getD i true with
   | true=>rfl
   | false=>
    exfalso
    have:i∈(List.range k).filter fun i=>!listed.getD i true:=List.mem_filter.2 ⟨List.mem_range.2 hi,by simp only [hc,Bool.not_false]⟩
    have h2:=List.length_pos_of_mem this
    unfold leftOf at hlf
    omega
  cases r with
  | nil=>
   rw [Nat.zero_add]
   exact htail aN h listed inv hall hD a w hm hEk
  | cons c r=>
   have h1:=hr c (List.mem_cons_self ..)
   rw [hall c h1.1] at h1
   exact absurd h1.2.1 av1
 | succ f ih=>
  intro r aN h listed a w hlf inv hm hEk hr hnd dU hcov hle ny hD
  rw [show f + 1 + g=(f + g) + 1 by omega]
  have hex:∃ i,i<k∧listed.getD i true=false:=by
   have h2:0<leftOf k listed:=by omega
   obtain ⟨i,hi⟩:=List.exists_mem_of_length_pos h2
   rw [List.mem_filter] at hi
   exact ⟨i,List.mem_range.1 hi.1,by simpa using hi.2⟩
  obtain ⟨i0,jF,hi0⟩:=hex
  refine ⟨fun hnil=>?_,fun i hi=>?_⟩
  ·exfalso
   obtain ⟨i,⟨hik,hil⟩,hmin⟩:=exists_least (p:=fun i=>i<k∧listed.getD i true=false) ⟨i0,jF,hi0⟩
   have hr:i∈Region.ready .any all listed:=by
    rw [mem_ready]
    have hs:i<all.size:=by omega
    refine ⟨hil,all[i],by simp [hs],fun e he hb=>?_⟩
    have hb2:=List.all_eq_true.1 hback i (List.mem_range.2 hs)
    simp only [Array.getElem?_eq_getElem hs] at hb2
    have hb3:=(Array.all_eq_true_iff_forall_mem.1 hb2) e he
    simp only [hb,Bool.not_true,Bool.false_or,Nat.blt_eq] at hb3
    cases hc:listed.getD e.on false with
    | true=>rfl
    | false=>
     have h5:=hmin e.on ⟨by omega,getD_in av7 hc⟩
     omega
   rw [hnil] at hr;cases hr
  ·have hik:i<k:=by
    rcases Nat.lt_or_ge i k with h | h
    ·exact h
    ·exact absurd hi (jW listed inv i0 jF hi0 i h)
   obtain ⟨hun,o,ho,hall⟩:=mem_ready.1 hi
   have hsz:i<listed.size:=by rw [inv.size];omega
   have nI:listed.getD i false=false:=getD_both hun
   have hleft:leftOf k (listed.setIfInBounds i true)=f:=by have:=jI hik av7 hun;omega
   have hwl:∀ t,Region.waitsFor .any all i t=true→listed.getD t false=true:=fun t ht=>by
    obtain ⟨oj,h6,e,he,hb,heq⟩:=Region.waitsFor_spec ht
    rw [ho] at h6;cases h6
    rw [← heq];exact hall e he hb
   unfold wpOp
   simp only [ho]
   cases qP:lk aG i with
   | some v=>
    obtain ⟨_,o',bC,ho',hmo,hy⟩:=hS i v qP
    rw [ho] at ho';cases ho'
    have hkn:=iQ (o:=o) hds hm (bC:=bC) (fun j u hu=>.inr (hmo j u aw4)) hall
    have hir:i ∉ r:=fun hm'=>by rw [(hr i hm').2.2] at qP;cases qP
    have hnext:∀ w',Good w0 mu h w'→wpAny P .any all Q' (f + g) (listed.setIfInBounds i true) (a.put o.dst v) w':=fun w' hG'=>by
     refine ih r aN h _ _ _ hleft (inv.set hi hik) (DC hm ho hik hun hsz hd hf hG' (fun j u hu=>(hS j u hu).1) hEk (.inl ⟨qP,rfl⟩)) hEk (fun j hj=>?_) hnd dU (fun j hj hl=>?_) hle (fun ht=>?_) hD
     ·have hji:i ≠ j:=fun e=>hir (e▸hj)
      exact ⟨(hr j hj).1,by rw [getD_set_ne true hji];exact (hr j hj).2.1,(hr j hj).2.2⟩
     ·refine hcov j hj ?_
      by_cases hji:i=j
      ·subst hji;simp [hsz] at hl
      ·rwa [getD_set_ne true hji] at hl
     ·refine ny ?_
      by_cases hji:i=t0
      ·subst hji;exact nI
      ·rwa [getD_set_ne false hji] at ht
    obtain ⟨hx,h3,jv⟩:∃ hx,pz P n w0 mu all (aA ds bC o.after.toList++l) hx o v∧hx.Perm h:=by
     cases hwt:Region.waitsFor .any all t0 i with
     | true=>
      have ht0:listed.getD t0 false=false:=by
       cases hc:listed.getD t0 false with
       | false=>rfl
       | true=>
        obtain ⟨oj,h6,e,he,hb,heq⟩:=Region.waitsFor_spec hwt
        have:=inv.closed t0 oj h6 hc e he hb
        rw [heq,nI] at this;cases this
      obtain ⟨x,hxp⟩:=(ny ht0).perm
      have h4:=hy x
      rw [hwt] at h4
      exact ⟨x++hp,h4,List.perm_append_comm.trans hxp⟩
     | false=>
      obtain ⟨x,hxp⟩:=hle.perm
      have h4:=hy x
      rw [hwt] at h4
      exact ⟨x++h0,h4,List.perm_append_comm.trans hxp⟩
    have hgd:Good w0 mu hx w:=hm.good.perm jv
    replace hnext:∀ w',Good w0 mu hx w'→wpAny P .any all Q' (f + g) (listed.setIfInBounds i true) (a.put o.dst v) w':=fun w' hG'=>hnext w' (hG'.perm jv.symm)
    unfold pz at h3
    cases hg:o.guard with
    | none=>
     rw [hg] at h3
     rw [if_pos aw2]
     exact .inl (h3 a w hkn hgd _ _ hnext)
    | some jw=>
     obtain ⟨j,want⟩:=jw
     rw [hg] at h3
     obtain ⟨dj,c0,b,u,hj,hb,hdj,hy,hvv⟩:=h3
     have hw:=gY hkn hg hj hb hdj
     cases hc:(c0 && jg b want) with
     | true=>
      rw [hc] at hw hvv
      rw [if_pos hw]
      rw [Bool.and_eq_true] at hc
      rw [show v=u from hvv] at hnext
      exact .inl (hy hc.1 hc.2 a w hkn hgd _ _ hnext)
     | false=>
      rw [hc] at hw hvv
      rw [if_neg ax7]
      rw [show v=undef from hvv] at hnext
      exact hnext w hgd
   | none=>
    have hir:i∈r:=by
     rcases hcov i hik hun with ⟨v,hv⟩ | h
     ·rw [qP] at hv;cases hv
     ·exact h
    cases r with
    | nil=>cases hir
    | cons c r=>
     have hic:i=c:=by
      rcases List.mem_cons.1 hir with h | h
      ·exact h
      ·exfalso
       obtain ⟨p,hp⟩:=rF dU h
       rcases hp with ⟨h1,_,h3⟩ | ⟨_,h3⟩ | ⟨p,h1,h3⟩
       ·have:=(hr p h1).2.1;have h5:=hwl p h3
        rw [getD_both this] at h5;cases h5
       ·exact h3
       ·have:=(hr p h1).2.1;have h5:=hwl p h3
        rw [getD_both this] at h5;cases h5
     subst hic
     rw [List.nodup_cons] at hnd
     have nM:nT all r=true:=by
      cases r with
      | nil=>rfl
      | cons j r=>simp only [nT,Bool.and_eq_true] at dU;exact dU.2
     have hr':∀ j∈r,j<k∧(listed.setIfInBounds i true).getD j true=false∧lk aG j=none:=fun j hj=>by
      have h1:=hr j (List.mem_cons_of_mem _ hj)
      have hji:i ≠ j:=fun e=>hnd.1 (e▸hj)
      exact ⟨h1.1,by rw [getD_set_ne true hji];exact h1.2.1,h1.2.2⟩
     have lu:∀ j,j<k→(listed.setIfInBounds i true).getD j true=false→(∃ v,lk aG j=some v)∨j∈r:=fun j hj hl=>by
      by_cases hji:i=j
      ·subst hji;simp [hsz] at hl
      ·rw [getD_set_ne true hji] at hl
       rcases hcov j hj hl with h | h
       ·exact .inl h
       ·exact .inr ((List.mem_cons.1 h).resolve_left (Ne.symm hji))
     have hkn:=iQ (o:=o) hds hm (bC:=aN++aG) (fun j u hu=>by
      rw [eu,AL] at hu
      cases hE:lk aN j with
      | some v=>rw [hE] at hu;exact .inl hu
      | none=>rw [hE] at hu;exact .inr hu) hall
     unfold fA at hD
     obtain ⟨o',ho',hD⟩:=hD
     rw [ho] at ho';cases ho'
     rcases hD with ⟨hds',R,⟨hg,hE⟩,hD⟩ | ⟨hdn,h',⟨hg,_,hSt⟩,hle',hD⟩
     ·rw [if_pos (hg _ hkn)]
      refine .inl (hE a w [] hkn aA7 _ _ fun v hn w' hR hG'=>?_)
      rw [List.nil_append] at hG'
      have hlen:∀ x:Hp,aF x h→aF x (hn++h):=fun x hx=>bU fun b=>by have:=hx.cnt b;rw [dZ];omega
      refine ih r ((i,v)::aN) (hn++h) _ _ _ hleft (inv.set hi hik) (DC hm ho hik hun hsz hd hf hG' (fun j u hu=>(hS j u hu).1) hEk (.inr ⟨qP,rfl⟩)) (fun j u hu=>?_) hr' hnd.2 nM lu (hlen _ hle) (fun ht=>hlen _ (ny ?_)) (hD v hn hR)
      ·rcases List.mem_cons.1 hu with hu | hu
       ·cases hu;exact hik
       ·exact hEk j u hu
      ·by_cases hji:i=t0
       ·subst hji;exact nI
       ·rwa [getD_set_ne false hji] at ht
     ·rw [if_pos aw2]
      refine .inl (hSt a w hkn hm.good _ _ fun w' hG'=>?_)
      have hmc:nK n w0 mu all l aG aN h' (listed.setIfInBounds i true) a w':=by
       refine ⟨hm.size,hm.defers,hm.has,hG',fun j u hj hl d hdj=>?_,fun j u hj=>⟨getD_set_true (hm.jZ j u hj).1,(hm.jZ j u hj).2⟩⟩
       have hji:i ≠ j:=fun e=>by subst e;rw [qP] at hj;cases hj
       exact hm.nU j u hj ay8 d hdj
      refine ih r aN h' _ _ _ hleft (inv.set hi hik) hmc hEk hr' hnd.2 nM lu hle' (fun ht=>?_) hD
      exfalso
      rcases qf i hik (by simp [aQ,ho,hdn]) with e | e
      ·subst e
       rw [show (listed.setIfInBounds i true).getD i false=true by simp [hsz]] at ht;cases ht
      ·have:=getD_set_true (i:=i) (hwl t0 e)
       rw [this] at ht;cases ht
theorem NQ {ops:List Oper} (k t0 m:Nat) (S C:List Nat) (h0:Hp) (hB:yQ ops.toArray n k t0 S C=true) (hf:bu l ((List.range k).map fun i=>bif Nat.beq i m then none else aQ ops.toArray i)=true) (hle0:aF h0 hp) (hds:bP ops 0=ds)
  (h:DS P n w0 mu ops.toArray ds l h0 hp t0 (fun aG=>(((aQ ops.toArray m).bind (look l)).isNone=true∨lk aG m=(aQ ops.toArray m).bind (look l))∧fA P n w0 mu ops.toArray ds l h0 aG (fun aN hc=>Ops P n w0 mu ops.toArray (ops.drop k) (aY ds (aN++aG)++l) hc Q) C [] hp) S []):lq P n w0 mu ops.toArray l hp Q:=by
 intro a w hk hG
 simp only [yQ,Bool.and_eq_true] at hB
 obtain ⟨⟨⟨⟨⟨hd,hback⟩,oU⟩,dU⟩,fQ⟩,qf⟩:=hB
 simp only [nJ,Bool.and_eq_true,decide_eq_true_eq] at oU
 obtain ⟨⟨hnd,hlt⟩,hcov⟩:=oU
 have hlt':∀ i∈S++C,i<k:=fun i hi=>by have:=List.all_eq_true.1 hlt i hi;simpa using this
 rw [List.nodup_append] at hnd
 obtain ⟨wz,yR,YV⟩:=hnd
 obtain ⟨aG,⟨hfm,hX⟩,Gj,nP,hsS⟩:=Es S [] wz (fun _ _=>rfl) (fun _ _ h=>by cases h) h (fun i v hv=>by cases hv)
 simp only [lk,reduceCtorEq,exists_false,or_false] at nP
 have hks:k≤ops.toArray.size:=by
  simp only [oQ,Bool.or_eq_true,Bool.and_eq_true,decide_eq_true_eq] at fQ
  rcases fQ with h | h<;>omega
 have jR:∀ i d,lk ds i=some d→aQ ops.toArray i=some d:=fun i d h=>by rw [← hds] at h;have:=(jb ops 0 i d h).2;simpa [aQ] using this
 have inv0:HeadInv .any ops.toArray k (Array.replicate ops.toArray.size false):=
  ⟨by simp,fun j oj _ hl=>av6,fun t _ ht=>getD_in ay4 (getD_replicate_false _ _)⟩
 have zC:∀ i,i<k→(Array.replicate ops.toArray.size false).getD i true=false:=fun i hi=>getD_in ay5 (getD_replicate_false _ _)
 have hleft:leftOf k (Array.replicate ops.toArray.size false)=k:=by
  unfold leftOf
  rw [List.filter_eq_self.2]
  ·simp
  ·intro i hi
   simp only [zC i ay0,Bool.not_false]
 have VZ:∀ i d u,i<k→aQ ops.toArray i=some d→look l d=some u→lk aG i=some u:=fun i d u hi hdi hu=>by
  by_cases him:i=m
  ·subst him
   rw [hdi] at hfm
   rcases hfm with h1 | h1
   ·simp only [Option.bind_some,hu,Option.isNone_some,Bool.false_eq_true] at h1
   ·rw [h1];exact hu
  ·have h1:=wu (d:=d) _ hf (List.mem_map.2 ⟨i,List.mem_range.2 hi,by
    have:Nat.beq i m=false:=by
     cases hb:Nat.beq i m with
     | false=>rfl
     | true=>exact absurd (Nat.eq_of_beq_eq_true hb) him
    rw [this];exact hdi⟩)
   rw [h1] at hu;cases hu
 have key:=JI jR (P:=P) (n:=n) (w0:=w0) (mu:=mu) (l:=l) (hp:=hp) (h0:=h0) (all:=ops.toArray) (aG:=aG) (k:=k) (t0:=t0) (g:=ops.toArray.size - k) (Q':=QQ n w0 mu Q) (X:=fun aN hc=>Ops P n w0 mu ops.toArray (ops.drop k) (aY ds (aN++aG)++l) hc Q) hks hd VZ hback hle0
  (fun i hi hdn=>by
   have:=List.all_eq_true.1 qf i (List.mem_range.2 hi)
   rw [hdn] at this
   simp only [Option.isSome_none,Bool.false_or,Bool.or_eq_true] at this
   rcases this with h | h
   ·exact .inl (Nat.eq_of_beq_eq_true h)
   ·exact .inr h)
  (fun i v hv=>⟨hlt' i (List.mem_append_left _ ((nP i).1 ⟨v,hv⟩)),hsS i v hv⟩)
  (fun aN h listed inv hall hX a w hmid hEk=>by
   have mG:Knows n (aY ds (aN++aG)++l) a:=by
    refine ⟨hmid.size,hmid.defers,fun t v ht=>?_⟩
    rcases dW ht with ht | ⟨_,ht⟩
    ·obtain ⟨j,h1,h2⟩:=ig (gm ht)
     rcases List.mem_append.1 h1 with h1 | h1
     ·exact (hmid.jZ j v h1).2 t (jR _ _ h2)
     ·have hj:=Gj j v h1
      have hjk:=hlt' j (List.mem_append_left _ ((nP j).1 ⟨v,hj⟩))
      refine hmid.nU j v hj ?_ t (jR _ _ h2)
      have h5:=hall j hjk
      cases hcc:listed.getD j false with
      | true=>rfl
      | false=>rw [getD_in av7 hcc] at h5;cases h5
    ·exact hmid.has t v ht
   have hfin:=hX a w mG hmid.good
   simp only [oQ,Bool.or_eq_true,Bool.and_eq_true,decide_eq_true_eq] at fQ
   rcases fQ with AO | ⟨⟨⟨qY,hs⟩,hc⟩,hseq⟩
   ·have e0:ops.drop k=[]:=List.drop_eq_nil_of_le (by simp at AO;omega)
    rw [e0] at hfin
    rw [show ops.toArray.size - k=0 by omega]
    refine ⟨?_,hfin⟩
    rw [List.eq_nil_iff_forall_not_mem]
    intro i hi
    obtain ⟨hun,o,ho,_⟩:=mem_ready.1 hi
    have hi':i<k:=by rw [AO];exact (Array.getElem?_eq_some_iff.1 ho).1
    rw [hall i hi'] at hun;cases hun
   ·have hl:listed=(Array.replicate k true)++(Array.replicate (ops.toArray.size - k) false):=by
     apply Array.ext
     ·simp [inv.size];simp at qY;omega
     ·intro i h1 h2
      by_cases hi:i<k
      ·have:=hall i hi
       simp [h1] at this
       rw [Array.getElem_append_left ay0]
       simpa using this
      ·have h3:=inv.tail i au' ax'
       simp [h1] at h3
       rw [Array.getElem_append_right aw0]
       simpa using h3
    have hdl:(ops.drop k).length=ops.toArray.size - k:=by simp
    rw [← hdl]
    exact wpAny_of_seq (ops.drop k) k listed a w (fun j=>by simp) ay6 hfin)
  (fun listed inv i hi hun t ht=>by
   simp only [oQ,Bool.or_eq_true,Bool.and_eq_true,decide_eq_true_eq] at fQ
   rcases fQ with h | ⟨⟨⟨qY,hs⟩,hc⟩,hseq⟩
   ·intro hr
    obtain ⟨_,o,ho,_⟩:=mem_ready.1 hr
    have:=(Array.getElem?_eq_some_iff.1 ho).1
    omega
   ·exact tail_waits hs hc qY inv _ i rfl hi hun t ht)
  k C [] hp _ a { w with drawn:=w.drawn + 1 } hleft inv0 ⟨hk.size,hk.defers,hk.has,hG.drawn _,fun i v _ hl=>av6,fun i v hv=>by cases hv⟩ (fun i v hv=>by cases hv)
  (fun i hi=>⟨hlt' i (List.mem_append_right _ hi),zC i (hlt' i (List.mem_append_right _ hi)),by
   cases hv:lk aG i with
   | none=>rfl
   | some v=>exact absurd rfl (YV i ((nP i).1 ⟨v,hv⟩) i hi)⟩) yR dU
  (fun i hi _=>by
   have:=bV (List.all_eq_true.1 hcov i (List.mem_range.2 hi))
   rcases List.mem_append.1 this with h | h
   ·exact .inl ((nP i).2 h)
   ·exact .inr h) hle0 (fun _=>aF.refl _) hX
 have e:k + (ops.toArray.size - k)=ops.toArray.size:=by omega
 rw [e] at key
 exact key
end
section
variable {n : Nat} {w0 : World} {mu : List Nat} {l lf : Fm} {h0 hp hc : Hp} {Q : Exit → Fm → Hp → Prop} {all : Array Oper} {aG iv aN : Fm} {k t0 i d : Nat} {ds : List (Nat × Nat)} {S r : List Nat} {X : Fm → Prop} {Y : Fm → Hp → Prop} {op : Op} {ty : TypeId} {pos : String} {af : Array Edge} {v : Value}
theorem XR {id:Nat} {ops tl:List Oper} (k t0 m:Nat) (S C:List Nat) (h0:Hp) (h:DS Tryz.prog n w0 mu ops.toArray ds l h0 hp t0 (fun aG=>(((aQ ops.toArray m).bind (look l)).isNone=true∨lk aG m=(aQ ops.toArray m).bind (look l))∧fA Tryz.prog n w0 mu ops.toArray ds l h0 aG (fun aN hc=>Ops Tryz.prog n w0 mu ops.toArray tl (aY ds (aN++aG)++l) hc Q) C [] hp) S [])
  (hle0:aF h0 hp:=by (exact ak)) (hds:bP ops 0=ds:=by (simp only [bP,Nat.reduceAdd,Nat.zero_add];rfl)) (htl:ops.drop k=tl:=by (simp only [List.drop_succ_cons,List.drop_zero,List.drop_nil];rfl)) (hm:Tryz.prog.follows .mixedOrders=true:=by kernel_rfl) (hB:yQ ops.toArray n k t0 S C=true:=by decide +kernel) (hf:bu l ((List.range k).map fun i=>bif Nat.beq i m then none else aQ ops.toArray i)=true:=by rfl):St Tryz.prog n w0 mu (.region id ops.toArray true) l hp Q:=
 qX hm (NQ k t0 m S C h0 hB hf hle0 hds az7)
end
end
section
attribute [local irreducible] Hy St Ops DH gB iH iq fK DS fA jX
theorem HY {fn:Func} {R:Value→Hp→Prop} {l:Fm} {hp:Hp} {s0 s2 s3 a t b a2 t2 b2:Nat} {cs cs2:Array Value} {tb tb2:TypeId} {v v2 v3:Value} (h:R (.tuple #[v,.agg cs,.agg cs2,v2,v3]) hp) (hr:fn.results=#[.tmp s0,.cell a t,.cell a2 t2,.tmp s2,.tmp s3]:=by rfl) (h0:look l s0=some v:=by rfl) (hv:look l a=some (.pointer (some ⟨b,0,none⟩)):=by rfl) (hw:look l a2=some (.pointer (some ⟨b2,0,none⟩)):=by rfl) (h3:look l s2=some v2:=by rfl) (h4:look l s3=some v3:=by rfl) (hag:mem Tb.ag t=true:=by rfl) (hm:(⟨b,cs,tb⟩:aI)∈hp:=by (first | (with_reducible apply mh) | (focus ((repeat (first | (with_reducible apply mh) | (with_reducible apply mt) | (with_reducible apply List.mem_append_right)));done)))) (hz:lk Tb.sz t=some cs.size:=by rfl) (wF:mem Tb.ag t2=true:=by rfl) (hm2:(⟨b2,cs2,tb2⟩:aI)∈hp:=by (first | (with_reducible apply mh) | (focus ((repeat (first | (with_reducible apply mh) | (with_reducible apply mt) | (with_reducible apply List.mem_append_right)));done)))) (hz2:lk Tb.sz t2=some cs2.size:=by rfl):Fin Tryz.prog fn R .ret l hp:=
 ⟨.inl rfl,[v,.agg cs,.agg cs2,v2,v3],by rw [hr];exact ⟨h0,⟨⟨b,cs,tb⟩,hm,hv,.inr ⟨ay.zH hag,ay.tH hz,rfl⟩⟩,⟨⟨b2,cs2,tb2⟩,hm2,hw,.inr ⟨ay.zH wF,ay.tH hz2,rfl⟩⟩,h3,h4,trivial⟩,h⟩
theorem UY (ws:List Nat) (hw:tu ws) (hwl:ws.length<1000000) (cap:Nat) (hcc:ws.length≤cap) {p:Option Addr} {w:World} (es:List bg) (ds:List dB) (pk:vg) (one two:bQ) (page acc:Int) {ev dv:Value} (hm:aB w (.slice p ws.length cap) 1 (ws.map uV)) (he:aB w ev 14 (es.map bI)) (hd:aB w dv 4 (ds.map dJ)) (hcap:∃ q c,ev=.slice q es.length c∧es.length≤c) (hel:es.length<1000000) (hdl:ds.length<1000000):
  Fn Tryz.prog 106 [.agg #[.slice p ws.length cap],.agg #[ev,dv],.agg (iK one).toArray,.agg (iK two).toArray,.int .i64 page,.int .i64 acc,.agg (mM pk).toArray].toArray w [] (fun u hn=>(wI ws.length es ds one two page acc=true→∃ (ev' rZ rv':Value) (he' hd' hr':Hp),u=.tuple #[.int .i64 (nX ⟨ws,one,two,pk,page.toNat,acc⟩ es).n,xZ (nX ⟨ws,one,two,pk,page.toNat,acc⟩ es).f,.agg #[ev',rZ],rv',.int .i64 0]∧Own 114 14 ev' he' ((nX ⟨ws,one,two,pk,page.toNat,acc⟩ es).s.es.map bI)∧Own 121 4 rZ hd' (ds.map dJ)∧Own 3 1 rv' hr' ((nX ⟨ws,one,two,pk,page.toNat,acc⟩ es).s.rd.map dH)∧aF (he'++hd'++hr') hn)∧(wI ws.length es ds one two page acc=false→u=.tuple #[.int .i64 0,xZ jQ,.agg #[.slice none 0 0,.slice none 0 0],.slice none 0 0,.int .i64 1])):=by
 obtain ⟨qe,ce,rfl,hlc⟩:=hcap
 obtain ⟨qd,cd,rfl,_⟩:=hd.opened
 refine enter Tryz.func106 ?_
 refine G5 ?_
 intro B1 B2 B3 B4 B5 B6 B7
 refine EI #[.slice p ws.length cap,.slice qe es.length ce,.slice qd ds.length cd,.int .i64 pk.cpu,.bool pk.fill,.bool pk.aO,.bool pk.walk,.int .i64 pk.drop,.bool pk.use,.bool one.on,.int .i64 one.frame,.int .i64 one.tag,.bool two.on,.int .i64 two.frame,.int .i64 two.tag,.int .i64 page,.int .i64 acc,.slice none 0 0] ?_
 refine run ?_
 intro Wb
 refine dK [⟨Wb,#[.slice p ws.length cap,.slice qe es.length ce,.slice qd ds.length cd,.int .i64 pk.cpu,.bool pk.fill,.bool pk.aO,.bool pk.walk,.int .i64 pk.drop,.bool pk.use,.bool one.on,.int .i64 one.frame,.int .i64 one.tag,.bool two.on,.int .i64 two.frame,.int .i64 two.tag,.int .i64 page,.int .i64 acc,.slice none 0 0],194⟩] (⟨B7,#[.slice none 0 0,.slice none 0 0],77⟩::⟨B6,#[.int .i64 0,.int .i64 0,.int .i64 0,.bool false,.int .i64 0],43⟩::⟨B5,(mM pk).toArray,51⟩::⟨B4,(iK two).toArray,33⟩::⟨B3,(iK one).toArray,33⟩::⟨B2,#[.slice qe es.length ce,.slice qd ds.length cd],77⟩::⟨B1,#[.slice p ws.length cap],24⟩::[]) (fun wc hG=>UX ws hwl cap hcc es ds pk one two page acc ((dP.old he).into hG) ((dP.old hd).into hG) ⟨_,_,rfl,hlc⟩ hel hG.dG) ?_ au
 rintro _ hn1 ⟨rfl,hle1⟩
 refine aJ (⟨Wb,#[.slice p ws.length cap,.slice qe es.length ce,.slice qd ds.length cd,.int .i64 pk.cpu,.bool pk.fill,.bool pk.aO,.bool pk.walk,.int .i64 pk.drop,.bool pk.use,.bool one.on,.int .i64 one.frame,.int .i64 one.tag,.bool two.on,.int .i64 two.frame,.int .i64 two.tag,.int .i64 page,.int .i64 acc,.slice none 0 0],194⟩::⟨B7,#[.slice none 0 0,.slice none 0 0],77⟩::⟨B6,#[.int .i64 0,.int .i64 0,.int .i64 0,.bool false,.int .i64 0],43⟩::⟨B5,(mM pk).toArray,51⟩::⟨B4,(iK two).toArray,33⟩::⟨B3,(iK one).toArray,33⟩::⟨B2,#[.slice qe es.length ce,.slice qd ds.length cd],77⟩::⟨B1,#[.slice p ws.length cap],24⟩::[]) (cnt1 hle1) ?_
 refine run ?_
 refine aj _ rfl (fun hc=>?_) (fun hc=>?_)
 ·have hf:wI ws.length es ds one two page acc=false:=by simpa using hc
  rw [hf]
  refine run ?_
  refine iw 14 ?_
  refine iw 17 ?_
  refine iw 18 ?_
  refine dN 7 3 [0,1,2] [3,4,5,6] (⟨Wb,#[.slice p ws.length cap,.slice qe es.length ce,.slice qd ds.length cd,.int .i64 pk.cpu,.bool pk.fill,.bool pk.aO,.bool pk.walk,.int .i64 pk.drop,.bool pk.use,.bool one.on,.int .i64 one.frame,.int .i64 one.tag,.bool two.on,.int .i64 two.frame,.int .i64 two.tag,.int .i64 page,.int .i64 acc,.slice none 0 0],194⟩::⟨B7,#[.slice none 0 0,.slice none 0 0],77⟩::⟨B6,#[.int .i64 0,.int .i64 0,.int .i64 0,.bool false,.int .i64 0],43⟩::⟨B5,(mM pk).toArray,51⟩::⟨B4,(iK two).toArray,33⟩::⟨B3,(iK one).toArray,33⟩::⟨B2,#[.slice qe es.length ce,.slice qd ds.length cd],77⟩::⟨B1,#[.slice p ws.length cap],24⟩::[]) ?_
  refine dh ?_
  refine cSame ?_
  refine cSame ?_
  refine sV (fun hx=>eY rfl) ?_
  refine sV (fun hx=>eY rfl) ?_
  refine aH ?_
  refine di ?_
  refine run ?_
  exact HY (v:=.int .i64 0) (v2:=.slice none 0 0) (v3:=.int .i64 1) (cs:=#[.int .i64 0,.int .i64 0,.int .i64 0,.bool false,.int .i64 0]) (cs2:=#[.slice none 0 0,.slice none 0 0]) ⟨fun h=>(by cases h),fun _=>rfl⟩
 have hf:wI ws.length es ds one two page acc=true:=by simpa using hc
 have hpg:PtD.bY page 0 4095=true:=by
  simp only [wI,Bool.and_eq_true] at hf
  exact hf.1.1.2
 have hac:PtD.bY acc 0 2=true:=by
  simp only [wI,Bool.and_eq_true] at hf
  exact hf.1.2
 obtain ⟨c,hws,hone,ah1,hpk,ZI,hacc⟩:∃ c:kW,ws=c.ws∧one=c.one∧two=c.two∧pk=c.pk∧page=(c.page:Int)∧acc=c.acc:=⟨⟨ws,one,two,pk,page.toNat,acc⟩,rfl,rfl,rfl,rfl,by simp only [PtD.bY,Bool.and_eq_true,decide_eq_true_eq] at hpg;dsimp only;omega,rfl⟩
 subst hws hone ah1 hpk ZI hacc
 obtain ⟨hk,hE,_,_⟩:=UH hw hf
 rw [hf,Int.toNat_natCast]
 have hco:(⟨c.ws,c.one,c.two,c.pk,c.page,c.acc⟩:kW)=c:=rfl
 rw [hco]
 refine run ?_
 refine gX (fun wc hG=>oL es ds _ _ ((dP.old he).good hG) ((dP.old hd).good hG) hel hdl) ?_
 rintro _ hn2 ⟨v1,h1,v2,h2,rfl,hA1,hA2,hle2⟩
 obtain ⟨q1,c1,e1⟩:=hA1.opened
 obtain ⟨q2,c2,e2⟩:=hA2.opened
 rw [List.length_map] at e1 e2
 subst e1 e2
 refine aJ (⟨Wb,#[.slice p c.ws.length cap,.slice qe es.length ce,.slice qd ds.length cd,.int .i64 c.pk.cpu,.bool c.pk.fill,.bool c.pk.aO,.bool c.pk.walk,.int .i64 c.pk.drop,.bool c.pk.use,.bool c.one.on,.int .i64 c.one.frame,.int .i64 c.one.tag,.bool c.two.on,.int .i64 c.two.frame,.int .i64 c.two.tag,.int .i64 (c.page:Int),.int .i64 c.acc,.slice none 0 0],194⟩::((h1++h2)++⟨B7,#[.slice none 0 0,.slice none 0 0],77⟩::⟨B6,#[.int .i64 0,.int .i64 0,.int .i64 0,.bool false,.int .i64 0],43⟩::⟨B5,(mM c.pk).toArray,51⟩::⟨B4,(iK c.two).toArray,33⟩::⟨B3,(iK c.one).toArray,33⟩::⟨B2,#[.slice qe es.length ce,.slice qd ds.length cd],77⟩::⟨B1,#[.slice p c.ws.length cap],24⟩::[])) (cnt1 hle2) ?_
 refine run ?_
 refine gX (fun wc hG=>UW ((dP.old he).good hG) ((dP.old hd).good hG) ⟨_,_,rfl,hlc⟩ hE.vI c.pk.drop) ?_
 rintro _ hn3 ⟨v3,h3,v4,h4,rfl,hD1,hD2,hle3⟩
 have hE':=zZ hE c.pk.drop
 have hAc:nX c es=lX c (kN es c.pk.drop):=rfl
 rw [hAc]
 obtain ⟨DB,hDB⟩:∃ DB,DB=(decide (0≤c.pk.drop) && decide (c.pk.drop<(es.length:Int))):=⟨_,rfl⟩
 rw [← hDB] at hD1 hD2
 obtain ⟨q3,n3,c3,q4,n4,c4,e3,e4⟩:∃ q3 n3 c3 q4 n4 c4,v3=.slice q3 n3 c3∧v4=.slice q4 n4 c4:=by
  cases DB with
  | true=>
   obtain ⟨g1,g2⟩:=hD1 rfl
   obtain ⟨q3,c3,e3⟩:=g1.opened
   obtain ⟨q4,c4,e4⟩:=g2.opened
   exact ⟨_,_,_,_,_,_,e3,e4⟩
  | false=>
   obtain ⟨e3,e4⟩:=hD2 rfl
   exact ⟨_,_,_,_,_,_,e3,e4⟩
 subst e3 e4
 refine aJ (⟨Wb,#[.slice p c.ws.length cap,.slice q1 es.length c1,.slice q2 ds.length c2,.int .i64 c.pk.cpu,.bool c.pk.fill,.bool c.pk.aO,.bool c.pk.walk,.int .i64 c.pk.drop,.bool c.pk.use,.bool c.one.on,.int .i64 c.one.frame,.int .i64 c.one.tag,.bool c.two.on,.int .i64 c.two.frame,.int .i64 c.two.tag,.int .i64 (c.page:Int),.int .i64 c.acc,.slice none 0 0],194⟩::((h3++h4)++((h1++h2)++⟨B7,#[.slice none 0 0,.slice none 0 0],77⟩::⟨B6,#[.int .i64 0,.int .i64 0,.int .i64 0,.bool false,.int .i64 0],43⟩::⟨B5,(mM c.pk).toArray,51⟩::⟨B4,(iK c.two).toArray,33⟩::⟨B3,(iK c.one).toArray,33⟩::⟨B2,#[.slice qe es.length ce,.slice qd ds.length cd],77⟩::⟨B1,#[.slice p c.ws.length cap],24⟩::[]))) (cnt1 hle3) ?_
 rw [← hDB]
 refine run ?_
 intro Y
 refine dX (σ:=Value × Value × Hp × Hp) (fun _=>[]) (fun z=>⟨Wb,#[.slice p c.ws.length cap,z.1,z.2.1,.int .i64 c.pk.cpu,.bool c.pk.fill,.bool c.pk.aO,.bool c.pk.walk,.int .i64 c.pk.drop,.bool c.pk.use,.bool c.one.on,.int .i64 c.one.frame,.int .i64 c.one.tag,.bool c.two.on,.int .i64 c.two.frame,.int .i64 c.two.tag,.int .i64 (c.page:Int),.int .i64 c.acc,.slice none 0 0],194⟩::((z.2.2.1++z.2.2.2)++⟨B7,#[.slice none 0 0,.slice none 0 0],77⟩::⟨B6,#[.int .i64 0,.int .i64 0,.int .i64 0,.bool false,.int .i64 0],43⟩::⟨B5,(mM c.pk).toArray,51⟩::⟨B4,(iK c.two).toArray,33⟩::⟨B3,(iK c.one).toArray,33⟩::⟨B2,#[.slice qe es.length ce,.slice qd ds.length cd],77⟩::⟨B1,#[.slice p c.ws.length cap],24⟩::[])) (fun z=>Own 114 14 z.1 z.2.2.1 ((kN es c.pk.drop).map bI)∧Own 121 4 z.2.1 z.2.2.2 (ds.map dJ)) ?_ ?_
 ·refine aj _ rfl (fun hc3=>?_) (fun hc3=>?_)
  ·have hDt:DB=true:=by cases DB with
    | true=>rfl
    | false=>simp at hc3
   obtain ⟨g1,g2⟩:=hD1 hDt
   refine run ?_
   exact dA (.slice q3 n3 c3,.slice q4 n4 c4,h3,h4) ⟨g1,g2⟩ (h2:=by (exact ak))
  ·have hDf:DB=false:=by cases DB with
    | true=>simp at hc3
    | false=>rfl
   have hdr:kN es c.pk.drop=es:=by unfold kN;rw [← hDB,hDf];rfl
   refine run ?_
   exact dA (.slice q1 es.length c1,.slice q2 ds.length c2,h1,h2) ⟨by rw [hdr];exact hA1,hA2⟩ (h2:=by (exact ak))
 rintro ⟨ev1,o6,he1,hd1⟩ ⟨g1,g2⟩
 dsimp only at g1 g2 ⊢
 refine run ?_
 refine dK (⟨Wb,#[.slice p c.ws.length cap,ev1,o6,.int .i64 c.pk.cpu,.bool c.pk.fill,.bool c.pk.aO,.bool c.pk.walk,.int .i64 c.pk.drop,.bool c.pk.use,.bool c.one.on,.int .i64 c.one.frame,.int .i64 c.one.tag,.bool c.two.on,.int .i64 c.two.frame,.int .i64 c.two.tag,.int .i64 (c.page:Int),.int .i64 c.acc,.slice none 0 0],194⟩::(he1++hd1++[])) (⟨B7,#[.slice none 0 0,.slice none 0 0],77⟩::⟨B6,#[.int .i64 0,.int .i64 0,.int .i64 0,.bool false,.int .i64 0],43⟩::⟨B5,(mM c.pk).toArray,51⟩::⟨B4,(iK c.two).toArray,33⟩::⟨B3,(iK c.one).toArray,33⟩::⟨B2,#[.slice qe es.length ce,.slice qd ds.length cd],77⟩::⟨B1,#[.slice p c.ws.length cap],24⟩::[]) (fun wc hG=>NP c hk cap hcc (kN es c.pk.drop) ds hE' hac ((dP.old hm).into hG) g1 g2 (Own.nil _ _) hG.dG) ?_ au
 rintro u5 Sm ⟨wM,yY,E8,he2,hd2,hr2,rfl,h12,h22,h32,wH⟩
 simp only [vJ] at wH
 generalize lX c (kN es c.pk.drop)=X at h12 h32 ⊢
 obtain ⟨q5,c5,e5⟩:=h12.opened
 obtain ⟨q6,c6,e6⟩:=h22.opened
 obtain ⟨q7,c7,e7⟩:=h32.opened
 rw [List.length_map] at e5 e6 e7
 subst e5 e6 e7
 refine aJ (⟨Wb,#[.slice p c.ws.length cap,.slice q5 X.s.es.length c5,.slice q6 ds.length c6,.int .i64 c.pk.cpu,.bool c.pk.fill,.bool c.pk.aO,.bool c.pk.walk,.int .i64 c.pk.drop,.bool c.pk.use,.bool c.one.on,.int .i64 c.one.frame,.int .i64 c.one.tag,.bool c.two.on,.int .i64 c.two.frame,.int .i64 c.two.tag,.int .i64 (c.page:Int),.int .i64 c.acc,.slice q7 X.s.rd.length c7],194⟩::⟨B7,#[.slice none 0 0,.slice none 0 0],77⟩::⟨B6,#[.int .i64 0,.int .i64 0,.int .i64 0,.bool false,.int .i64 0],43⟩::⟨B5,(mM c.pk).toArray,51⟩::⟨B4,(iK c.two).toArray,33⟩::⟨B3,(iK c.one).toArray,33⟩::⟨B2,#[.slice qe es.length ce,.slice qd ds.length cd],77⟩::⟨B1,#[.slice p c.ws.length cap],24⟩::(he2++hd2++hr2)) (cnt1 wH) ?_
 refine run ?_
 refine iw 17 ?_
 refine iw 18 ?_
 refine XR 15 11 10 [0,1,2,3,4,5,6,7,8,9,10] [11,12,13,14] (⟨B6,#[.int .i64 X.f.kind,.int .i64 X.f.stage,.int .i64 X.f.level,.bool X.f.walk,.int .i64 X.f.page],43⟩::⟨Wb,#[.slice p c.ws.length cap,.slice q5 X.s.es.length c5,.slice q6 ds.length c6,.int .i64 c.pk.cpu,.bool c.pk.fill,.bool c.pk.aO,.bool c.pk.walk,.int .i64 c.pk.drop,.bool c.pk.use,.bool c.one.on,.int .i64 c.one.frame,.int .i64 c.one.tag,.bool c.two.on,.int .i64 c.two.frame,.int .i64 c.two.tag,.int .i64 (c.page:Int),.int .i64 c.acc,.slice q7 X.s.rd.length c7],194⟩::⟨B5,(mM c.pk).toArray,51⟩::⟨B4,(iK c.two).toArray,33⟩::⟨B3,(iK c.one).toArray,33⟩::⟨B2,#[.slice qe es.length ce,.slice qd ds.length cd],77⟩::⟨B1,#[.slice p c.ws.length cap],24⟩::(he2++hd2++hr2)) ?_
 refine dh ?_
 refine ⟨.inr rfl,?_⟩
 refine cSame (b:=B6) (tb:=43) (cs:=#[.int .i64 X.f.kind,.int .i64 X.f.stage,.int .i64 X.f.level,.bool X.f.walk,.int .i64 X.f.page]) ?_
 refine aV (b:=B7) (tb:=77) (cs:=#[.slice none 0 0,.slice none 0 0]) (cs':=#[.slice q5 X.s.es.length c5,.slice q6 ds.length c6]) (hp':=⟨B6,#[.int .i64 X.f.kind,.int .i64 X.f.stage,.int .i64 X.f.level,.bool X.f.walk,.int .i64 X.f.page],43⟩::⟨Wb,#[.slice p c.ws.length cap,.slice q5 X.s.es.length c5,.slice q6 ds.length c6,.int .i64 c.pk.cpu,.bool c.pk.fill,.bool c.pk.aO,.bool c.pk.walk,.int .i64 c.pk.drop,.bool c.pk.use,.bool c.one.on,.int .i64 c.one.frame,.int .i64 c.one.tag,.bool c.two.on,.int .i64 c.two.frame,.int .i64 c.two.tag,.int .i64 (c.page:Int),.int .i64 c.acc,.slice q7 X.s.rd.length c7],194⟩::⟨B5,(mM c.pk).toArray,51⟩::⟨B4,(iK c.two).toArray,33⟩::⟨B3,(iK c.one).toArray,33⟩::⟨B2,#[.slice qe es.length ce,.slice qd ds.length cd],77⟩::⟨B1,#[.slice p c.ws.length cap],24⟩::(he2++hd2++hr2)) ?_ au
 refine sV (fun hx=>eY rfl) ?_
 refine sV (fun hx=>eY rfl) ?_
 refine aH ?_
 refine di ?_
 refine run ?_
 exact HY (v:=.int .i64 X.n) (v2:=.slice q7 X.s.rd.length c7) (v3:=.int .i64 0) (cs:=#[.int .i64 X.f.kind,.int .i64 X.f.stage,.int .i64 X.f.level,.bool X.f.walk,.int .i64 X.f.page]) (cs2:=#[.slice q5 X.s.es.length c5,.slice q6 ds.length c6]) ⟨fun _=>⟨_,_,_,he2,hd2,hr2,rfl,h12,h22,h32,by (exact ak)⟩,fun h=>by cases h⟩
def ji (ws:List Nat) (at_ size:Nat):Nat:=aT (ws.getD (at_ / 8) default) (at_ % 8 * 8) (8 * size)
def ZJ (w sh size v:Nat):Nat:=(w &&& (18446744073709551615 - (iy (8 * size) <<< sh) % 18446744073709551616)) ||| (((v &&& iy (8 * size)) <<< sh) % 18446744073709551616)
def gJ (ws:List Nat) (at_ size v:Nat):List Nat:=ws.set (at_ / 8) (ZJ (ws.getD (at_ / 8) default) (at_ % 8 * 8) size v)
structure yh (ws:List Nat) (at_ size:Nat):Prop where
 ok:tu ws
 le:ws.length≤512
 fr:ws.length % 8=0
 lt:at_<8 * ws.length
 sz:size=1∨size=2∨size=4∨size=8
 al:at_ % size=0
theorem yh.mem {ws:List Nat} {at_ size:Nat} (h:yh ws at_ size):dQ ws.length=true:=by
 obtain ⟨h1,h2,h3,h4,h5,h6⟩:=h
 unfold dQ
 simp
 omega
theorem JJ (size:Nat) (h:size=1∨size=2∨size=4∨size=8) (w:World):Fn Tryz.prog 109 [.int .i64 (size:Nat)].toArray w [] (fun u _=>u=.int .u64 (iy (8 * size):Nat)):=by
 refine enter Tryz.func109 ?_
 refine run ?_
 refine eH av2 (uw rfl rfl 18446744073709551615 (64 - 8 * size) rfl au' au') ?_
 refine run ?_
 exact fin1 rfl
theorem DD (ws:List Nat) (at_ size:Nat) (h:yh ws at_ size) (p:Option Addr) (cap:Nat) (w:World):Fn Tryz.prog 108 [.agg #[.slice p ws.length cap],.int .i64 (at_:Nat),.int .i64 (size:Nat)].toArray w [] (fun u _=>u=.int .i64 0):=by
 have hk:=h.mem
 obtain ⟨h1,h2,h3,h4,h5,h6⟩:=id h
 refine enter Tryz.func108 ?_
 refine run ?_
 intro B
 refine run ?_
 refine ax (fun wc hG=>Jm ws.length cap au' p wc) ?_
 rw [hk]
 refine az ?_
 refine aj _ rfl (fun hc=>absurd hc (by rcases h5 with rfl | rfl | rfl | rfl<;>simp)) (fun _=>?_)
 refine az ?_
 refine aj _ rfl (fun hc=>absurd hc aw0) (fun _=>?_)
 refine az ?_
 refine eH av2 (fP rfl rfl at_ size rfl rfl au') ?_
 rw [h6]
 refine aX ?_
 exact fin1 rfl
theorem Lc (ws:List Nat) (at_ size:Nat) (h:yh ws at_ size) {w:World} {p:Option Addr} {cap:Nat} (hm:aB w (.slice p ws.length cap) 1 (ws.map uV)):Fn Tryz.prog 70 [.agg #[.slice p ws.length cap],.int .i64 (at_:Nat),.int .i64 (size:Nat)].toArray w [] (fun u _=>u=.tuple #[.int .u64 (ji ws at_ size:Nat),.int .i64 0]):=by
 obtain ⟨h1,h2,h3,h4,h5,h6⟩:=id h
 have hlt:at_ / 8<ws.length:=by omega
 have hv:ws.getD (at_ / 8) default<18446744073709551616:=h1.at _
 obtain ⟨q,c',e,hne,_⟩:=hm.opened
 obtain ⟨b,o,rfl⟩:=hne av5
 cases e
 have hr:=cZ (hm.row hlt)
 simp only [uV,Nat.mul_one] at hr
 refine enter Tryz.func70 ?_
 refine run ?_
 intro B
 refine run ?_
 refine ax (fun wc hG=>DD ws at_ size h _ _ wc) ?_
 refine aX ?_
 refine iV 13 ?_
 refine cu ?_
 refine qo (lK rfl rfl at_ 8 rfl rfl av1 au') ?_
 refine cu ?_
 refine qo (fP rfl rfl at_ 8 rfl rfl av1) ?_
 refine cu ?_
 refine qo (uw rfl rfl (ws.getD (at_ / 8) default) (at_ % 8 * 8) rfl au' au') ?_
 refine cu ?_
 refine jY (fun wc hG=>JJ size h5 wc) ?_
 refine qo (kT rfl rfl (ws.getD (at_ / 8) default >>> (at_ % 8 * 8)) (iy (8 * size)) rfl rfl (GI hv) (rG _)) ?_
 refine cu ?_
 refine run ?_
 exact fin2 rfl
theorem Ld (ws:List Nat) (at_ size:Nat) (h:yh ws at_ size) {w:World} {p:Option Addr} {cap:Nat} (hm:aB w (.slice p ws.length cap) 1 (ws.map uV)):Fn Tryz.prog 32 [.agg #[.slice p ws.length cap],.int .i64 (at_:Nat),.int .i64 (size:Nat)].toArray w [] (fun u _=>u=.int .u64 (ji ws at_ size:Nat)):=by
 obtain ⟨h1,h2,h3,h4,h5,h6⟩:=id h
 have hlt:at_ / 8<ws.length:=by omega
 have hv:ws.getD (at_ / 8) default<18446744073709551616:=h1.at _
 obtain ⟨q,c',e,hne,_⟩:=hm.opened
 obtain ⟨b,o,rfl⟩:=hne av5
 cases e
 have hr:=cZ (hm.row hlt)
 simp only [uV,Nat.mul_one] at hr
 refine enter Tryz.func32 ?_
 refine run ?_
 intro B
 refine run ?_
 refine eH av2 (lK rfl rfl at_ 8 rfl rfl av1 au') ?_
 refine run ?_
 refine eH av2 (fP rfl rfl at_ 8 rfl rfl av1) ?_
 refine run ?_
 rw [show ((at_ % 8:Nat):Int) * 8=((at_ % 8 * 8:Nat):Int) by omega,show (8:Int) * (size:Int)=((8 * size:Nat):Int) by omega]
 refine ax (fun wc hG=>oW (ws.getD (at_ / 8) default) (at_ % 8 * 8) (8 * size) au' au' hv wc) ?_
 refine run ?_
 exact fin1 rfl
theorem Own.ZK {e:Nat} {v:Value} {h:Hp} {xs:List Nat} (hA:Own e 1 v h (xs.map uV)) {k:Nat} (hk:k<xs.length):∃ g cap cur,v=.slice (some ⟨g,0,none⟩) xs.length cap∧h=[⟨g,cur,e⟩]∧nth cur.toList k=some (.int .u64 (xs.getD k default:Nat))∧k + 1≤cur.size ∧
  ∀ z:Nat,Own e 1 (.slice (some ⟨g,0,none⟩) xs.length cap) [⟨g,cur.setIfInBounds k (.int .u64 (z:Int)),e⟩] ((xs.set k z).map uV):=by
 have h0:=hA
 obtain ⟨g,cap,cur,rfl,rfl,hs,hz⟩:=hA.TU hk
 obtain ⟨g',cap',cur',e1,e2,hr⟩:=h0.row (n:=xs.length) av4 au'
 injection e2 with e2
 injection e2 with _ e2
 subst e2
 have hall:∀ c∈xs.map uV,c.length=1:=by
  intro c hc
  obtain ⟨x,_,rfl⟩:=List.mem_map.1 hc
  rfl
 have hi:(xs.map uV)[k]?=some (uV (xs.getD k default)):=by
  rw [List.getElem?_map,List.getD_eq_getElem?_getD,List.getElem?_eq_getElem hk];rfl
 have h1:=hr.nth hall hi (k:=0) rfl
 rw [Nat.mul_one,Nat.add_zero] at h1
 exact ⟨g,cap,cur,rfl,rfl,h1,hs,hz⟩
theorem yj (xs:List Nat):∀ c∈xs.map uV,c.length=1∧c.all (·.oneCell')=true:=by
 intro c hc
 obtain ⟨x,_,rfl⟩:=List.mem_map.1 hc
 exact ⟨rfl,rfl⟩
theorem NR (ws:List Nat) (hl:ws.length<1000000) {w:World} {v:Value} (hm:aB w v 1 (ws.map uV)):Fn Tryz.prog 144 [.agg #[v]].toArray w [] (fun u hn=>∃ v' h',u=.agg #[v']∧Own 25 1 v' h' (ws.map uV)∧aF h' hn):=by
 obtain ⟨q,cap,rfl,_⟩:=id hm.opened
 refine enter Tryz.func144 ?_
 refine run ?_
 intro B
 refine run ?_
 intro X
 refine gX (fun wc hG=>rM _ (ws.map uV) (hm.good hG) (yj ws) (by simpa using hl)) ?_
 intro u hn hO
 obtain ⟨q2,c2,e2⟩:=hO.opened
 subst e2
 refine aJ (⟨X,#[.slice none 0 0],152⟩::⟨B,#[.slice q ws.length cap],24⟩::hn) ak ?_
 refine run ?_
 refine gK ?_
 exact ⟨_,hn,rfl,hO,by (exact ak)⟩
theorem XT (v a n x:Nat) (hn:n≤64) (ha:a≤64) (hv:v<18446744073709551616) (hx:x<18446744073709551616) (w:World):Fn Tryz.prog 94 [.int .u64 (v:Nat),.agg #[.int .i64 (a:Nat),.int .i64 (n:Nat),.int .u64 (x:Nat)]].toArray w [] (fun u _=>u=.int .u64 (((v &&& (18446744073709551615 - (iy n <<< a) % 18446744073709551616)) ||| ((x <<< a) % 18446744073709551616):Nat):Int)):=by
 refine enter Tryz.func94 ?_
 refine run ?_
 intro B
 refine run ?_
 refine iV 14 ?_
 refine cu ?_
 refine jY (fun wc hG=>xN n hn wc) ?_
 refine cu ?_
 refine qo (mF rfl rfl (iy n) a rfl rfl au') ?_
 refine qo (oI rfl rfl v ((iy n <<< a) % 18446744073709551616) rfl rfl hv (Nat.mod_lt _ av1)) ?_
 refine cu ?_
 refine qo (mF rfl rfl x a rfl rfl au') ?_
 refine qo (uu rfl rfl (v &&& (18446744073709551615 - (iy n <<< a) % 18446744073709551616)) ((x <<< a) % 18446744073709551616) rfl rfl (Nat.lt_of_le_of_lt Nat.and_le_left hv) (Nat.mod_lt _ av1)) ?_
 refine cu ?_
 refine run ?_
 exact fin1 rfl
theorem Rj (ws:List Nat) (at_ size v:Nat) (h:yh ws at_ size) (hv0:gq v) {w:World} {p:Option Addr} {cap:Nat} (hm:aB w (.slice p ws.length cap) 1 (ws.map uV)):Fn Tryz.prog 115 [.agg #[.slice p ws.length cap],.int .i64 (at_:Nat),.int .i64 (size:Nat),.int .u64 (v:Nat)].toArray w [] (fun u hn=>∃ v' h',u=.tuple #[.agg #[v'],.int .i64 0]∧Own 25 1 v' h' ((gJ ws at_ size v).map uV)∧aF h' hn):=by
 obtain ⟨h1,h2,h3,h4,h5,h6⟩:=id h
 have hlt:at_ / 8<ws.length:=by omega
 have hv:ws.getD (at_ / 8) default<18446744073709551616:=h1.at _
 refine enter Tryz.func115 ?_
 refine run ?_
 intro B X
 refine run ?_
 refine ax (fun wc hG=>DD ws at_ size h _ _ wc) ?_
 refine aX ?_
 refine gX (fun wc hG=>NR ws au' (hm.good hG)) ?_
 rintro u hn ⟨v',h',rfl,hO,hle⟩
 obtain ⟨g,cap2,cur,rfl,rfl,qM,hsz,hset⟩:=hO.ZK hlt
 refine aJ (⟨g,cur,25⟩::⟨X,#[.slice none 0 0],24⟩::⟨B,#[.slice p ws.length cap],24⟩::[]) (cnt1 hle) ?_
 refine run ?_
 refine eH av2 (fP rfl rfl at_ 8 rfl rfl av1) ?_
 refine run ?_
 intro Y
 refine run ?_
 refine iV 24 ?_
 refine cu ?_
 refine qo (lK rfl rfl at_ 8 rfl rfl av1 au') ?_
 refine cu ?_
 refine qo (lK rfl rfl at_ 8 rfl rfl av1 au') ?_
 refine cu ?_
 refine jY (fun wc hG=>JJ size h5 wc) ?_
 refine cu ?_
 refine qo (mF rfl rfl (iy (8 * size)) (at_ % 8 * 8) rfl au' au') ?_
 refine qo (oI rfl rfl (ws.getD (at_ / 8) default) ((iy (8 * size) <<< (at_ % 8 * 8)) % 18446744073709551616) rfl rfl hv (Nat.mod_lt _ av1)) ?_
 refine cu ?_
 refine jY (fun wc hG=>JJ size h5 wc) ?_
 refine qo (kT rfl rfl v (iy (8 * size)) rfl rfl hv0 (rG _)) ?_
 refine cu ?_
 refine qo (mF rfl rfl (v &&& iy (8 * size)) (at_ % 8 * 8) rfl au' au') ?_
 refine qo (uu rfl rfl (ws.getD (at_ / 8) default &&& (18446744073709551615 - (iy (8 * size) <<< (at_ % 8 * 8)) % 18446744073709551616)) (((v &&& iy (8 * size)) <<< (at_ % 8 * 8)) % 18446744073709551616) rfl rfl (Nat.lt_of_le_of_lt Nat.and_le_left hv) (Nat.mod_lt _ av1)) ?_
 refine cu ?_
 refine run ?_
 refine gG ?_
 exact ⟨_,_,rfl,hset ((ws.getD (at_ / 8) default &&& (18446744073709551615 - (iy (8 * size) <<< (at_ % 8 * 8)) % 18446744073709551616)) ||| (((v &&& iy (8 * size)) <<< (at_ % 8 * 8)) % 18446744073709551616)),by (exact ak)⟩
theorem H6 (ws:List Nat) (at_ size v:Nat) (h:yh ws at_ size) (hv0:gq v) {w:World} {p:Option Addr} {cap:Nat} (hm:aB w (.slice p ws.length cap) 1 (ws.map uV)):Fn Tryz.prog 54 [.agg #[.slice p ws.length cap],.int .i64 (at_:Nat),.int .i64 (size:Nat),.int .u64 (v:Nat)].toArray w [] (fun u hn=>∃ v' h',u=.agg #[v']∧Own 25 1 v' h' ((gJ ws at_ size v).map uV)∧aF h' hn):=by
 obtain ⟨h1,h2,h3,h4,h5,h6⟩:=id h
 have hlt:at_ / 8<ws.length:=by omega
 have hv:ws.getD (at_ / 8) default<18446744073709551616:=h1.at _
 refine enter Tryz.func54 ?_
 refine run ?_
 intro B X
 refine run ?_
 refine gX (fun wc hG=>qH ws _ (hm.good hG) au') ?_
 rintro u hn ⟨v',h',rfl,hO,hle⟩
 obtain ⟨g,cap2,cur,rfl,rfl,qM,hsz,hset⟩:=hO.ZK hlt
 refine aJ (⟨g,cur,25⟩::⟨X,#[.slice none 0 0],24⟩::⟨B,#[.slice p ws.length cap],24⟩::[]) (cnt1 hle) ?_
 refine run ?_
 intro Y
 refine run ?_
 refine iV 22 ?_
 refine cu ?_
 refine qo (lK rfl rfl at_ 8 rfl rfl av1 au') ?_
 refine cu ?_
 refine qo (lK rfl rfl at_ 8 rfl rfl av1 au') ?_
 refine cu ?_
 refine qo (fP rfl rfl at_ 8 rfl rfl av1) ?_
 refine cu ?_
 rw [show (8:Int) * (size:Int)=((8 * size:Nat):Int) by omega]
 refine jY (fun wc hG=>xN (8 * size) au' wc) ?_
 refine qo (kT rfl rfl v (iy (8 * size)) rfl rfl hv0 (rG _)) ?_
 refine cu ?_
 rw [show ((at_ % 8:Nat):Int) * 8=((at_ % 8 * 8:Nat):Int) by omega]
 refine jY (fun wc hG=>XT (ws.getD (at_ / 8) default) (at_ % 8 * 8) (8 * size) (v &&& iy (8 * size)) au' au' hv (Nat.lt_of_le_of_lt Nat.and_le_left hv0) wc) ?_
 refine cu ?_
 refine run ?_
 refine gK ?_
 exact ⟨_,_,rfl,hset ((ws.getD (at_ / 8) default &&& (18446744073709551615 - (iy (8 * size) <<< (at_ % 8 * 8)) % 18446744073709551616)) ||| (((v &&& iy (8 * size)) <<< (at_ % 8 * 8)) % 18446744073709551616)),by (exact ak)⟩
end
def eG (es:List bg) (due:List dB):List bg:=yg (fun e=>due.any fun i=>i.takes e) es
def ApR (r:Option (List bg × List dB)) (u:Value) (hn:Hp):Prop:=match r with
 | none=>u=.tuple #[.agg #[.slice none 0 0,.slice none 0 0],.int .i64 1]
 | some x=>∃ v1 h1 v2 h2,u=.tuple #[.agg #[v1,v2],.int .i64 0]∧Own 114 14 v1 h1 (x.1.map bI)∧Own 121 4 v2 h2 (x.2.map dJ)∧aF (h1++h2) hn
def sD (es:List bg) (ds due:List dB):Option (List bg × List dB):=bif bK es ds && due.all dB.may then some (eG es due,ds) else none
theorem jV {es:List bg} {ds:List dB} (h:bK es ds=true):(∀ e∈es,e.may=true)∧es.length≤8∧ds.length≤8:=by
 simp only [bK,Bool.and_eq_true,decide_eq_true_eq] at h
 refine ⟨fun e he=>?_,h.1.2,h.2⟩
 obtain ⟨j,hj,rfl⟩:=List.getElem_of_mem he
 have:=List.all_eq_true.1 h.1.1.1 j (List.mem_range.2 hj)
 simp only [xU,Bool.and_eq_true] at this
 rw [List.getD_eq_getElem?_getD,List.getElem?_eq_getElem hj] at this
 exact this.1
theorem aB.keep {w0 wc w':World} {hp hp2 h1:Hp} {v:Value} {sz:Nat} {xs:List (List Value)} (h:aB w0 v sz xs) (hG:Good w0 [] (h1++hp) wc) (hg:Good wc (h1.map (·.b)) hp2 w'):aB w' v sz xs:=by
 obtain ⟨⟨p,c,rfl,hp⟩,hl⟩:=h
 refine ⟨⟨p,c,rfl,fun hne=>?_⟩,hl⟩
 obtain ⟨b,off,rfl,hr⟩:=hp hne
 refine ⟨b,off,rfl,fun i c hc=>?_⟩
 intro j u hj
 have h3:=hr i c hc j u hj
 refine hg.cell (hG.cell h3 av4) fun hm=>?_
 obtain ⟨e,he,hb⟩:=List.mem_map.1 hm
 have h4:b<w0.heap.size:=block_lt_of_cell h3
 rcases hG.own e (List.mem_append_left _ he) with h5 | h5
 ·simp at h5
 ·rw [hb] at h5;omega
theorem JK {w0 w:World} {mu:List Nat} {h1 hp:Hp} {e:aI} (hG:Good w0 mu (h1++hp) w) (he:e∈hp):e.b ∉ h1.map (·.b):=by
 have hn:=hG.nodup
 rw [List.map_append,List.nodup_append] at hn
 exact fun hm=>hn.2.2 _ hm _ (List.mem_map.2 ⟨e,he,rfl⟩) rfl
section
attribute [local irreducible] Hy St Ops DH gB iH iq fK DS fA
theorem Rk {w:World} (es:List bg) (ds due:List dB) (v u lv:Value) (h:aB w v 14 (es.map bI)) (hd:aB w u 4 (ds.map dJ)) (hcap:∃ q c,v=.slice q es.length c∧es.length≤c) (hl:aB w lv 4 (due.map dJ)):
  Fn Tryz.prog 147 [.agg #[v,u],lv].toArray w [] (fun r hn=>ApR (sD es ds due) r hn):=by
 have h':=h
 have hd':=hd
 have hl':=hl
 obtain ⟨q,cap,rfl,_,_⟩:=h.opened
 obtain ⟨q2,cap2,rfl,_,_⟩:=hd.opened
 obtain ⟨q3,cap3,rfl,Rl,_⟩:=hl.opened
 refine enter Tryz.func147 ?_
 refine run ?_
 intro B C R
 refine ax (fun wc hG=>kP es ds _ _ (h'.good hG) (hd'.good hG) hcap) ?_
 cases ht:bK es ds with
 | false=>
  refine aX ?_
  have hg:sD es ds due=none:=by simp [sD,ht]
  rw [hg]
  refine gG (cs:=#[.slice none 0 0,.slice none 0 0]) ?_
  rfl
 | true=>
 obtain ⟨hmay,h8,h8d⟩:=jV ht
 refine aX ?_
 refine aZ (fun _ wc hG=>QK due (hl'.good hG)) ?_
 refine aX ?_
 cases hm:due.all dB.may with
 | false=>
  refine aX ?_
  have hg:sD es ds due=none:=by simp [sD,ht,hm]
  rw [hg]
  refine gG (cs:=#[.slice none 0 0,.slice none 0 0]) ?_
  rfl
 | true=>
 have hg:sD es ds due=some (eG es due,ds):=by simp only [sD,ht,hm];rfl
 rw [hg]
 refine aX ?_
 refine gX (fun wc hG=>oL es ds _ _ (h'.good hG) (hd'.good hG) au' au') ?_
 rintro _ hn ⟨v1,h1,v2,h2,rfl,sO,hO2,hle⟩
 obtain ⟨p1,c1,e1⟩:=sO.opened
 obtain ⟨p2,c2,e2⟩:=hO2.opened
 rw [List.length_map] at e1 e2
 subst e1 e2
 refine EF hle ?_
 refine jr (_++(h1++h2)) List.perm_append_comm ?_
 simp only [List.cons_append,List.nil_append]
 refine aX ?_
 intro X
 refine aX ?_
 have ah2:∀ i∈due,i.may=true:=fun i hi=>List.all_eq_true.1 hm i hi
 refine dK (R:=fun u hn=>Own 114 14 u hn ((eG es due).map bI)) h1 (⟨X,#[.slice p1 es.length c1,.slice p2 ds.length c2],77⟩::⟨R,#[.slice none 0 0,.slice none 0 0],77⟩::⟨C,#[.slice q3 due.length cap3],75⟩::⟨B,#[.slice q es.length cap,.slice q2 ds.length cap2],77⟩::h2) (fun wc hG=>?_) (fun v4 h4 hO4=>?_) au
 ·refine JE (us:=[.pointer (some ⟨C,0,none⟩)]) (fun e=>due.any fun i=>i.takes e) es sO hG.dG au' (fun x hx w' ha=>?_)
  obtain ⟨hp,hg⟩:=ha
  have hC:(⟨C,#[.slice q3 due.length cap3],75⟩:aI)∈(⟨X,#[.slice p1 es.length c1,.slice p2 ds.length c2],77⟩::⟨R,#[.slice none 0 0,.slice none 0 0],77⟩::⟨C,#[.slice q3 due.length cap3],75⟩::⟨B,#[.slice q es.length cap,.slice q2 ds.length cap2],77⟩::h2:Hp):=by simp
  exact Q7 due ah2 x (hmay x hx) C (hg.cell (by rw [cell_of_block (hG.here _ (List.mem_append_right _ hC))];rfl) (JK hG hC)) (hl'.keep hG hg)
 generalize eG es due=al at hO4
 obtain ⟨p4,c4,e4⟩:=hO4.opened
 rw [List.length_map] at e4
 subst e4
 refine jr (_++h4) List.perm_append_comm ?_
 simp only [List.cons_append,List.nil_append]
 refine aX ?_
 refine qR ay (b:=R) (off:=0) (cs:=#[.slice none 0 0,.slice none 0 0]) (cs':=#[.slice p4 al.length c4,.slice p2 ds.length c2]) (tb:=77) (vs:=[.slice p4 al.length c4,.slice p2 ds.length c2]) (sz:=2) rfl rfl rfl rfl rfl (List.Perm.swap ..) rfl (Nat.le_refl 2) rfl ?_
 refine aX ?_
 refine gG (cs:=#[.slice p4 al.length c4,.slice p2 ds.length c2]) ?_
 exact ⟨_,h4,_,h2,rfl,hO4,hO2,by (exact ak)⟩
end
structure FgS where
 k:Nat
 v:Value
 ha:Hp
 hs:Hp
 ts:List dM
section
attribute [local irreducible] Hy St Ops DH gB iH iq fK DS fA jX
theorem JL {w:World} {F:Nat} {us:List Value} (p:dM→Bool) (xs:List (dM)) (v:Value) (h:aB w v 2 (xs.map lC)) (hF:∀ x,x∈xs→∀ w',He w w'→Fn Tryz.prog F ([]++[Value.agg (lC x).toArray]++us).toArray w' [] (fun u _=>u=.bool (p x))) (dY:mem mY F=true:=by rfl):
  Fn Tryz.prog 98 [v,.func (.func F) [].toArray us.toArray].toArray w [] (fun u _=>u=.int .i64 (fM p xs)):=by
 obtain ⟨q,cap,rfl,hne,hle⟩:=h.opened
 refine enter Tryz.func98 ?_
 refine run ?_
 refine cO (σ:=Nat) (fun k=>[(8,.int .i64 (k:Int))]) (fun _=>[]) (fun k=>k≤xs.length∧∀ j,j<k→p (xs.getD j default)=false) (fun k=>xs.length - k) 0 ⟨Nat.zero_le _,fun j hj=>absurd hj au'⟩ ?_
 rintro k m rfl ⟨hk,hno⟩
 refine run ?_
 refine aj _ rfl (fun hc=>?_) (fun hc=>?_)
 ·have hlt:k<xs.length:=by simpa using hc
  obtain ⟨b,o,rfl⟩:=hne av5
  have hr:=h.row hlt
  refine run ?_
  refine oP (fun wc hG=>hF (xs.getD k default) (getD_mem hlt) wc ⟨_,hG⟩) (dY:=dY) ?_
  refine run ?_
  refine aj _ rfl (fun hp=>?_) (fun hp=>?_)
  ·refine run ?_
   refine fin1 ?_
   rw [iM hlt hp hno]
  ·refine run ?_
   refine bH (k + 1) ⟨hlt,fun j hj=>?_⟩
   rcases Nat.lt_succ_iff_lt_or_eq.1 hj with hj | rfl
   ·exact hno j hj
   ·exact hp
 ·have hge:k=xs.length:=by simp at hc;omega
  subst hge
  refine run ?_
  refine fin1 ?_
  rw [fO hno]
theorem vW {w:World} {F:Nat} {us:List Value} (p:dM→Bool) (xs:List (dM)) (v:Value) (h:aB w v 2 (xs.map lC)) (hF:∀ x,x∈xs→∀ w',He w w'→Fn Tryz.prog F ([]++[Value.agg (lC x).toArray]++us).toArray w' [] (fun u _=>u=.bool (p x))) (dY:mem mY F=true:=by rfl):
  Fn Tryz.prog 62 [v,.func (.func F) [].toArray us.toArray].toArray w [] (fun u _=>u=.bool (xs.any p)):=by
 refine enter Tryz.func62 ?_
 refine run ?_
 refine ax (fun wc hG=>JL p xs v (h.good hG) (fun x hx w' ha=>hF x hx w' ?_) dY) ?_
 ·obtain ⟨hp,hg⟩:=ha
  exact ⟨_,hG.trans hg⟩
 refine run ?_
 refine fin1 ?_
 rw [← xG]
theorem BA {w:World} (es:List bg) (ds:List dB) (i:dB) (v u:Value) (h:aB w v 14 (es.map bI)) (hd:aB w u 4 (ds.map dJ)) (hcap:∃ q c,v=.slice q es.length c∧es.length≤c) (ht:bK es ds=true) (hi:i.may=true):
  Fn Tryz.prog 117 [.agg #[v,u],.agg (dJ i).toArray].toArray w [] (fun r hn=>bif decide (ds.length<8) then ∃ v1 h1 v2 h2,r=.tuple #[.agg #[v1,v2],.int .i64 0]∧Own 114 14 v1 h1 (es.map bI)∧Own 121 4 v2 h2 ((ds++[i]).map dJ)∧aF (h1++h2) hn else r=.tuple #[.agg #[.slice none 0 0,.slice none 0 0],.int .i64 5]):=by
 have h':=h
 have hd':=hd
 obtain ⟨q,cap,rfl,_,_⟩:=h.opened
 obtain ⟨q2,cap2,rfl,_,_⟩:=hd.opened
 refine enter Tryz.func117 ?_
 refine run ?_
 intro B C
 refine run ?_
 intro X
 refine ax (fun wc hG=>kP es ds _ _ (h'.good hG) (hd'.good hG) hcap) ?_
 rw [ht]
 refine az ?_
 refine xR ?_ ?_
 rotate_left
 ·decide
 refine az ?_
 intro Y
 refine xR ?_ ?_
 rotate_left
 ·decide
 refine ax (fun wc hG=>QK [i] ((rJ (e:=121) (t:=121) Y 1 (dJ i) (xs:=[i].map dJ) rfl rfl az6).lie (fun b hb=>hG.here b ay9) av4)) ?_
 rw [show [i].all dB.may=true by simp [hi]]
 refine aX ?_
 refine aj _ rfl (fun hc=>?_) (fun hc=>?_)
 ·rw [show decide (ds.length<8)=false by simp at hc;exact decide_eq_false au']
  refine run ?_
  refine gG ?_
  rfl
 ·have hd8:ds.length<8:=by simp at hc;omega
  rw [show decide (ds.length<8)=true from decide_eq_true hd8]
  refine run ?_
  refine gX (fun wc hG=>oL es ds _ _ (h'.good hG) (hd'.good hG) (by have:=(jV ht).2.1;omega) au') ?_
  rintro r hn ⟨v1,h1,v2,h2,rfl,sO,hO2,hle⟩
  obtain ⟨r1,c1,e1⟩:=sO.opened
  obtain ⟨r2,c2,e2⟩:=hO2.opened
  rw [List.length_map] at e1 e2
  subst e1 e2
  refine aJ (⟨X,#[.slice none 0 0,.slice none 0 0],77⟩::⟨C,(dJ i).toArray,121⟩::(h1++h2)) (cnt1 hle) ?_
  refine run ?_
  intro Z U
  refine pM [dJ i] (⟨U,#[.int .i64 i.kind,.int .i64 i.jm,.int .i64 i.ku,.int .i64 i.page],121⟩::⟨Z,#[.slice r1 es.length c1,.slice r2 ds.length c2],77⟩::⟨X,#[.slice none 0 0,.slice none 0 0],77⟩::⟨C,(dJ i).toArray,121⟩::h1) hO2 (uH.own (rJ (e:=121) (t:=121) U 1 [.int .i64 i.kind,.int .i64 i.jm,.int .i64 i.ku,.int .i64 i.page] (xs:=[dJ i]) (sz:=4) rfl rfl az6) ak) (fun v' ha' hA'=>?_) aw0 az6 (hperm:=by (exact au))
  obtain ⟨r3,c3,e3⟩:=hA'.opened
  subst e3
  generalize (List.map dJ ds++[dJ i]).length=L at hA' ⊢
  refine aJ (⟨Z,#[.slice r1 es.length c1,.slice r2 ds.length c2],77⟩::⟨X,#[.slice none 0 0,.slice none 0 0],77⟩::(h1++ha')) ak ?_
  refine run ?_
  refine gG ?_
  exact ⟨_,h1,_,ha',rfl,sO,by rw [List.map_append];exact hA',by (exact ak)⟩
theorem UZ (t:dM) {w:World} (h:aB w t.ev 14 (t.es.map bI)) (hd:aB w t.dv 4 (t.ds.map dJ)) (hc:t.es.length≤t.ec):Fn Tryz.prog 146 ([]++[Value.agg (lC t).toArray]++[]).toArray w [] (fun u _=>u=.bool (!bK t.es t.ds)):=by
 refine enter Tryz.func146 ?_
 refine run ?_
 intro B
 refine run ?_
 refine ax (fun wc hG=>kP t.es t.ds _ _ (h.good hG) (hd.good hG) ⟨_,_,rfl,hc⟩) ?_
 refine run ?_
 refine fin1 ?_
 cases bK t.es t.ds<;>rfl
def NS (hs:Hp) (t:dM):Prop:=(∀ wc,Here hs wc→aB wc t.ev 14 (t.es.map bI)∧aB wc t.dv 4 (t.ds.map dJ))∧t.es.length≤t.ec
def wJ (hs:Hp) (ts:List dM):Prop:=∀ t∈ts,NS hs t
abbrev dM.p (t:dM):List bg × List dB:=(t.es,t.ds)
def vX (ls:List (List bg × List dB)) (cpu:Nat):List (List bg × List dB):=
 (ls.map fun t=>(eG t.1 (ls.getD cpu default).2,t.2)).set cpu (eG (ls.getD cpu default).1 (ls.getD cpu default).2,[])
theorem Own.NT {α:Type} [Inhabited α] {f:α→List Value} {e sz:Nat} {v:Value} {h:Hp} {xs:List α} (hA:Own e sz v h (xs.map f)) {k:Nat} (hk:k<xs.length):∃ g cap cur,v=.slice (some ⟨g,0,none⟩) xs.length cap∧h=[⟨g,cur,e⟩]∧k * sz + sz≤cur.size ∧
  (∀ (j:Nat) (c:Value),(f (xs.getD k default))[j]?=some c→nth cur.toList (k * sz + j)=some c) ∧
  ∀ (j:Nat) (vs:List Value) (y:α),j + vs.length≤sz→(f (xs.getD k default)).take j++vs++(f (xs.getD k default)).drop (j + vs.length)=f y→(f y).length=sz∧(f y).all (·.oneCell')=true→Own e sz (.slice (some ⟨g,0,none⟩) xs.length cap) [⟨g,putAt cur (k * sz + j) vs,e⟩] ((xs.set k y).map f):=by
 obtain ⟨g,cap,cur,rfl,rfl,hr⟩:=hA.row (n:=xs.length) av4 au'
 have hall:∀ c∈xs.map f,c.length=sz:=fun c hc=>(hA.1 c hc).1
 have hi:(xs.map f)[k]?=some (f (xs.getD k default)):=by
  rw [List.getElem?_map,List.getD_eq_getElem?_getD,List.getElem?_eq_getElem hk];rfl
 have hsz:=hr.size
 have hle:=hr.le
 refine ⟨g,cap,cur,rfl,rfl,?_,fun j c hj=>hr.nth hall hi hj,fun j vs y hj he hy=>⟨fun c hc=>?_,.inr ⟨g,cap,_,by simp,rfl,?_⟩⟩⟩
 ·have h1:k * sz + sz≤xs.length * sz:=by rw [← Nat.succ_mul];exact Nat.mul_le_mul_right _ hk
  have h2:xs.length * sz≤cap * sz:=Nat.mul_le_mul_right _ hle
  omega
 ·obtain ⟨x,hx,rfl⟩:=List.mem_map.1 hc
  rcases List.mem_or_eq_of_mem_set hx with hx | rfl
  ·exact hA.1 _ (List.mem_map.2 ⟨x,hx,rfl⟩)
  ·exact hy
 ·have h2:=hr.put hall hi (k:=j) (vs:=vs) hj
  rw [he] at h2
  have e2:((xs.set k y).map f).length=xs.length:=by simp
  rw [e2,List.map_set]
  exact h2
def Fj (t:dM) (he hd:Hp):Prop:=Own 114 14 t.ev he (t.es.map bI)∧Own 121 4 t.dv hd (t.ds.map dJ)∧t.es.length≤8∧t.ds.length≤8
def jq:List dM→Hp→Prop
 | [],_=>True
 | t::ts,h=>∃ he hd hr,Fj t he hd∧jq ts hr∧aF (he++hd++hr) h
theorem U0 {a b c:Hp} (h1:aF a b) (h2:aF b c):aF a c:=bU fun x=>Nat.le_trans (h1.cnt x) (h2.cnt x)
theorem jq.le:∀ {ts:List dM} {a b:Hp},jq ts a→aF a b→jq ts b
 | [],_,_,_,_=>trivial
 | t::ts,_,_,⟨he,hd,hr,h1,h2,h3⟩,h=>⟨he,hd,hr,h1,h2,U0 h3 h⟩
theorem Fj.i {t:dM} {he hd h:Hp} (h1:Fj t he hd) (hh:∀ wc,Here h wc→Here he wc∧Here hd wc):NS h t:=by
 obtain ⟨g1,g2,g3,g4⟩:=h1
 refine ⟨fun wc hw=>⟨g1.lie (hh wc hw).1 av3,g2.lie (hh wc hw).2 av3⟩,?_⟩
 obtain ⟨p,c,e,hle⟩:=g1.jS
 rw [List.length_map] at e hle
 cases e
 exact hle
theorem Fp {a b:Hp} (h:aF a b) {wc:World} (hh:Here b wc):Here a wc:=fun e he=>hh e (h.mem he)
theorem jq.i:∀ {ts:List dM} {h:Hp},jq ts h→wJ h ts
 | [],_,_=>fun t ht=>absurd ht av4
 | t::ts,h,⟨he,hd,hr,h1,h2,h3⟩=>fun x hx=>by
  rcases List.mem_cons.1 hx with rfl | hx
  ·exact h1.i fun wc hw=>⟨fun e m=>Fp h3 hw e (by simp [m]),fun e m=>Fp h3 hw e (by simp [m])⟩
  ·have:=h2.i x hx
   exact ⟨fun wc hw=>this.1 wc (fun e m=>Fp h3 hw e (by simp [m])),this.2⟩
theorem jq.set {y:dM} {he hd:Hp} (hy:Fj y he hd):∀ {ts:List dM} {h:Hp} (k:Nat),jq ts h→jq (ts.set k y) (he++hd++h)
 | [],_,_,_=>trivial
 | t::ts,h,0,⟨a,b,c,h1,h2,h3⟩=>⟨he,hd,c,hy,h2,bU fun x=>by have:=h3.cnt x;simp only [dZ] at this ⊢;omega⟩
 | t::ts,h,k + 1,⟨a,b,c,h1,h2,h3⟩=>⟨a,b,he++hd++c,h1,jq.set hy k h2,bU fun x=>by have:=h3.cnt x;simp only [dZ] at this ⊢;omega⟩
theorem jq.snoc {y:dM} {he hd:Hp} (hy:Fj y he hd):∀ {ts:List dM} {h:Hp},jq ts h→jq (ts++[y]) (he++hd++h)
 | [],h,_=>⟨he,hd,h,hy,trivial,aF.refl _⟩
 | t::ts,h,⟨a,b,c,h1,h2,h3⟩=>⟨a,b,he++hd++c,h1,jq.snoc hy h2,bU fun x=>by have:=h3.cnt x;simp only [dZ] at this ⊢;omega⟩
theorem jq.upd {y:dM}:∀ {ts:List dM} {h:Hp} (k:Nat),jq ts h→(∀ he hd,Fj (ts.getD k default) he hd→∃ hd',Fj y he hd'∧aF hd' hd)→jq (ts.set k y) h
 | [],_,_,_,_=>trivial
 | t::ts,h,0,⟨a,b,c,h1,h2,h3⟩,hu=>by
  obtain ⟨b',h4,h5⟩:=hu a b h1
  exact ⟨a,b',c,h4,h2,bU fun x=>by have:=h3.cnt x;have:=h5.cnt x;simp only [dZ] at this ⊢;simp only [dZ] at *;omega⟩
 | t::ts,h,k + 1,⟨a,b,c,h1,h2,h3⟩,hu=>⟨a,b,c,h1,jq.upd k h2 hu,h3⟩
theorem DF:∀ (ls:List (List bg × List dB)),(∀ t∈ls,t.1.length≤8∧t.2.length≤8)→∃ (ts:List dM) (h:Hp),jq ts h∧ts.map dM.p=ls
 | [],_=>⟨[],[],trivial,rfl⟩
 | x::r,hx=>by
  obtain ⟨ts,h,h1,h2⟩:=DF r fun t ht=>hx t (List.mem_cons_of_mem _ ht)
  obtain ⟨b1,b2⟩:=hx x (List.mem_cons_self ..)
  obtain ⟨a1,g1,o1⟩:=fF (e:=114) (xs:=x.1.map bI) kC av3
  obtain ⟨a2,g2,o2⟩:=fF (e:=121) (xs:=x.2.map dJ) yX av3
  obtain ⟨q1,c1,e1⟩:=o1.opened
  obtain ⟨q2,c2,e2⟩:=o2.opened
  rw [List.length_map] at e1 e2
  subst e1 e2
  exact ⟨⟨x.1,x.2,q1,c1,q2,c2⟩::ts,g1++g2++h,⟨g1,g2,h,⟨o1,o2,b1,b2⟩,h1,aF.refl _⟩,by rw [List.map_cons,h2]⟩
theorem U1 {w:World} (ts:List dM) (cpu:Nat) (hc:cpu<ts.length) (hl:ts.length<100000) {lv:Value} (h:qI w lv ts) (hcap:∀ t∈ts,t.es.length≤t.ec) (hok:∀ t∈ts,bK t.es t.ds=true):
  Fn Tryz.prog 118 [lv,.int .i64 (cpu:Nat)].toArray w [] (fun r hn=>∃ v ha hs ts',r=.tuple #[v,.int .i64 0]∧Own 77 2 v ha (ts'.map lC)∧jq ts' hs∧ts'.map dM.p=vX (ts.map dM.p) cpu∧aF (ha++hs) hn):=by
 obtain ⟨q,cap,rfl,hne,_⟩:=id h.rows.opened
 refine enter Tryz.func118 ?_
 refine az ?_
 refine aZ (fun _ wc hG=>vW (F:=146) (us:=[]) (fun t=>!bK t.es t.ds) ts _ (h.good hG).rows (fun x hx w' ha=>?_)) ?_
 ·obtain ⟨hp,hg⟩:=ha
  exact UZ x (((h.good hG).good hg).en x hx) (((h.good hG).good hg).iv x hx) (hcap x hx)
 rw [show ts.any (fun t=>!bK t.es t.ds)=false by
  rw [List.any_eq_false]
  intro x hx
  rw [hok x hx];decide]
 refine az ?_
 refine aj _ rfl (fun hc=>absurd hc aw0) (fun _=>?_)
 refine run ?_
 obtain ⟨b,o,rfl⟩:=hne (by intro e;subst e;simp at hc)
 have hlc:=h.rows.row hc
 have hic:=h.iv _ (getD_mem hc)
 have hkc:=hok _ (getD_mem hc)
 generalize hgc:ts.getD cpu default=tc at hlc hic hkc
 have hdc:tc.ds.all dB.may=true:=by
  simp only [bK,Bool.and_eq_true] at hkc
  exact hkc.1.1.2
 refine cO (σ:=FgS) (fun s=>[(25,.int .i64 (s.k:Int)),(6,s.v)]) (fun s=>s.ha++s.hs) (fun s=>s.k≤ts.length∧Acc 77 2 s.v s.ha (s.ts.map lC)∧jq s.ts s.hs∧s.ts.map dM.p=(ts.take s.k).map (fun t=>(eG t.es tc.ds,t.ds))) (fun s=>ts.length - s.k) ⟨0,_,[],[],[]⟩ ⟨Nat.zero_le _,Acc.nil _ _,(trivial:jq [] []),rfl⟩ ?_
 rintro ⟨k,ov,ha,hs,ts'⟩ m hm ⟨hk,hA,hO,hE⟩
 dsimp only at hm hk hA hO hE ⊢
 refine run ?_
 refine aj _ rfl (fun hc2=>?_) (fun hc2=>?_)
 ·have hlt:k<ts.length:=by simpa using hc2
  have hr:=h.rows.row hlt
  have hen:=h.en _ (getD_mem hlt)
  have hiv:=h.iv _ (getD_mem hlt)
  have hcp:=hcap _ (getD_mem hlt)
  have hkt:=hok _ (getD_mem hlt)
  have htn:=gI hlt
  generalize ts.getD k default=t at hr hen hiv hcp hkt htn
  refine run ?_
  intro X
  have U2:=hlc 1 tc.dv rfl
  have hg:sD t.es t.ds tc.ds=some (eG t.es tc.ds,t.ds):=by simp only [sD,hkt,hdc];rfl
  have hap:∀ wc,Good w [] (⟨X,#[t.ev,t.dv],77⟩::(ha++hs)) wc→Fn Tryz.prog 147 [.agg #[t.ev,t.dv],tc.dv].toArray wc [] (fun r hn=>ApR (some (eG t.es tc.ds,t.ds)) r hn):=fun wc hG=>by
   rw [← hg]
   exact Rk t.es t.ds tc.ds _ _ _ (hen.good hG) (hiv.good hG) ⟨_,_,rfl,hcp⟩ (hic.good hG)
  refine iR 11 [0,1,2,3,4,5] [6,10] [7,8,9] [12] [11] ?_
  refine fB ?_
  refine iW (fun wc hG=>hap wc hG) ?_ ?_
  ·obtain ⟨a1,b1,o1⟩:=fF (e:=114) (xs:=(eG t.es tc.ds).map bI) kC (by rw [List.length_map];have h1:(eG t.es tc.ds).length≤t.es.length:=List.length_filter_le ..;have:=(jV hkt).2.1;omega)
   obtain ⟨a2,b2,o2⟩:=fF (e:=121) (xs:=t.ds.map dJ) yX (by rw [List.length_map];have:=(jV hkt).2.2;omega)
   exact ⟨_,b1++b2,a1,b1,a2,b2,rfl,o1,o2,aF.refl _⟩
  refine dR ?_
  refine gZ ?_
  rintro _ _ ⟨Y,rfl,rfl⟩ u hn ⟨v1,h1,v2,h2,rfl,sO,hO2,hle⟩
  dsimp only at sO hO2
  have hlen:(eG t.es tc.ds).length≤t.es.length:=List.length_filter_le ..
  generalize hal:eG t.es tc.ds=al at sO hlen
  obtain ⟨r1,c1,e1⟩:=sO.opened
  obtain ⟨r2,c2,e2⟩:=hO2.opened
  rw [List.length_map] at e1 e2
  subst e1 e2
  refine ni ?_
  refine aS ?_
  refine aS ?_
  refine fC ?_
  refine iE ?_
  refine fC ?_
  simp only [DN,List.cons_append,List.nil_append,List.append_nil]
  refine aV (b:=Y) (tb:=77) (cs:=#[.slice none 0 0,.slice none 0 0]) (cs':=#[.slice r1 al.length c1,.slice r2 t.ds.length c2]) (hp':=hn++⟨X,#[t.ev,t.dv],77⟩::(ha++hs)) ?_ au
  refine aH ?_
  refine di ?_
  simp only [List.cons_append,List.nil_append,List.append_nil]
  refine aJ (⟨Y,#[.slice r1 al.length c1,.slice r2 t.ds.length c2],77⟩::(ha++(h1++h2++hs))) (cnt1 hle) ?_
  refine run ?_
  intro Z
  refine jD (c:=[.slice r1 al.length c1,.slice r2 t.ds.length c2]) hA (fun v' ha' hA2=>?_) (by have:=congrArg List.length hE;simp at this;simp;omega) (bT (m:=2) mh rfl) (hp':=⟨Z,#[.slice r1 al.length c1,.slice r2 t.ds.length c2],77⟩::⟨Y,#[.slice r1 al.length c1,.slice r2 t.ds.length c2],77⟩::(h1++h2++hs)) (hperm:=by (exact au))
  refine run ?_
  have hcp1:al.length≤c1:=by
   obtain ⟨q9,c9,e9,h9⟩:=sO.cap
   injection e9 with _ _ e9
   omega
  refine bH ⟨k + 1,v',ha',h1++h2++hs,ts'++[⟨al,t.ds,r1,c1,r2,c2⟩]⟩ ⟨hlt,?_,?_,?_⟩ (hm:=by dsimp only;omega) (h2:=by (exact ak))
  ·dsimp only
   rw [List.map_append]
   exact hA2
  ·exact jq.snoc (y:=⟨al,t.ds,r1,c1,r2,c2⟩) ⟨sO,hO2,Nat.le_trans hlen (jV hkt).2.1,(jV hkt).2.2⟩ hO
  ·dsimp only
   rw [htn,List.map_append,List.map_append,hE]
   simp [hal,dM.p]
 ·have hge:k=ts.length:=by simp at hc2;omega
  subst hge
  rw [List.take_length] at hE
  have hl':ts'.length=ts.length:=by have:=congrArg List.length hE;simpa using this
  have hcl:cpu<ts'.length:=by omega
  obtain ⟨g,cap2,cur,rfl,rfl,hsz,qM,hset⟩:=hA.own.NT hcl
  have hS:=hset 1 [.slice none 0 0] { ts'.getD cpu default with ds:=[],dp:=none,dc:=0 } av4 rfl ⟨rfl,rfl⟩
  simp only [putAt] at hS
  simp only [List.cons_append,List.nil_append]
  refine run ?_
  refine fin2 ?_
  refine ⟨_,_,hs,_,rfl,hS,jq.upd (y:={ ts'.getD cpu default with ds:=[],dp:=none,dc:=0 }) cpu hO fun he hd ⟨g1,g2,g3,g4⟩=>⟨[],⟨g1,Own.nil _ _,g3,Nat.zero_le _⟩,bU fun x=>Nat.zero_le _⟩,?_,by (exact ak)⟩
  ·have h9:(ts'.map dM.p).getD cpu default=(eG tc.es tc.ds,tc.ds):=by
    rw [hE,List.getD_eq_getElem?_getD,List.getElem?_map,List.getElem?_eq_getElem hc]
    rw [← hgc,List.getD_eq_getElem?_getD,List.getElem?_eq_getElem hc];rfl
   rw [List.getD_eq_getElem?_getD,List.getElem?_map,List.getElem?_eq_getElem hcl] at h9
   have h10:(ts.map dM.p).getD cpu default=(tc.es,tc.ds):=by
    rw [List.getD_eq_getElem?_getD,List.getElem?_map,List.getElem?_eq_getElem hc]
    rw [← hgc,List.getD_eq_getElem?_getD,List.getElem?_eq_getElem hc];rfl
   unfold vX
   rw [h10,List.map_set,hE,List.map_map]
   congr 1
   have h11:(ts'.getD cpu default).es=eG tc.es tc.ds:=by
    rw [List.getD_eq_getElem?_getD,List.getElem?_eq_getElem hcl]
    exact congrArg Prod.fst h9
   show (_,_)=_
   rw [h11]
theorem Rn {e:bg} (he:e.may=true):e.stage=!decide (e.kind=2)∧(e.kind=1∨e.kind=2∨e.kind=3):=by
 have:e.kind=1∨e.kind=2∨e.kind=3:=by
  by_cases k1:e.kind=1
  ·exact .inl k1
  by_cases k2:e.kind=2
  ·exact .inr (.inl k2)
  by_cases k3:e.kind=3
  ·exact .inr (.inr k3)
  exfalso
  simp [bg.may,k1,k2,k3] at he
 refine ⟨?_,this⟩
 unfold bg.stage
 rcases this with h | h | h<;>rw [h]<;>rfl
theorem Ro (i:dB) (e:bg) (hi:i.may=true) (he:e.may=true) (w:World):Fn Tryz.prog 158 [.agg (dJ i).toArray,.agg (bI e).toArray].toArray w [] (fun u _=>u=.bool (i.takes e)):=by
 refine enter Tryz.func158 ?_
 refine run ?_
 intro B C
 refine run ?_
 refine aj _ rfl (fun h1=>?_) (fun h1=>?_)
 ·refine run ?_
  refine fin1 ?_
  simp [dB.takes,h1]
 refine run ?_
 refine aj _ rfl (fun hv=>?_) (fun hv=>?_)
 ·refine run ?_
  refine fin1 ?_
  have:decide (i.jm=e.jm)=false:=by simp at hv ⊢;omega
  simp [dB.takes,h1,this]
 have hv':decide (i.jm=e.jm)=true:=by simp at hv ⊢;omega
 have h1':decide (i.kind=1)=false:=by simpa using h1
 refine run ?_
 refine aj _ rfl (fun h2=>?_) (fun h2=>?_)
 ·refine run ?_
  refine fin1 ?_
  simp [dB.takes,h1',hv',h2]
 have h2':decide (i.kind=2)=false:=by simpa using h2
 refine run ?_
 obtain ⟨hst,hk⟩:=Rn he
 refine aj _ rfl (fun h3=>?_) (fun h3=>?_)
 ·refine run ?_
  refine fin1 ?_
  simp [dB.takes,h1',hv',h2',h3,hst]
 have h3':decide (i.kind=3)=false:=by simpa using h3
 refine run ?_
 refine aj _ rfl (fun h4=>?_) (fun h4=>?_)
 ·refine az ?_
  refine fin1 ?_
  simp [dB.takes,h1',hv',h2',h3',h4,hst]
 have h4':decide (i.kind=4)=false:=by simpa using h4
 refine run ?_
 refine aj _ rfl (fun h5=>?_) (fun h5=>?_)
 ·refine run ?_
  refine dX (σ:=Unit) (fun _=>[(6,.bool (i.at_ e))]) (fun _=>⟨C,(bI e).toArray,114⟩::⟨B,(dJ i).toArray,121⟩::[]) (fun _=>True) ?_ ?_
  ·refine aj _ rfl (fun h6=>?_) (fun h6=>?_)
   ·have hk3:e.kind=3:=by simpa using h6
    have hl:1≤e.level∧e.level≤3:=by
     simp [bg.may,hk3,PtD.bY] at he
     exact he.2.1.1.1
    have hp:0≤i.page∧i.page≤4095:=by
     simp only [dB.may,PtD.bY,Bool.and_eq_true,decide_eq_true_eq] at hi
     exact hi.2
    have e9:i.at_ e=decide (e.page=((kL (e.level.toNat - 1) i.page.toNat:Nat):Int)):=by simp [dB.at_,hk3]
    rw [e9]
    refine run ?_
    refine iV 8 ?_
    refine cu ?_
    refine jY (v:=.int .i64 (kL (e.level.toNat - 1) i.page.toNat:Nat)) (fun wc hG=>by
     have:=EG e.level.toNat au' au' i.page.toNat au' wc
     rw [show ((e.level.toNat:Nat):Int)=e.level by omega,show ((i.page.toNat:Nat):Int)=i.page by omega] at this
     exact this) ?_
    refine cu ?_
    refine run ?_
    exact dA () trivial (h2:=by (exact ak))
   ·have hk3:decide (e.kind=3)=false:=by simpa using h6
    have e9:i.at_ e=decide (e.page=i.page):=by simp [dB.at_,hk3]
    rw [e9]
    refine run ?_
    exact dA () trivial (h2:=by (exact ak))
  rintro ⟨⟩ -
  refine az ?_
  refine fin1 ?_
  simp [dB.takes,h1',hv',h2',h3',h4',h5,hst]
 have h5':decide (i.kind=5)=false:=by simpa using h5
 refine az ?_
 refine fin1 ?_
 cases hk2:decide (e.kind=2) with
 | false=>simp [dB.takes,h1',hv',h2',h3',h4',h5',hk2]
 | true=>
  have hk3:decide (e.kind=3)=false:=by simp at hk2 ⊢;omega
  simp [dB.takes,h1',hv',h2',h3',h4',h5',hk2,dB.at_,hk3]
set_option maxHeartbeats 400000 in
theorem Rq {w:World} (es:List bg) (ds due:List dB) (v u lv:Value) (h:aB w v 14 (es.map bI)) (hd:aB w u 4 (ds.map dJ)) (hl:aB w lv 4 (due.map dJ)) (he8:es.length≤8) (hd8:ds.length≤8) (hmay:∀ e∈es,e.may=true) (hdm:∀ i∈due,i.may=true):
  Fn Tryz.prog 129 [.agg #[v,u],lv].toArray w [] (fun r hn=>∃ v1 h1 v2 h2,r=.agg #[v1,v2]∧Own 114 14 v1 h1 ((eG es due).map bI)∧Own 121 4 v2 h2 (ds.map dJ)∧aF (h1++h2) hn):=by
 have h':=h
 have hd':=hd
 obtain ⟨q,cap,rfl,hne,_⟩:=h.opened
 obtain ⟨q2,cap2,rfl,hne2,_⟩:=hd.opened
 obtain ⟨q3,cap3,rfl,Rl,_⟩:=id hl.opened
 refine enter Tryz.func129 ?_
 refine run ?_
 intro B R
 refine gX (fun wc hG=>rW ds _ (hd'.good hG) au') ?_
 intro r hn hO
 have hO':=hO
 obtain ⟨r2,c2,e2⟩:=hO.own.opened
 rw [List.length_map] at e2
 subst e2
 refine aJ (⟨R,#[.slice none 0 0,.slice none 0 0],77⟩::⟨B,#[.slice q es.length cap,.slice q2 ds.length cap2],77⟩::hn) ak ?_
 refine run ?_
 intro X
 refine cO (σ:=Nat × Value × Hp) (fun s=>[(6,.int .i64 (s.1:Int))]) (fun s=>⟨X,#[s.2.1,.slice r2 ds.length c2],77⟩::⟨R,#[.slice none 0 0,.slice none 0 0],77⟩::⟨B,#[.slice q es.length cap,.slice q2 ds.length cap2],77⟩::(s.2.2++hn)) (fun s=>s.1≤es.length∧Acc 114 14 s.2.1 s.2.2 ((eG (es.take s.1) due).map bI)) (fun s=>es.length - s.1) (0,.slice none 0 0,[]) ⟨Nat.zero_le _,Acc.nil _ _⟩ ?_
 rintro ⟨k,v,ha⟩ m hm ⟨hk,hA⟩
 dsimp only at hm hk hA ⊢
 obtain ⟨r1,c1,e1⟩:=hA.own.opened
 rw [List.length_map] at e1
 generalize hL:(eG (es.take k) due).length=L at e1
 subst e1
 refine run ?_
 refine aj _ rfl (fun hc=>?_) (fun hc=>?_)
 ·have hlt:k<es.length:=by simpa using hc
  obtain ⟨b,o,rfl⟩:=hne av5
  have hr:=h'.row hlt
  have htn:=gI hlt
  have hem:=hmay _ (getD_mem hlt)
  generalize es.getD k default=e at hr htn hem
  refine run ?_
  refine cO (σ:=Nat) (fun j=>[(8,.int .i64 (j:Int)),(7,.bool ((due.take j).any fun i=>i.takes e))]) (fun _=>⟨X,#[.slice r1 L c1,.slice r2 ds.length c2],77⟩::⟨R,#[.slice none 0 0,.slice none 0 0],77⟩::⟨B,#[.slice (some ⟨b,o,none⟩) es.length cap,.slice q2 ds.length cap2],77⟩::(ha++hn)) (fun j=>j≤due.length) (fun j=>due.length - j) 0 (Nat.zero_le _) ?_
  ·rintro j m2 hm2 hj
   refine run ?_
   refine aj _ rfl (fun hc2=>?_) (fun hc2=>?_)
   ·have hlt2:j<due.length:=by simpa using hc2
    obtain ⟨b3,o3,rfl⟩:=Rl (by intro e;subst e;simp at hlt2)
    have hr3:=hl.row hlt2
    have ZL:=gI hlt2
    have ZM:=hdm _ (getD_mem hlt2)
    generalize due.getD j default=i at hr3 ZL ZM
    refine az ?_
    refine iV 13 ?_
    refine iU ?_
    refine kS (fun _ wc hG=>Ro i e ZM hem wc) ?_
    refine iU ?_
    refine run ?_
    rw [show (((due.take j).any fun i=>i.takes e) || i.takes e)=((due.take (j + 1)).any fun i=>i.takes e) by rw [ZL,List.any_append];simp]
    exact bH (j + 1) hlt2
   ·have ah4:j=due.length:=by simp at hc2;omega
    subst ah4
    rw [List.take_length]
    have hap:eG (es.take (k + 1)) due=eG (es.take k) due++bif (due.any fun i=>i.takes e) then [] else [e]:=by
     unfold eG yg
     rw [htn,List.filter_append]
     congr 1
     cases hd9:(due.any fun i=>i.takes e)<;>simp [hd9]
    refine run ?_
    cases hgn:(due.any fun i=>i.takes e) with
    | true=>
     rw [hgn] at hap
     refine aX ?_
     refine bH (k + 1,.slice r1 L c1,ha) ⟨hlt,?_⟩ (h2:=by (exact ak))
     dsimp only
     rw [hap]
     simpa using hA
    | false=>
     rw [hgn] at hap
     refine aX ?_
     refine drawM 8 [0,1,2,3,4,5,6] [7] [] ?_
     refine fB ?_
     refine TM (bI e) (h:=?_) (hn:=by (first | ((simp only [putAt,rep,Value.cells,Nat.reduceMul,Nat.zero_mul,Nat.one_mul,Nat.mul_one,List.toList_toArray,List.setIfInBounds_toArray,List.set_cons_zero,List.set_cons_succ,List.drop_succ_cons,List.drop_zero,List.take_succ_cons,List.take_zero,List.cons_append,List.nil_append,List.append_nil])<;>rfl) | rfl))
     refine gZ ?_
     simp only [DN]
     rintro _ hn2 ⟨T,rfl,rfl⟩
     refine fC ?_
     refine zB ?_
     simp only [List.cons_append,List.nil_append,List.append_nil]
     have hlk:(eG (es.take k) due).length≤8:=Nat.le_trans (List.length_filter_le ..) (by rw [List.length_take];omega)
     refine jD (c:=bI e) hA (fun v' ha' hA2=>?_) av3 (bT (m:=14) mh rfl) (hp':=⟨T,(bI e).toArray,114⟩::⟨X,#[.slice r1 L c1,.slice r2 ds.length c2],77⟩::⟨R,#[.slice none 0 0,.slice none 0 0],77⟩::⟨B,#[.slice (some ⟨b,o,none⟩) es.length cap,.slice q2 ds.length cap2],77⟩::hn) (hperm:=by (exact au))
     obtain ⟨r9,c9,e9⟩:=hA2.own.opened
     generalize ((eG (es.take k) due).map bI++[bI e]).length=L2 at e9
     subst e9
     refine aJ (⟨X,#[.slice r1 L c1,.slice r2 ds.length c2],77⟩::⟨R,#[.slice none 0 0,.slice none 0 0],77⟩::⟨B,#[.slice (some ⟨b,o,none⟩) es.length cap,.slice q2 ds.length cap2],77⟩::(ha'++hn)) ak ?_
     refine run ?_
     refine bH (k + 1,.slice r9 L2 c9,ha') ⟨hlt,?_⟩ (h2:=by (exact ak))
     dsimp only
     rw [hap,List.map_append]
     exact hA2
 ·have hge:k=es.length:=by simp at hc;omega
  subst hge
  rw [List.take_length] at hA
  refine run ?_
  refine gK ?_
  exact ⟨_,ha,_,hn,rfl,hA.own,hO'.own,by (exact ak)⟩
set_option maxHeartbeats 400000 in
theorem Le {w:World} (ts:List dM) (cpu:Nat) (hc:cpu<ts.length) (hl:ts.length<100000) {lv:Value} (h:qI w lv ts) (hcap:∀ t∈ts,t.es.length≤t.ec) (hok:∀ t∈ts,bK t.es t.ds=true):
  Fn Tryz.prog 89 [lv,.int .i64 (cpu:Nat)].toArray w [] (fun r hn=>∃ v ha hs ts',r=v∧Own 77 2 v ha (ts'.map lC)∧wJ hs ts'∧ts'.map dM.p=vX (ts.map dM.p) cpu∧aF (ha++hs) hn):=by
 obtain ⟨q,cap,rfl,hne,_⟩:=id h.rows.opened
 obtain ⟨b,o,rfl⟩:=hne (by intro e;subst e;simp at hc)
 have hlc:=h.rows.row hc
 have hic:=h.iv _ (getD_mem hc)
 have hkc:=hok _ (getD_mem hc)
 generalize hgc:ts.getD cpu default=tc at hlc hic hkc
 have hdm:∀ i∈tc.ds,i.may=true:=by
  simp only [bK,Bool.and_eq_true] at hkc
  exact List.all_eq_true.1 hkc.1.1.2
 have U2:=hlc 1 tc.dv rfl
 refine enter Tryz.func89 ?_
 refine run ?_
 refine cO (σ:=FgS) (fun s=>[(7,.int .i64 (s.k:Int)),(6,s.v)]) (fun s=>s.ha++s.hs) (fun s=>s.k≤ts.length∧Acc 77 2 s.v s.ha (s.ts.map lC)∧wJ s.hs s.ts∧s.ts.map dM.p=(ts.take s.k).map (fun t=>(eG t.es tc.ds,t.ds))) (fun s=>ts.length - s.k) ⟨0,_,[],[],[]⟩ ⟨Nat.zero_le _,Acc.nil _ _,(fun t ht=>absurd ht av4:wJ [] []),rfl⟩ ?_
 rintro ⟨k,ov,ha,hs,ts'⟩ m hm ⟨hk,hA,hO,hE⟩
 dsimp only at hm hk hA hO hE ⊢
 refine run ?_
 refine aj _ rfl (fun hc2=>?_) (fun hc2=>?_)
 ·have hlt:k<ts.length:=by simpa using hc2
  have hr:=h.rows.row hlt
  have hen:=h.en _ (getD_mem hlt)
  have hiv:=h.iv _ (getD_mem hlt)
  have hcp:=hcap _ (getD_mem hlt)
  have hkt:=hok _ (getD_mem hlt)
  have htn:=gI hlt
  generalize ts.getD k default=t at hr hen hiv hcp hkt htn
  have h8:=jV hkt
  refine run ?_
  refine gX (fun wc hG=>Rq t.es t.ds tc.ds _ _ _ (hen.good hG) (hiv.good hG) (hic.good hG) h8.2.1 h8.2.2 h8.1 hdm) ?_
  rintro u hn ⟨v1,h1,v2,h2,rfl,sO,hO2,hle⟩
  have hlen:(eG t.es tc.ds).length≤t.es.length:=List.length_filter_le ..
  generalize hal:eG t.es tc.ds=al at sO hlen
  obtain ⟨r1,c1,e1⟩:=sO.opened
  obtain ⟨r2,c2,e2⟩:=hO2.opened
  rw [List.length_map] at e1 e2
  subst e1 e2
  refine aJ (ha++(h1++h2++hs)) (cnt1 hle) ?_
  refine run ?_
  intro Z
  refine jD (c:=[.slice r1 al.length c1,.slice r2 t.ds.length c2]) hA (fun v' ha' hA2=>?_) (by have:=congrArg List.length hE;simp at this;simp;omega) (bT (m:=2) mh rfl) (hp':=⟨Z,#[.slice r1 al.length c1,.slice r2 t.ds.length c2],77⟩::(h1++h2++hs)) (hperm:=by (exact au))
  refine run ?_
  have hcp1:al.length≤c1:=by
   obtain ⟨q9,c9,e9,h9⟩:=sO.cap
   injection e9 with _ _ e9
   omega
  refine bH ⟨k + 1,v',ha',h1++h2++hs,ts'++[⟨al,t.ds,r1,c1,r2,c2⟩]⟩ ⟨hlt,?_,?_,?_⟩ (hm:=by dsimp only;omega) (h2:=by (exact ak))
  ·dsimp only
   rw [List.map_append]
   exact hA2
  ·intro x hx
   rcases List.mem_append.1 hx with hx | hx
   ·obtain ⟨g1,g2⟩:=hO x hx
    exact ⟨fun wc hh=>g1 wc (fun e he=>hh e (List.mem_append_right _ he)),g2⟩
   ·obtain rfl:=List.mem_singleton.1 hx
    refine ⟨fun wc hh=>?_,hcp1⟩
    exact ⟨sO.lie (fun e he=>hh e aw1) (by rw [List.length_map];have:=(jV hkt).2.1;omega),hO2.lie (fun e he=>hh e aw1) (by rw [List.length_map];have:=(jV hkt).2.2;omega)⟩
  ·dsimp only
   rw [htn,List.map_append,List.map_append,hE]
   simp [hal,dM.p]
 ·have hge:k=ts.length:=by simp at hc2;omega
  subst hge
  rw [List.take_length] at hE
  have hl':ts'.length=ts.length:=by have:=congrArg List.length hE;simpa using this
  have hcl:cpu<ts'.length:=by omega
  obtain ⟨g,cap2,cur,rfl,rfl,hsz,qM,hset⟩:=hA.own.NT hcl
  have hS:=hset 1 [.slice none 0 0] { ts'.getD cpu default with ds:=[],dp:=none,dc:=0 } av4 rfl ⟨rfl,rfl⟩
  simp only [putAt] at hS
  simp only [List.cons_append,List.nil_append]
  refine run ?_
  refine fin1 ?_
  refine ⟨_,_,hs,_,rfl,hS,fun x hx=>?_,?_,by (exact ak)⟩
  ·rcases List.mem_or_eq_of_mem_set hx with hx | rfl
   ·exact hO x hx
   ·obtain ⟨g1,g2⟩:=hO _ (getD_mem hcl)
    exact ⟨fun wc hh=>⟨(g1 wc hh).1,iC wc 4⟩,g2⟩
  ·have h9:(ts'.map dM.p).getD cpu default=(eG tc.es tc.ds,tc.ds):=by
    rw [hE,List.getD_eq_getElem?_getD,List.getElem?_map,List.getElem?_eq_getElem hc]
    rw [← hgc,List.getD_eq_getElem?_getD,List.getElem?_eq_getElem hc];rfl
   rw [List.getD_eq_getElem?_getD,List.getElem?_map,List.getElem?_eq_getElem hcl] at h9
   have h10:(ts.map dM.p).getD cpu default=(tc.es,tc.ds):=by
    rw [List.getD_eq_getElem?_getD,List.getElem?_map,List.getElem?_eq_getElem hc]
    rw [← hgc,List.getD_eq_getElem?_getD,List.getElem?_eq_getElem hc];rfl
   unfold vX
   rw [h10,List.map_set,hE,List.map_map]
   congr 1
   have h11:(ts'.getD cpu default).es=eG tc.es tc.ds:=by
    rw [List.getD_eq_getElem?_getD,List.getElem?_eq_getElem hcl]
    exact congrArg Prod.fst h9
   show (_,_)=_
   rw [h11]
end
section
attribute [local irreducible] Hy St Ops DH gB iH iq fK DS fA jX
structure PS where
 ws:List Nat
 ls:List (List bg × List dB)
 seen:List Int
 r:aC
 pk:vg
 kind:Int
 iZ:bG
 ft:nD
 over:Bool
def lS (s:PS) (mJ far:Nat):PS:={ s with over:=true,kind:=1,r:=s.r.trap mJ far }
def gy (s:PS) (f:nD) (addr:Nat):PS:=
 bif decide (f.stage=2) then { s with ft:=f,over:=true,kind:=2 } else lS { s with ft:=f } (Jz f) addr
def mc (wv sv lv:Value) (cpu:Nat) (two:bQ) (s:PS):Array Value:=
 #[wv,.int .i64 (cpu:Nat),.int .i64 s.kind,.int .i64 s.iZ.op,.int .i64 s.iZ.d,.int .i64 s.iZ.n,.int .i64 s.iZ.m,.int .i64 s.iZ.aW,
  .int .i64 s.ft.kind,.int .i64 s.ft.stage,.int .i64 s.ft.level,.bool s.ft.walk,.int .i64 s.ft.page,.int .i64 0,sv,
  .int .u64 (s.r.x0:Nat),.int .u64 (s.r.x1:Nat),.int .u64 (s.r.x2:Nat),.int .u64 (s.r.x3:Nat),.int .u64 (s.r.x4:Nat),.int .u64 (s.r.x5:Nat),.int .u64 (s.r.x6:Nat),.int .u64 (s.r.x7:Nat),
  .int .u64 (s.r.pc:Nat),.int .u64 (s.r.gp:Nat),.int .u64 (s.r.dm:Nat),.int .u64 (s.r.jd:Nat),.int .u64 (s.r.qw:Nat),.int .u64 (s.r.mJ:Nat),.int .u64 (s.r.far:Nat),
  .int .i64 s.pk.cpu,.bool s.pk.fill,.bool s.pk.aO,.bool s.pk.walk,.int .i64 s.pk.drop,.bool s.pk.use,lv,.int .i64 (cpu:Nat),.bool two.on,.int .i64 two.frame,.int .i64 two.tag,.bool s.over]
section
variable {n : Nat} {w0 : World} {mu : List Nat} {l : Fm} {hp hp' : Hp} {Q : Exit → Fm → Hp → Prop} {all : Array Oper} {rest : List Oper} {ty : TypeId} {pos : String} {af : Array Edge}
theorem gz {t:TypeId} {x y:Operand} {b off sz:Nat} {v:Value} {vs:List Value} {cs:Array Value} {tb:TypeId} (cs':Array Value) (h:Ops Tryz.prog n w0 mu all rest l (⟨b,cs',tb⟩::hp') Q) (hx:ev l x=some (.pointer (some ⟨b,off,none⟩)):=by rfl) (hy:ev l y=some v:=by rfl) (pq:v.cells=vs.toArray:=by (first | ((simp only [Value.cells])<;>rfl) | rfl)) (hs:lk Tb.sz t=some sz:=by rfl) (hl:vs.length=sz:=by rfl)
  (hperm:(⟨b,cs,tb⟩::hp').Perm hp:=by (first | (with_reducible apply p0) | (with_reducible apply p1) | (with_reducible apply p2) | (with_reducible apply p3) | (with_reducible apply p4) | (with_reducible apply p5))) (hv1:vs.all (·.oneCell')=true:=by rfl) (hlt:Nat.ble (off + vs.length) cs.size=true:=by rfl) (hput:putAt cs off vs=cs':=by kernel_rfl):Ops Tryz.prog n w0 mu all (⟨none,.store t x y,ty,pos,af,none⟩::rest) l hp Q:=
 qR ay hx hy pq hs hl hperm hv1 (Nat.le_of_ble_eq_true hlt) hput h
end
theorem Fq (wv sv lv:Value) (cpu:Nat) (two:bQ) (s:PS) (mJ far M:Nat) {w:World} (hN:eP [⟨M,mc wv sv lv cpu two s,82⟩] w):Fn Tryz.prog 72 [.pointer (some ⟨M,0,none⟩),.int .u64 (mJ:Nat),.int .u64 (far:Nat)].toArray w [M] (fun u hn=>u=.tuple #[]∧aF [⟨M,mc wv sv lv cpu two (lS s mJ far),82⟩] hn):=by
 refine eF [⟨M,mc wv sv lv cpu two s,82⟩] hN Tryz.func72 ?_
 refine run ?_
 rw [show (List.take 15 (List.drop 15 (mc wv sv lv cpu two s).toList)).toArray=(dD s.r).toArray from rfl]
 refine ax (fun wc hG=>Uk s.r mJ far wc) ?_
 refine run ?_
 refine gz (mc wv sv lv cpu two { s with over:=true }) ?_
 refine run ?_
 refine gz (mc wv sv lv cpu two { s with over:=true,kind:=1 }) ?_
 refine run ?_
 refine gz (mc wv sv lv cpu two (lS s mJ far)) ?_
 refine run ?_
 exact fin0 ⟨rfl,by (exact ak)⟩
theorem H7 (wv sv lv:Value) (cpu:Nat) (two:bQ) (s:PS) (f:nD) (hf:f.stage ≠ 2→f.Fit) (addr M:Nat) {w:World} (hN:eP [⟨M,mc wv sv lv cpu two s,82⟩] w):Fn Tryz.prog 105 [.pointer (some ⟨M,0,none⟩),xZ f,.int .u64 (addr:Nat)].toArray w [M] (fun u hn=>u=.tuple #[]∧aF [⟨M,mc wv sv lv cpu two (gy s f addr),82⟩] hn):=by
 refine eF [⟨M,mc wv sv lv cpu two s,82⟩] hN Tryz.func105 ?_
 refine run ?_
 intro F
 refine run ?_
 refine gz (mc wv sv lv cpu two { s with ft:=f }) ?_ (hperm:=p1)
 refine run ?_
 refine aj _ rfl (fun hc=>?_) (fun hc=>?_)
 ·have h2:gy s f addr={ s with ft:=f,over:=true,kind:=2 }:=by
   unfold gy
   rw [show decide (f.stage=2)=true from hc];rfl
  rw [h2]
  refine run ?_
  refine gz (mc wv sv lv cpu two { s with ft:=f,over:=true }) ?_
  refine run ?_
  refine gz (mc wv sv lv cpu two { s with ft:=f,over:=true,kind:=2 }) ?_
  refine run ?_
  exact fin0 ⟨rfl,by (exact ak)⟩
 ·have h2:gy s f addr=lS { s with ft:=f } (Jz f) addr:=by
   unfold gy
   rw [show decide (f.stage=2)=false from hc];rfl
  rw [h2]
  have hF:=hf (of_decide_eq_false hc)
  refine run ?_
  refine Gs (fun wc hG=>Uz f hF wc) ?_
  rintro _ ⟨e,rfl⟩
  refine run ?_
  refine dK [⟨M,mc wv sv lv cpu two { s with ft:=f },82⟩] [⟨F,#[.int .i64 f.kind,.int .i64 f.stage,.int .i64 f.level,.bool f.walk,.int .i64 f.page],43⟩] (fun wc hG=>Fq wv sv lv cpu two { s with ft:=f } (Jz f) addr M hG.dG) (fun v hn hv=>?_) ?_
  ·obtain ⟨rfl,hle⟩:=hv
   refine run ?_
   exact fin0 ⟨rfl,by (exact cnt1 hle)⟩
  ·exact List.Perm.refl _
def mO (s:PS) (addr n:Nat):PS:=bif decide (addr % n=0) then s else lS s 16777216 addr
theorem BB (wv sv lv:Value) (cpu:Nat) (two:bQ) (s:PS) (addr n M:Nat) (hn0:0<n) (hn8:n≤8) {w:World} (hN:eP [⟨M,mc wv sv lv cpu two s,82⟩] w):Fn Tryz.prog 68 [.pointer (some ⟨M,0,none⟩),.int .u64 (addr:Nat),.int .i64 (n:Nat)].toArray w [M] (fun u hn=>u=.bool (decide (addr % n=0))∧aF [⟨M,mc wv sv lv cpu two (mO s addr n),82⟩] hn):=by
 refine eF [⟨M,mc wv sv lv cpu two s,82⟩] hN Tryz.func68 ?_
 refine run ?_
 refine eH av2 (fP rfl rfl addr n rfl rfl hn0) ?_
 refine run ?_
 refine aj _ rfl (fun hc=>?_) (fun hc=>?_)
 ·have h1:decide (addr % n=0)=false:=by simp at hc;exact decide_eq_false au'
  have h2:mO s addr n=lS s 16777216 addr:=by unfold mO;rw [h1];rfl
  rw [h1,h2]
  refine run ?_
  refine dK [⟨M,mc wv sv lv cpu two s,82⟩] [] (fun wc hG=>Fq wv sv lv cpu two s 16777216 addr M hG.dG) (fun v hn hv=>?_) ?_
  ·obtain ⟨rfl,hle⟩:=hv
   refine run ?_
   exact fin1 ⟨rfl,by (exact cnt1 hle)⟩
  ·exact List.Perm.refl _
 ·have h1:decide (addr % n=0)=true:=by simp at hc;exact decide_eq_true au'
  have h2:mO s addr n=s:=by unfold mO;rw [h1];rfl
  rw [h1,h2]
  refine run ?_
  exact fin1 ⟨rfl,by (exact ak)⟩
end
section
attribute [local irreducible] Hy St Ops DH gB iH iq fK DS fA jX
def PS.tl (s:PS) (cpu:Nat):List bg × List dB:=s.ls.getD cpu default
def PS.acc (s:PS) (cpu:Nat) (two:bQ) (addr:Nat) (acc:Int):zD:=nX ⟨s.ws,s.r.one,two,s.pk,addr / 64,acc⟩ (s.tl cpu).1
def PS.put (s:PS) (cpu:Nat) (a:zD):PS:={ s with ls:=s.ls.set cpu (a.s.es,(s.tl cpu).2),pk:={ s.pk with drop:=-1 },seen:=s.seen++a.s.rd }
def PS.see (s:PS) (n:Int):PS:={ s with seen:=s.seen++[n] }
def bW (s : PS) (cpu : Nat) (two : bQ) (addr : Nat) (acc : Int) : PS × Int :=
  bif decide (addr < 262144) then
    (bif decide ((s.acc cpu two addr acc).f.kind = 0) then ((s.put cpu (s.acc cpu two addr acc)).see (s.acc cpu two addr acc).n, (s.acc cpu two addr acc).n * 64 + ((addr % 64 : Nat) : Int))
     else (gy (s.put cpu (s.acc cpu two addr acc)) (s.acc cpu two addr acc).f addr, 0))
  else (gy s ⟨2, 1, 0, false, 4095⟩ addr, 0)
structure ML where
 wv:Value
 sv:Value
 lv:Value
 ts:List dM
 hw:Hp
 hs:Hp
 hl:Hp
 ht:Hp
def ML.hp (L:ML) (M cpu:Nat) (two:bQ) (s:PS):Hp:=⟨M,mc L.wv L.sv L.lv cpu two s,82⟩::(L.hl++L.hs++(L.hw++L.ht))
structure wK (L:ML) (s:PS):Prop where
 w:Own 25 1 L.wv L.hw (s.ws.map uV)
 q:Own 3 1 L.sv L.hs (s.seen.map dH)
 l:Own 77 2 L.lv L.hl (L.ts.map lC)
 t:jq L.ts L.ht
 p:L.ts.map dM.p=s.ls
structure fE (s:PS) (cpu:Nat) (two:bQ):Prop where
 uZ:tu s.ws
 mem:dQ s.ws.length=true
 cpu:cpu<s.ls.length
 len:s.ls.length<100000
 es:∀ t∈s.ls,gU s.ws.length t.1 t.2
 two:two.on=true∧two.may=true
 r:s.r.Ok
theorem ZN (addr:Nat) (h:addr<18446744073709551616) (w:World):Fn Tryz.prog 26 [.int .u64 (addr:Nat)].toArray w [] (fun u _=>u=bif decide (addr<262144) then .tuple #[.int .i64 ((addr / 64:Nat):Int),.int .i64 ((addr % 64:Nat):Int),.int .i64 0] else .tuple #[.int .i64 0,.int .i64 0,.int .i64 2]):=by
 refine enter Tryz.func26 ?_
 refine run ?_
 refine aj _ rfl (fun hc=>?_) (fun hc=>?_)
 ·rw [show decide (addr<262144)=false by simp at hc;exact decide_eq_false au']
  refine run ?_
  exact Gq rfl
 ·have hl:addr<262144:=by simp at hc;omega
  rw [show decide (addr<262144)=true from decide_eq_true hl]
  refine run ?_
  refine eH av2 (Xw rfl rfl addr 64 rfl rfl av1 h) ?_
  refine run ?_
  refine eH av2 (fP rfl rfl addr 64 rfl rfl av1) ?_
  refine run ?_
  exact Gq rfl
end
theorem o8:jQ.Fit:=⟨by decide,by decide,by decide,by decide⟩
theorem Rt {r w x af:Bool} {acc stage level page:Int}:gQ r w x af acc stage level page=jQ∨(gQ r w x af acc stage level page).stage=stage:=by
 unfold gQ
 cases af<;>cases vF r w x acc<;>simp
theorem XU {ws:List Nat} {stage:Int} {page:Nat}:∀ k level f rd,(G6 ws stage page k level f rd).f=jQ∨(G6 ws stage page k level f rd).f.stage=stage:=by
 intro k
 induction k with
 | zero=>intro level f rd;exact .inr rfl
 | succ k ih=>
  intro level f rd
  rw [G6]
  cases dS ws.length f with
  | false=>exact .inr rfl
  | true=>
   simp only [cond_true]
   cases decide ((Cc ws stage (sK f level page) level).kind=1) with
   | true=>exact ih _ _ _
   | false=>
    simp only [cond_false,rU]
    cases decide ((Cc ws stage (sK f level page) level).kind=0) with
    | true=>exact .inr rfl
    | false=>
     simp only [cond_false]
     cases dS ws.length ((Cc ws stage (sK f level page) level).frame + ((page % aP level:Nat):Int)) with
     | true=>exact .inl rfl
     | false=>exact .inr rfl
theorem U3 {ws:List Nat} {frame:Int} {mid:Nat} {acc:Int}:(jo ws true frame mid acc).f=jQ∨(jo ws true frame mid acc).f.stage=2:=by
 have hG:vG (jA ws 2 frame mid) mid acc=jQ∨(vG (jA ws 2 frame mid) mid acc).stage=2:=by
  unfold vG
  cases decide ((jA ws 2 frame mid).f.kind=0) with
  | true=>exact Rt
  | false=>exact XU _ _ _ _
 simp only [jo,Bool.not_true,cond_false,Jw]
 cases decide ((vG (jA ws 2 frame mid) mid acc).kind=0) with
 | true=>exact hG
 | false=>exact hG
theorem Fv {c:kW} {s:qx} {mid:Nat} {acc:Int}:(dV c s mid acc).f=jQ∨(dV c s mid acc).f.stage=2:=by
 unfold dV
 cases (c.pk.use && decide (0≤nN c s mid acc)) with
 | true=>exact .inl rfl
 | false=>
  simp only [cond_false,vH]
  have h:=U3 (ws:=c.ws) (frame:=c.two.frame) (mid:=mid) (acc:=acc)
  cases decide ((jo c.ws true c.two.frame mid acc).f.kind=0) with
  | true=>exact h
  | false=>exact h
structure Yo (n:Nat) (r:zD):Prop where
 n:r.f.kind=0→dS n r.n=true
 f:r.f.stage ≠ 2→r.f.Fit
theorem Ru {c:kW} (hk:kX c) {ds:List dB} {s:qx} (hE:gU c.ws.length s.es ds) {mid level:Nat} (hm:mid≤4095) (hl:level≤3):Yo c.ws.length (jH c s mid level):=by
 refine ⟨(su hk hE hm hl).2,?_⟩
 have h:=Fv (c:=c) (s:=s) (mid:=mid) (acc:=0)
 unfold jH
 cases hc:decide ((dV c s mid 0).f.kind=0) with
 | false=>
  simp only [Bool.not_false,cond_true]
  intro h2
  rcases h with h | h
  ·rw [h] at hc;simp [jQ] at hc
  ·exact absurd h h2
 | true=>intro _;exact o8
theorem U4 {c:kW} (hk:kX c) {ds:List dB} {s:qx} (hE:gU c.ws.length s.es ds) {level:Nat} {d:DsD} (hm:iG c level d≤4095) (hl:level≤3):Yo c.ws.length (vO c s level d):=by
 refine ⟨(Hr hk hE hm).2,?_⟩
 have h:=Fv (c:=c) (s:=s) (mid:=iG c level d) (acc:=c.acc)
 have hp:=hk.page
 have hF:(gQ d.r d.w d.x d.af c.acc 1 level c.page).Fit:=by
  unfold gQ
  cases d.af with
  | false=>exact ⟨by simp,by simp,by simp;omega,by simp;omega⟩
  | true=>
   simp only [Bool.not_true,cond_false]
   cases vF d.r d.w d.x c.acc with
   | false=>exact ⟨by simp,by simp,by simp;omega,by simp;omega⟩
   | true=>exact o8
 unfold vO
 cases decide ((gQ d.r d.w d.x d.af c.acc 1 level c.page).kind=0) with
 | false=>intro _;exact hF
 | true=>
  simp only [Bool.not_true,cond_false]
  cases hc:decide ((dV c s (iG c level d) c.acc).f.kind=0) with
  | false=>
   simp only [Bool.not_false,cond_true]
   intro h2
   rcases h with h | h
   ·rw [h];exact o8
   ·exact absurd h h2
  | true=>intro _;exact o8
theorem ZO {n:Nat} (h:dQ n=true):dS n 0=true:=by
 have:=bD h
 simp only [dS,Bool.and_eq_true,decide_eq_true_eq]
 omega
theorem Rw {c:kW} (hk:kX c) {ds:List dB}:∀ (k level:Nat) (f:Int) (s:qx),level + k=4→gU c.ws.length s.es ds→Yo c.ws.length (rX c k level f s):=by
 intro k
 induction k with
 | zero=>intro level f s hl hE;exact ⟨fun _=>ZO hk.mem,fun _=>o8⟩
 | succ k ih=>
  intro level f s hl hE
  rw [rX]
  have hp:=hk.page
  have hmay:=rQ c.ws 1 (sK f level c.page) level
  generalize Cc c.ws 1 (sK f level c.page) level=d at hmay ⊢
  obtain ⟨hkk,hk0,hk1,hk2⟩:=jT hmay
  cases h1:decide (d.kind=1) with
  | true=>
   obtain ⟨g1,g2,g3,g4⟩:=hk1 (of_decide_eq_true h1)
   have h2:=(su hk (s:=⟨s.es,s.rd++[f]⟩) hE (mid:=d.frame.toNat) (level:=level + 1) au' au').1
   have h3:=Ru hk (s:=⟨s.es,s.rd++[f]⟩) hE (mid:=d.frame.toNat) (level:=level + 1) au' au'
   simp only [cond_true]
   generalize jH c ⟨s.es,s.rd++[f]⟩ d.frame.toNat (level + 1)=T at h2 h3 ⊢
   cases hc:decide (T.f.kind=0) with
   | false=>simp only [Bool.not_false,cond_true];exact ⟨fun h=>by simp at hc;exact absurd h hc,h3.f⟩
   | true=>
    simp only [Bool.not_true,cond_false]
    exact ih (level + 1) T.n T.s au' h2.es
  | false=>
   simp only [cond_false]
   cases h0:decide (d.kind=0) with
   | true=>simp only [cond_true];exact ⟨fun h=>(by cases h),fun _=>⟨by simp,by simp,aw0,aw0⟩⟩
   | false=>
    simp only [cond_false]
    have hd2:d.kind=2:=by simp at h1 h0;omega
    exact U4 hk (s:=⟨s.es,s.rd++[f]⟩) hE (d:=d) (level:=level) (qL hmay hd2 au' c.page).1 au'
theorem U5 {c:kW} (hk:kX c) {ds:List dB} {s:qx} (hE:gU c.ws.length s.es ds):Yo c.ws.length (vP c s):=by
 have h1:=bQ.iF hk.one
 have h2:=(su hk hE (mid:=c.one.frame.toNat) (level:=0) au' au').1
 have h3:=Ru hk hE (mid:=c.one.frame.toNat) (level:=0) au' au'
 unfold vP
 generalize jH c s c.one.frame.toNat 0=T at h2 h3 ⊢
 cases hc:decide (T.f.kind=0) with
 | false=>simp only [Bool.not_false,cond_true];exact ⟨fun h=>by simp at hc;exact absurd h hc,h3.f⟩
 | true=>
  simp only [Bool.not_true,cond_false]
  exact Rw hk 4 0 T.n T.s rfl h2.es
theorem U6 {c:kW} (hk:kX c) {ds:List dB} {es:List bg} (hE:gU c.ws.length es ds):Yo c.ws.length (lX c es):=by
 unfold lX
 cases c.one.on with
 | false=>
  simp only [Bool.not_false,cond_true]
  refine ⟨fun h=>((pO hk (s:=⟨es,[]⟩) hE hk.page c.acc).2 h).1,fun h=>?_⟩
  rcases Fv (c:=c) (s:=⟨es,[]⟩) (mid:=c.page) (acc:=c.acc) with h2 | h2
  ·show (dV c ⟨es,[]⟩ c.page c.acc).f.Fit
   rw [h2];exact o8
  ·exact absurd h2 h
 | true=>
  simp only [Bool.not_true,cond_false]
  cases hc:(c.pk.use && decide (0≤iD c es)) with
  | true=>
   rw [Bool.and_eq_true,decide_eq_true_eq] at hc
   simp only [cond_true]
   have hw:(iD c es).toNat<es.length:=(Bj hc.2).1
   exact ⟨fun _=>(hE.JC hw).2,fun _=>o8⟩
  | false=>
   simp only [cond_false]
   unfold vS
   cases hc2:(c.pk.use && decide (0≤fD c es)) with
   | true=>
    rw [Bool.and_eq_true,decide_eq_true_eq] at hc2
    obtain ⟨h1,h2,h3,h4⟩:=yf hE hc2.2
    simp only [cond_true]
    exact Rw hk (ds:=ds) (4 - (es.getD (fD c es).toNat default).level.toNat) (es.getD (fD c es).toNat default).level.toNat (es.getD (fD c es).toNat default).frame ⟨es,[]⟩ au' hE
   | false=>
    simp only [cond_false]
    exact U5 hk (s:=⟨es,[]⟩) hE
theorem Fz {c:kW} (hk:kX c) {ds:List dB} {es:List bg} (hE:gU c.ws.length es ds):Yo c.ws.length (nX c es):=U6 hk (zZ hE c.pk.drop)
section
attribute [local irreducible] Hy St Ops DH gB iH iq fK DS fA jX
def PgR (A:zD) (ds:List dB) (u:Value) (hn:Hp):Prop:=∃ (ev dv rv:Value) (he hd hr:Hp),u=.tuple #[.int .i64 A.n,xZ A.f,.agg #[ev,dv],rv,.int .i64 0]∧Own 114 14 ev he (A.s.es.map bI)∧Own 121 4 dv hd (ds.map dJ)∧Own 3 1 rv hr (A.s.rd.map dH)∧aF (he++hd++hr) hn
theorem NU {c:kW} (hk:kX c) {es:List bg} {ds:List dB} (hE:gU c.ws.length es ds) (hac:PtD.bY c.acc 0 2=true):wI c.ws.length es ds c.one c.two c.page c.acc=true:=by
 have h1:=hk.page
 have h2:lQ c.ws.length es=true:=List.all_eq_true.2 fun e he=>by
  have:=jy (hE.held e he)
  exact decide_eq_true au'
 have h3:PtD.bY (c.page:Int) 0 4095=true:=lV au' au'
 simp only [wI,Cf,hk.mem,hE.vI,hk.one,hk.two,hk.on,hac,h2,h3,Bool.and_true]
theorem Rx (c:kW) (hk:kX c) (hac:PtD.bY c.acc 0 2=true) (hwl:c.ws.length<1000000) (cap:Nat) (hcc:c.ws.length≤cap) {p:Option Addr} {w:World} (es:List bg) (ds:List dB) (hE:gU c.ws.length es ds) {ev dv:Value} (hm:aB w (.slice p c.ws.length cap) 1 (c.ws.map uV)) (he:aB w ev 14 (es.map bI)) (hd:aB w dv 4 (ds.map dJ)) (hcap:∃ q c,ev=.slice q es.length c∧es.length≤c):
  Fn Tryz.prog 106 [.agg #[.slice p c.ws.length cap],.agg #[ev,dv],.agg (iK c.one).toArray,.agg (iK c.two).toArray,.int .i64 (c.page:Nat),.int .i64 c.acc,.agg (mM c.pk).toArray].toArray w [] (PgR (nX c es) ds):=by
 have h8:=dO hE.vI
 refine (UY c.ws hk.uZ hwl cap hcc es ds c.pk c.one c.two c.page c.acc hm he hd hcap au' au').mono ?_
 rintro u hn ⟨h1,_⟩
 obtain ⟨ev',rZ,rv',he',hd',hr',hu,g1,g2,g3,hle⟩:=h1 (NU hk hE hac)
 exact ⟨ev',rZ,rv',he',hd',hr',hu,g1,g2,g3,hle⟩
theorem V5 {A:zD} {ds:List dB} (h1:A.s.es.length≤8) (h2:ds.length≤8) (h3:A.s.rd.length≤100):∃ u hn,PgR A ds u hn:=by
 obtain ⟨a1,b1,o1⟩:=fF (e:=114) (xs:=A.s.es.map bI) kC av3
 obtain ⟨a2,b2,o2⟩:=fF (e:=121) (xs:=ds.map dJ) yX av3
 obtain ⟨a3,b3,o3⟩:=fF (e:=3) (xs:=A.s.rd.map dH) yO av3
 exact ⟨_,_,a1,a2,a3,b1,b2,b3,rfl,o1,o2,o3,aF.refl _⟩
theorem yl {α:Type} {a b:α}:∀ {l:List α} {k:Nat},nth l (k + 0)=some a→nth l (k + 1)=some b→List.take 2 (List.drop k l)=[a,b]
 | [],k,h,_=>by cases k<;>cases h
 | x::l,k + 1,h0,h1=>by
  rw [List.drop_succ_cons]
  exact yl (l:=l) (k:=k) (by rwa [Nat.succ_add] at h0) (by rwa [Nat.succ_add] at h1)
 | [x],0,h0,h1=>by cases h1
 | x::y::l,0,h0,h1=>by cases h0;cases h1;rfl
section
variable {n : Nat} {w0 : World} {mu : List Nat} {l : Fm} {hc : Hp} {all : Array Oper} {ds : List (Nat × Nat)} {h0 : Hp} {aG aN : Fm} {Y : Fm → Hp → Prop} {i : Nat} {r : List Nat} {ty : TypeId} {pos : String} {af : Array Edge}
theorem iO {t:TypeId} {x y:Operand} {b off sz:Nat} {v:Value} {vs:List Value} {cs:Array Value} {tb:TypeId} {hp':Hp} (cs':Array Value) (h:fA Tryz.prog n w0 mu all ds l h0 aG Y r aN (⟨b,cs',tb⟩::hp')) (ho:all[i]?=some ⟨none,.store t x y,ty,pos,af,none⟩:=by rfl)
  (hx:ev (aA ds (aN++aG) af.toList++l) x=some (.pointer (some ⟨b,off,none⟩)):=by rfl) (hy:ev (aA ds (aN++aG) af.toList++l) y=some v:=by rfl) (pq:v.cells=vs.toArray:=by (first | ((simp only [Value.cells])<;>rfl) | rfl)) (hs:lk Tb.sz t=some sz:=by rfl) (hl:vs.length=sz:=by rfl) (hperm:(⟨b,cs,tb⟩::hp').Perm hc:=by (first | (with_reducible apply p0) | (with_reducible apply p1) | (with_reducible apply p2) | (with_reducible apply p3) | (with_reducible apply p4) | (with_reducible apply p5))) (hv1:vs.all (·.oneCell')=true:=by rfl) (hlt:Nat.ble (off + vs.length) cs.size=true:=by rfl) (hput:putAt cs off vs=cs':=by kernel_rfl)
  (hle:aF h0 (⟨b,cs',tb⟩::hp'):=by (exact ak)):fA Tryz.prog n w0 mu all ds l h0 aG Y (i::r) aN hc:=WY ay ho hx hy pq hs hl hperm hv1 (Nat.le_of_ble_eq_true hlt) hput hle h
end
theorem oG (w a:Nat) {n:Nat} (hn:n≤64):aT w a n≤2 ^ n - 1:=by
 have:=oD w a n
 rwa [KC hn] at this
theorem U7 (r:aC):r.one.may=true:=by
 have h:∀ v,(lY v).frame≤4095∧0≤(lY v).frame∧(lY v).tag≤15∧0≤(lY v).tag:=fun v=>by
  have h1:=oG v 12 (n:=12) av1
  have h2:=oG v 48 (n:=4) av1
  unfold lY
  cases decide (Yn (decide (aT v 0 1=1)) (aT v 12 12) (aT v 48 4)=v) with
  | true=>simp only [cond_true];omega
  | false=>simp
 obtain ⟨h1,h2,h3,h4⟩:=h (r.gp &&& (18446744073709551615 - 1))
 have g1:PtD.bY r.one.frame 0 4095=true:=lV h2 h1
 have g2:PtD.bY r.one.tag 0 15=true:=lV h4 h3
 unfold bQ.may
 rw [g1,g2];rfl
def PS.ac (s:PS) (two:bQ) (addr:Nat) (acc:Int):kW:=⟨s.ws,s.r.one,two,s.pk,addr / 64,acc⟩
theorem fE.ac {s:PS} {cpu:Nat} {two:bQ} (h:fE s cpu two) {addr:Nat} (ha:addr<262144) (acc:Int):kX (s.ac two addr acc):=⟨h.uZ,h.mem,U7 _,h.two.2,h.two.1,by show addr / 64≤4095;omega⟩
theorem DI {l:List (List bg × List dB)} {k:Nat} (h:k<l.length):l.getD k default∈l:=by
 rw [List.getD_eq_getElem?_getD,List.getElem?_eq_getElem h];exact List.getElem_mem h
theorem fE.te {s:PS} {cpu:Nat} {two:bQ} (h:fE s cpu two):gU s.ws.length (s.tl cpu).1 (s.tl cpu).2:=h.es _ (DI h.cpu)
theorem wK.tl {L:ML} {s:PS} (h:wK L s) (cpu:Nat):(L.ts.getD cpu default).p=s.tl cpu:=by
 unfold PS.tl
 rw [← h.p,List.getD_eq_getElem?_getD,List.getD_eq_getElem?_getD,List.getElem?_map]
 cases L.ts[cpu]?<;>rfl
theorem NS.more {h h':Hp} {t:dM} (hh:∀ wc,Here h' wc→Here h wc) (ht:NS h t):NS h' t:=⟨fun wc hw=>ht.1 wc (hh wc hw),ht.2⟩
theorem yZ {a b:Hp} {wc:World} (h:Here (a++b) wc):Here b wc:=fun e he=>h e (List.mem_append_right _ he)
theorem BC {a b:Hp} {wc:World} (h:Here (a++b) wc):Here a wc:=fun e he=>h e (List.mem_append_left _ he)
theorem H8 {ts:List dM} {cpu:Nat} {y:dM} {h1 ht:Hp} (hy:NS h1 y) (h:wJ ht ts):wJ (h1++ht) (ts.set cpu y):=fun t hm=>by
 rcases List.mem_or_eq_of_mem_set hm with h2 | rfl
 ·exact (h t h2).more fun wc hw=>yZ hw
 ·exact hy.more fun wc hw=>BC hw
theorem U8 {h1 h2:Hp} {es:List bg} {ds:List dB} {q1 q2:Option Addr} {c1 c2:Nat} (g1:Own 114 14 (.slice q1 es.length c1) h1 (es.map bI)) (g2:Own 121 4 (.slice q2 ds.length c2) h2 (ds.map dJ)) (h8:es.length≤8) (h9:ds.length≤8):NS (h1++h2) ⟨es,ds,q1,c1,q2,c2⟩:=by
 refine ⟨fun wc hw=>⟨g1.lie (BC hw) av3,g2.lie (yZ hw) av3⟩,?_⟩
 obtain ⟨p,c,e,hle⟩:=g1.jS
 rw [List.length_map] at e hle
 cases e
 exact hle
theorem wK.fault {L:ML} {s:PS} (h:wK L s) (f:nD) (addr:Nat):wK L (gy s f addr):=by
 unfold gy
 cases decide (f.stage=2) with
 | true=>exact ⟨h.w,h.q,h.l,h.t,h.p⟩
 | false=>exact ⟨h.w,h.q,h.l,h.t,h.p⟩
theorem H9 (L:ML) (M cpu:Nat) (two:bQ) (s:PS) (hL:wK L s) (hs:fE s cpu two) (hsn:s.seen.length<100000) (addr:Nat) (ha:addr<18446744073709551616) (acc:Int) (hac:PtD.bY acc 0 2=true) {w:World} (hN:eP (L.hp M cpu two s) w):Fn Tryz.prog 69 [.pointer (some ⟨M,0,none⟩),.int .u64 (addr:Nat),.int .i64 acc].toArray w ((L.hp M cpu two s).map (·.b)) (fun u hn=>u=.int .i64 (bW s cpu two addr acc).2∧∃ L',wK L' (bW s cpu two addr acc).1∧aF (L'.hp M cpu two (bW s cpu two addr acc).1) hn):=by
 have htl:=hL.tl cpu
 have JM:=hs.te
 have h8:=dO JM.vI
 have hlen:L.ts.length=s.ls.length:=by rw [← hL.p,List.length_map]
 have hcl:cpu<L.ts.length:=by rw [hlen];exact hs.cpu
 obtain ⟨wv,sv,lv,ts,hw,hq,hl,ht⟩:=L
 obtain ⟨hLw,hLq,NV,XV,Yp⟩:=hL
 dsimp only at hLw hLq NV XV Yp htl hlen hcl
 obtain ⟨g,lc,fU,rfl,rfl,hsz,qM,hput⟩:=NV.NT hcl
 have hx:=XV.i _ (getD_mem hcl)
 generalize ts.getD cpu default=tc at qM hput htl hx
 obtain ⟨wp,wc,e0,hwc⟩:=hLw.jS
 rw [List.length_map] at e0 hwc
 subst e0
 refine eF (⟨M,mc (.slice wp s.ws.length wc) sv (.slice (some ⟨g,0,none⟩) ts.length lc) cpu two s,82⟩::(aI.mk g fU 77::(hq++(hw++ht)))) hN Tryz.func69 ?_
 refine run ?_
 refine ax (fun wc hG=>ZN addr ha wc) ?_
 cases hd:decide (addr<262144) with
 | false=>
  have hp:bW s cpu two addr acc=(gy s ⟨2,1,0,false,4095⟩ addr,0):=by unfold bW;rw [hd];rfl
  rw [hp]
  refine aX ?_
  refine dK [⟨M,mc (.slice wp s.ws.length wc) sv (.slice (some ⟨g,0,none⟩) ts.length lc) cpu two s,82⟩] (aI.mk g fU 77::(hq++(hw++ht))) (fun wc' hG=>H7 _ _ _ cpu two s ⟨2,1,0,false,4095⟩ (fun _=>⟨by decide,by decide,by decide,by decide⟩) addr M hG.dG) (fun v hn hv=>?_) ?_
  ·obtain ⟨rfl,hle⟩:=hv
   refine run ?_
   exact fin1 ⟨rfl,⟨.slice wp s.ws.length wc,sv,.slice (some ⟨g,0,none⟩) ts.length lc,ts,hw,hq,[⟨g,fU,77⟩],ht⟩,(wK.fault (s:=s) ⟨hLw,hLq,NV,XV,Yp⟩ ⟨2,1,0,false,4095⟩ addr),by unfold ML.hp;(exact cnt1 hle)⟩
  ·exact List.Perm.refl _
 | true=>
  have hd':=of_decide_eq_true hd
  have hld:List.take 2 (List.drop (cpu * 2) fU.toList)=[tc.ev,tc.dv]:=by
   have h0:=qM 0 tc.ev rfl
   have h1:=qM 1 tc.dv rfl
   exact yl h0 h1
  refine aX ?_
  refine iR 39 [0,1,2,3,4,5,6,7,8,9,10,11,12,13,14,15,16,17,18,19,20,21,22,23,24,25,26,27,28,29] [30,37,38] [31,32,33,34,35,36] [39,42,43] [40,41] ?_
  refine fB ?_
  rw [show (List.take 15 (List.drop 15 (mc (.slice wp s.ws.length wc) sv (.slice (some ⟨g,0,none⟩) ts.length lc) cpu two s).toList)).toArray=(dD s.r).toArray from rfl,show (List.take 1 (mc (.slice wp s.ws.length wc) sv (.slice (some ⟨g,0,none⟩) ts.length lc) cpu two s).toList).toArray=#[.slice wp s.ws.length wc] from rfl]
  refine AZ (fun wc hx hG=>Xv s.r hs.r.gp hs.r.dm wc) ?_
  refine fB ?_
  have hAo:=Bl (hs.ac hd' acc) JM
  have hAr:=Fz (hs.ac hd' acc) JM
  refine iW (fun wc' hG=>Rx (s.ac two addr acc) (hs.ac hd' acc) hac (by have:=bD hs.mem;show s.ws.length<_;omega) wc hwc tc.es tc.ds (by rw [← htl] at JM;exact JM) (hLw.lie (fun e he=>hG.here e aw1) (by have:=bD hs.mem;rw [List.length_map];omega)) (hx.1 wc' (fun e he=>hG.here e aw1)).1 (hx.1 wc' (fun e he=>hG.here e aw1)).2 ⟨_,_,rfl,hx.2⟩) ?_ ?_
  ·rw [← htl] at hAo h8;exact V5 (dO hAo.es.vI).2.1 h8.2.2 ax9
  refine dR ?_
  refine dR ?_
  refine gZ ?_
  rintro _ _ ⟨Y2,rfl,rfl⟩ _ _ ⟨Y1,rfl,rfl⟩ u hn ⟨ev1,o6,pR,he1,hd1,hr1,rfl,g1,g2,g3,hle⟩
  have XW:s.acc cpu two addr acc=nX (s.ac two addr acc) (s.tl cpu).1:=rfl
  have Ry:s.acc cpu two addr acc=nX (s.ac two addr acc) tc.es:=by unfold PS.acc;rw [← htl];rfl
  obtain ⟨X,hX⟩:∃ X,X=s.acc cpu two addr acc:=⟨_,rfl⟩
  rw [← Ry,← hX] at g1 g3 ⊢
  have hX8:X.s.es.length≤8:=by rw [hX,Ry];rw [← htl] at hAo;exact (dO hAo.es.vI).2.1
  have hD8:tc.ds.length≤8:=by rw [← htl] at h8;exact h8.2.2
  have hXf:X.f.stage ≠ 2→X.f.Fit:=by rw [hX,Ry];rw [← htl] at hAr;exact hAr.f
  have ZH:X.f.kind=0→dS s.ws.length X.n=true:=by rw [hX,Ry];rw [← htl] at hAr;exact hAr.n
  obtain ⟨r1,c1,e1⟩:=g1.opened
  obtain ⟨r2,c2,e2⟩:=g2.opened
  obtain ⟨r3,c3,e3⟩:=g3.opened
  rw [List.length_map] at e1 e2 e3
  subst e1 e2 e3
  refine ni ?_
  refine aS ?_
  refine aS ?_
  refine aS ?_
  refine aS ?_
  refine aS ?_
  refine fC ?_
  refine iE ?_
  refine iE ?_
  refine iE ?_
  refine fC ?_
  simp only [DN,List.cons_append,List.nil_append,List.append_nil]
  refine aV (b:=Y1) (tb:=43) (cs:=#[.int .i64 0,.int .i64 0,.int .i64 0,.bool false,.int .i64 0]) (cs':=#[.int .i64 X.f.kind,.int .i64 X.f.stage,.int .i64 X.f.level,.bool X.f.walk,.int .i64 X.f.page]) (hp':=⟨Y2,#[.slice none 0 0,.slice none 0 0],77⟩::(hn++aI.mk M (mc (.slice wp s.ws.length wc) sv (.slice (some ⟨g,0,none⟩) ts.length lc) cpu two s) 82::aI.mk g fU 77::(hq++(hw++ht)))) ?_ au
  refine aV (b:=Y2) (tb:=77) (cs:=#[.slice none 0 0,.slice none 0 0]) (cs':=#[.slice r1 X.s.es.length c1,.slice r2 tc.ds.length c2]) (hp':=⟨Y1,#[.int .i64 X.f.kind,.int .i64 X.f.stage,.int .i64 X.f.level,.bool X.f.walk,.int .i64 X.f.page],43⟩::(hn++aI.mk M (mc (.slice wp s.ws.length wc) sv (.slice (some ⟨g,0,none⟩) ts.length lc) cpu two s) 82::aI.mk g fU 77::(hq++(hw++ht)))) ?_ au
  refine aH ?_
  refine di ?_
  refine aJ (aI.mk g fU 77::aI.mk M (mc (.slice wp s.ws.length wc) sv (.slice (some ⟨g,0,none⟩) ts.length lc) cpu two s) 82::⟨Y1,#[.int .i64 X.f.kind,.int .i64 X.f.stage,.int .i64 X.f.level,.bool X.f.walk,.int .i64 X.f.page],43⟩::⟨Y2,#[.slice r1 X.s.es.length c1,.slice r2 tc.ds.length c2],77⟩::((he1++hd1++hr1)++(hq++(hw++ht)))) (cnt1 hle) ?_
  refine run ?_
  refine dN 16 11 [0,1,2,3,4,5,6,7,8,9,10,12,13,14] [11,15] [] ?_
  refine dh ?_
  refine qg (b:=g) (cs:=fU) (cs':=putAt fU (cpu * 2) [.slice r1 X.s.es.length c1,.slice r2 tc.ds.length c2]) (hp':=aI.mk M (mc (.slice wp s.ws.length wc) sv (.slice (some ⟨g,0,none⟩) ts.length lc) cpu two s) 82::⟨Y1,#[.int .i64 X.f.kind,.int .i64 X.f.stage,.int .i64 X.f.level,.bool X.f.walk,.int .i64 X.f.page],43⟩::⟨Y2,#[.slice r1 X.s.es.length c1,.slice r2 tc.ds.length c2],77⟩::((he1++hd1++hr1)++(hq++(hw++ht)))) ?_ (hput:=rfl)
  refine iO (b:=M) (mc (.slice wp s.ws.length wc) sv (.slice (some ⟨g,0,none⟩) ts.length lc) cpu two { s with pk:={ s.pk with drop:=-1 } }) (hp':=aI.mk g (putAt fU (cpu * 2) [.slice r1 X.s.es.length c1,.slice r2 tc.ds.length c2]) 77::⟨Y1,#[.int .i64 X.f.kind,.int .i64 X.f.stage,.int .i64 X.f.level,.bool X.f.walk,.int .i64 X.f.page],43⟩::⟨Y2,#[.slice r1 X.s.es.length c1,.slice r2 tc.ds.length c2],77⟩::((he1++hd1++hr1)++(hq++(hw++ht)))) ?_ (hperm:=p1)
  refine aH ?_
  refine di ?_
  refine run ?_
  have hrd:=hAo.rd
  rw [← XW,← hX] at hrd
  simp only [List.length_nil,Nat.zero_add] at hrd
  refine pM (X.s.rd.map dH) (aI.mk M (mc (.slice wp s.ws.length wc) sv (.slice (some ⟨g,0,none⟩) ts.length lc) cpu two { s with pk:={ s.pk with drop:=-1 } }) 82::aI.mk g (putAt fU (cpu * 2) [.slice r1 X.s.es.length c1,.slice r2 tc.ds.length c2]) 77::⟨Y1,#[.int .i64 X.f.kind,.int .i64 X.f.stage,.int .i64 X.f.level,.bool X.f.walk,.int .i64 X.f.page],43⟩::⟨Y2,#[.slice r1 X.s.es.length c1,.slice r2 tc.ds.length c2],77⟩::((he1++hd1++hr1)++(hw++ht))) hLq (uH.own g3 ak) (fun sv2 hq2 hO2=>?_) az3 yO au
  rw [← List.map_append] at hO2
  obtain ⟨q2,k2,e4⟩:=hO2.opened
  rw [List.length_map] at e4
  subst e4
  refine aJ (aI.mk M (mc (.slice wp s.ws.length wc) sv (.slice (some ⟨g,0,none⟩) ts.length lc) cpu two { s with pk:={ s.pk with drop:=-1 } }) 82::(hq2++(aI.mk g (putAt fU (cpu * 2) [.slice r1 X.s.es.length c1,.slice r2 tc.ds.length c2]) 77::⟨Y1,#[.int .i64 X.f.kind,.int .i64 X.f.stage,.int .i64 X.f.level,.bool X.f.walk,.int .i64 X.f.page],43⟩::⟨Y2,#[.slice r1 X.s.es.length c1,.slice r2 tc.ds.length c2],77⟩::((he1++hd1++hr1)++(hw++ht))))) ak ?_
  refine run ?_
  refine gz (mc (.slice wp s.ws.length wc) (.slice q2 (s.seen++X.s.rd).length k2) (.slice (some ⟨g,0,none⟩) ts.length lc) cpu two (s.put cpu X)) ?_
  refine run ?_
  have hO3:=hput 0 [.slice r1 X.s.es.length c1,.slice r2 tc.ds.length c2] ⟨X.s.es,tc.ds,r1,c1,r2,c2⟩ av4 rfl ⟨rfl,rfl⟩
  have hM:wK ⟨.slice wp s.ws.length wc,.slice q2 (s.seen++X.s.rd).length k2,(.slice (some ⟨g,0,none⟩) ts.length lc),ts.set cpu ⟨X.s.es,tc.ds,r1,c1,r2,c2⟩,hw,hq2,[⟨g,putAt fU (cpu * 2) [.slice r1 X.s.es.length c1,.slice r2 tc.ds.length c2],77⟩],he1++hd1++ht⟩ (s.put cpu X):=
   ⟨hLw,hO2,hO3,jq.set (y:=⟨X.s.es,tc.ds,r1,c1,r2,c2⟩) ⟨g1,g2,hX8,hD8⟩ cpu XV,by rw [List.map_set,Yp];show s.ls.set cpu (X.s.es,tc.ds)=s.ls.set cpu (X.s.es,(s.tl cpu).2);rw [← htl]⟩
  refine aj _ rfl (fun hc=>?_) (fun hc=>?_)
  ·have hk:X.f.kind ≠ 0:=by simpa using hc
   have hp:bW s cpu two addr acc=(gy (s.put cpu X) X.f addr,0):=by
    unfold bW
    rw [← hX,hd,decide_eq_false hk];rfl
   rw [hp]
   refine run ?_
   refine dK [⟨M,mc (.slice wp s.ws.length wc) (.slice q2 (s.seen++X.s.rd).length k2) (.slice (some ⟨g,0,none⟩) ts.length lc) cpu two (s.put cpu X),82⟩] (hq2++(aI.mk g (putAt fU (cpu * 2) [.slice r1 X.s.es.length c1,.slice r2 tc.ds.length c2]) 77::⟨Y1,#[.int .i64 X.f.kind,.int .i64 X.f.stage,.int .i64 X.f.level,.bool X.f.walk,.int .i64 X.f.page],43⟩::⟨Y2,#[.slice r1 X.s.es.length c1,.slice r2 tc.ds.length c2],77⟩::((he1++hd1++hr1)++(hw++ht)))) (fun wc' hG=>H7 _ _ _ cpu two (s.put cpu X) X.f hXf addr M hG.dG) (fun v hn hv=>?_) ?_
   ·obtain ⟨rfl,hle⟩:=hv
    refine run ?_
    exact fin1 ⟨rfl,_,hM.fault _ _,by unfold ML.hp;(exact cnt1 hle)⟩
   ·exact List.Perm.refl _
  ·have hk:X.f.kind=0:=by simpa using hc
   have hp:bW s cpu two addr acc=((s.put cpu X).see X.n,X.n * 64 + ((addr % 64:Nat):Int)):=by
    unfold bW
    rw [← hX,hd,decide_eq_true hk];rfl
   rw [hp]
   refine run ?_
   intro B
   have hn:=jy (ZH hk)
   have BV:=bD hs.mem
   refine pM ([X.n].map dH) (aI.mk M (mc (.slice wp s.ws.length wc) (.slice q2 (s.seen++X.s.rd).length k2) (.slice (some ⟨g,0,none⟩) ts.length lc) cpu two (s.put cpu X)) 82::⟨B,#[.int .i64 X.n],3⟩::aI.mk g (putAt fU (cpu * 2) [.slice r1 X.s.es.length c1,.slice r2 tc.ds.length c2]) 77::⟨Y1,#[.int .i64 X.f.kind,.int .i64 X.f.stage,.int .i64 X.f.level,.bool X.f.walk,.int .i64 X.f.page],43⟩::⟨Y2,#[.slice r1 X.s.es.length c1,.slice r2 tc.ds.length c2],77⟩::((he1++hd1++hr1)++(hw++ht))) hO2 ⟨_,_,rfl,.inr ⟨_,_,rfl,bT (m:=1) mh rfl⟩⟩ (fun sv3 hq3 hO4=>?_) ay7 yO au
   rw [← List.map_append] at hO4
   obtain ⟨q3,k3,e5⟩:=hO4.opened
   rw [List.length_map] at e5
   subst e5
   refine aJ (aI.mk M (mc (.slice wp s.ws.length wc) (.slice q2 (s.seen++X.s.rd).length k2) (.slice (some ⟨g,0,none⟩) ts.length lc) cpu two (s.put cpu X)) 82::(hq3++(aI.mk g (putAt fU (cpu * 2) [.slice r1 X.s.es.length c1,.slice r2 tc.ds.length c2]) 77::⟨Y1,#[.int .i64 X.f.kind,.int .i64 X.f.stage,.int .i64 X.f.level,.bool X.f.walk,.int .i64 X.f.page],43⟩::⟨Y2,#[.slice r1 X.s.es.length c1,.slice r2 tc.ds.length c2],77⟩::((he1++hd1++hr1)++(hw++ht))))) ak ?_
   refine run ?_
   refine gz (mc (.slice wp s.ws.length wc) (.slice q3 (s.seen++X.s.rd++[X.n]).length k3) (.slice (some ⟨g,0,none⟩) ts.length lc) cpu two (s.put cpu X)) ?_
   refine run ?_
   refine fin1 ⟨rfl,⟨.slice wp s.ws.length wc,.slice q3 (s.seen++X.s.rd++[X.n]).length k3,(.slice (some ⟨g,0,none⟩) ts.length lc),ts.set cpu ⟨X.s.es,tc.ds,r1,c1,r2,c2⟩,hw,hq3,[⟨g,putAt fU (cpu * 2) [.slice r1 X.s.es.length c1,.slice r2 tc.ds.length c2],77⟩],he1++hd1++ht⟩,⟨hM.w,hO4,hM.l,hM.t,hM.p⟩,?_⟩
   unfold ML.hp
   show aF (⟨M,mc (.slice wp s.ws.length wc) (.slice q3 (s.seen++X.s.rd++[X.n]).length k3) (.slice (some ⟨g,0,none⟩) ts.length lc) cpu two (s.put cpu X),82⟩::_) _
   (exact ak)
end
def aC.x (r:aC):Nat→Nat
 | 0=>r.x0 | 1=>r.x1 | 2=>r.x2 | 3=>r.x3 | 4=>r.x4 | 5=>r.x5 | 6=>r.x6 | _=>r.x7
def aC.kE (r:aC) (k v:Nat):aC:=
 match k with
 | 0=>{ r with x0:=v } | 1=>{ r with x1:=v } | 2=>{ r with x2:=v } | 3=>{ r with x3:=v }
 | 4=>{ r with x4:=v } | 5=>{ r with x5:=v } | 6=>{ r with x6:=v } | _=>{ r with x7:=v }
theorem aC.x_lt {r:aC} (h:r.Ok) (k:Nat):gq (r.x k):=by
 obtain ⟨h0,h1,h2,h3,h4,h5,h6,h7,_⟩:=h
 unfold aC.x;split<;>assumption
theorem aC.FB {r:aC} (h:r.Ok) (k:Nat) {v:Nat} (hv:gq v):(r.kE k v).Ok:=by
 obtain ⟨h0,h1,h2,h3,h4,h5,h6,h7,h8,h9,h10,h11,h12,h13,Su⟩:=h
 unfold aC.kE;split<;>(constructor<;>assumption)
theorem aC.XX {r:aC} (h:r.Ok) (k:Int) {v:Nat} (hv:gq v):(r.set k v).Ok:=by
 obtain ⟨h0,h1,h2,h3,h4,h5,h6,h7,h8,h9,h10,h11,h12,h13,Su⟩:=h
 unfold aC.set
 cases decide (k=0)<;>cases decide (k=1)<;>cases decide (k=2)<;>cases decide (k=3)<;>cases decide (k=4)<;>(simp only [cond_true,cond_false];constructor<;>assumption)
theorem aC.XY {r:aC} (h:r.Ok) (k:Int):gq (r.get k):=by
 obtain ⟨h0,h1,h2,h3,h4,h5,h6,h7,h8,h9,h10,h11,h12,h13,Su⟩:=h
 unfold aC.get aC.Zh
 rw [List.getD_eq_getElem?_getD]
 match k.toNat with
 | 0=>exact h9
 | 1=>exact h10
 | 2=>exact h11
 | 3=>exact h12
 | 4=>exact h13
 | 5=>exact Su
 | _ + 6=>show (0:Nat)<_;decide
theorem aC.Lh {r:aC} (h:r.Ok) {a b:Nat} (ha:gq a) (hb:gq b):(r.trap a b).Ok:=by
 obtain ⟨h0,h1,h2,h3,h4,h5,h6,h7,h8,h9,h10,h11,h12,h13,Su⟩:=h
 unfold aC.trap
 constructor<;>assumption
theorem aC.U9 {r:aC} (h:r.Ok):r.back.Ok:=by
 obtain ⟨h0,h1,h2,h3,h4,h5,h6,h7,h8,h9,h10,h11,h12,h13,Su⟩:=h
 unfold aC.back
 constructor<;>assumption
theorem DJ (z:Int):gq (uW z):=by
 have h1:=Ba z
 have h2:IntKind.u64.wrap z<18446744073709551616:=by
  show z % 18446744073709551616<_
  omega
 unfold gq
 omega
theorem DK:∀ (l:List Int) (p:Nat),gq p→gq (l.foldl Qz p)
 | [],p,h=>h
 | x::l,p,h=>DK l (Qz p x) (DJ _)
theorem aC.Va {r:aC} (h:r.Ok) (l:List Int):(r.next l).Ok:=by
 have hp:=DK l _ (DJ ((r.pc:Int) + 4))
 obtain ⟨h0,h1,h2,h3,h4,h5,h6,h7,h8,h9,h10,h11,h12,h13,Su⟩:=h
 unfold aC.next
 constructor<;>assumption
def jE (s:PS) (cpu:Nat):PS:={ s with ls:=vX s.ls cpu }
def PS.due (s:PS) (two:bQ) (i:bG):dB:=⟨i.aW,two.tag,(aT (s.r.x i.n.toNat) 48 4:Nat),(aT (s.r.x i.n.toNat) 0 12:Nat)⟩
def PS.more (s:PS) (cpu:Nat) (d:dB):PS:={ s with ls:=s.ls.set cpu ((s.tl cpu).1,(s.tl cpu).2++[d]) }
def ja (s:PS) (cpu:Nat) (two:bQ) (i:bG):PS:=
 bif decide ((s.tl cpu).2.length<8) then s.more cpu (s.due two i) else (jE s cpu).more cpu (s.due two i)
def kY (s : PS) (cpu : Nat) (two : bQ) : PS :=
  bif decide (s.r.pc % 4 = 0) then
    (bif (bW s cpu two s.r.pc 2).1.over then (bW s cpu two s.r.pc 2).1
     else bif bG.Be (ji s.ws (bW s cpu two s.r.pc 2).2.toNat 4) then { (bW s cpu two s.r.pc 2).1 with iZ := bG.of (ji s.ws (bW s cpu two s.r.pc 2).2.toNat 4) }
     else lS (bW s cpu two s.r.pc 2).1 33554432 s.r.pc)
  else lS s 16777216 s.r.pc
def PS.addr (s:PS) (i:bG):Nat:=uW ((s.r.x i.n.toNat:Nat) + i.aW)
def bG.acc (i:bG):Int:=bif decide (i.op=8) then 1 else 0
def sQ (s : PS) (cpu : Nat) (two : bQ) (i : bG) : PS :=
  bif decide (s.addr i % 2 ^ i.m.toNat = 0) then
    (bif (bW s cpu two (s.addr i) i.acc).1.over then (bW s cpu two (s.addr i) i.acc).1
     else bif decide (i.op = 8) then { (bW s cpu two (s.addr i) i.acc).1 with ws := gJ s.ws (bW s cpu two (s.addr i) i.acc).2.toNat (2 ^ i.m.toNat) (s.r.x i.d.toNat) }
     else { (bW s cpu two (s.addr i) i.acc).1 with r := s.r.kE i.d.toNat (ji s.ws (bW s cpu two (s.addr i) i.acc).2.toNat (2 ^ i.m.toNat)) })
  else lS s 16777216 (s.addr i)
def sW (s:PS) (cpu:Nat) (two:bQ) (i:bG):PS × Option (List Int):=
 bif decide (i.op=7) || decide (i.op=8) then (sQ s cpu two i,some [])
 else bif decide (i.op=9) then (s,some [i.aW])
 else bif decide (i.op=10) then (s,some (bif decide (s.r.x i.n.toNat=0) then [i.aW] else []))
 else bif decide (i.op=11) then ({ s with r:=s.r.kE i.d.toNat (s.r.get i.aW) },some [])
 else bif decide (i.op=12) then ({ s with r:=s.r.set i.aW (s.r.x i.n.toNat) },some [])
 else bif decide (i.op=13) then (ja s cpu two i,some [])
 else bif decide (i.op=14) then (jE s cpu,some [])
 else bif decide (i.op=15) then ({ s with kind:=3 },some [])
 else bif decide (i.op=16) then ({ s with r:=s.r.back },none)
 else ({ s with r:=s.r.kE i.d.toNat (Bf i (s.r.x i.n.toNat) (s.r.x i.m.toNat)).toNat },some [])
def nG (x:PS × Option (List Int)):PS:=
 bif x.1.over then x.1 else match x.2 with
  | none=>x.1
  | some l=>{ x.1 with r:=x.1.r.next l }
def o9 (s:PS) (cpu:Nat) (two:bQ):PS:=
 bif (kY s cpu two).over then kY s cpu two else nG (sW (kY s cpu two) cpu two (kY s cpu two).iZ)
theorem fE.trap {s:PS} {cpu:Nat} {two:bQ} (h:fE s cpu two) {a b:Nat} (ha:gq a) (hb:gq b):fE (lS s a b) cpu two:=⟨h.uZ,h.mem,h.cpu,h.len,h.es,h.two,aC.Lh h.r ha hb⟩
theorem fE.fault {s:PS} {cpu:Nat} {two:bQ} (h:fE s cpu two) (f:nD) {b:Nat} (hb:gq b):fE (gy s f b) cpu two:=by
 unfold gy
 cases decide (f.stage=2) with
 | true=>exact ⟨h.uZ,h.mem,h.cpu,h.len,h.es,h.two,h.r⟩
 | false=>exact ⟨h.uZ,h.mem,h.cpu,h.len,h.es,h.two,aC.Lh h.r (Qb _ _ _ av1) hb⟩
theorem sF (s:PS) (f:nD) (b:Nat):(gy s f b).over=true:=by
 unfold gy
 cases decide (f.stage=2)<;>rfl
theorem BD (s:PS) (f:nD) (b:Nat):(gy s f b).seen=s.seen:=by
 unfold gy
 cases decide (f.stage=2)<;>rfl
theorem fE.put {s:PS} {cpu:Nat} {two:bQ} (h:fE s cpu two) {X:zD} (hX:gU s.ws.length X.s.es (s.tl cpu).2):fE (s.put cpu X) cpu two:=by
 refine ⟨h.uZ,h.mem,by show cpu<(s.ls.set cpu _).length;rw [List.length_set];exact h.cpu,by show (s.ls.set cpu _).length<_;rw [List.length_set];exact h.len,fun t ht=>?_,h.two,h.r⟩
 rcases List.mem_or_eq_of_mem_set ht with ht | rfl
 ·exact h.es t ht
 ·exact hX
theorem lF {s:PS} {cpu:Nat} {two:bQ} (h:fE s cpu two) {addr:Nat} (ha:gq addr) (acc:Int):fE (bW s cpu two addr acc).1 cpu two∧(bW s cpu two addr acc).1.seen.length≤s.seen.length + 25∧((bW s cpu two addr acc).1.over=false→(bW s cpu two addr acc).1.ws=s.ws∧(bW s cpu two addr acc).1.r=s.r∧(bW s cpu two addr acc).1.kind=s.kind∧∃ a:Nat,(bW s cpu two addr acc).2=(a:Int)∧a<8 * s.ws.length∧a % 64=addr % 64):=by
 unfold bW
 cases hd:decide (addr<262144) with
 | false=>
  simp only [cond_false]
  refine ⟨h.fault _ ha,by rw [BD];omega,fun hv=>?_⟩
  rw [sF] at hv;cases hv
 | true=>
  have hd':=of_decide_eq_true hd
  have hAo:=Bl (h.ac hd' acc) h.te
  have hAr:=Fz (h.ac hd' acc) h.te
  have Ry:s.acc cpu two addr acc=nX (s.ac two addr acc) (s.tl cpu).1:=rfl
  rw [← Ry] at hAo hAr
  generalize s.acc cpu two addr acc=X at hAo hAr ⊢
  have hrd:=hAo.rd
  simp only [List.length_nil,Nat.zero_add] at hrd
  have hp:=h.put hAo.es
  have hsl:(s.put cpu X).seen.length≤s.seen.length + 24:=by
   show (s.seen++X.s.rd).length≤_
   rw [List.length_append];omega
  simp only [cond_true]
  cases hc:decide (X.f.kind=0) with
  | false=>
   simp only [cond_false]
   refine ⟨hp.fault _ ha,by rw [BD];omega,fun hv=>?_⟩
   rw [sF] at hv;cases hv
  | true=>
   simp only [cond_true]
   refine ⟨⟨hp.uZ,hp.mem,hp.cpu,hp.len,hp.es,hp.two,hp.r⟩,?_,fun _=>⟨rfl,rfl,rfl,X.n.toNat * 64 + addr % 64,?_⟩⟩
   ·show ((s.put cpu X).seen++[X.n]).length≤_
    rw [List.length_append,List.length_singleton];omega
   ·have hn:0≤X.n∧X.n.toNat<s.ws.length / 8∧(X.n.toNat:Int)=X.n:=jy (hAr.n (of_decide_eq_true hc))
    have hm:=bD h.mem
    refine ⟨by omega,by omega,by omega⟩
theorem Lj {s:PS} {cpu:Nat} {two:bQ} (h:fE s cpu two) {a addr size:Nat} (ha:a<8 * s.ws.length) (hm:a % 64=addr % 64) (hs:size=1∨size=2∨size=4∨size=8) (hal:addr % size=0):yh s.ws a size:=by
 have:=bD h.mem
 refine ⟨h.uZ,by have:=h.mem;simp only [dQ,Bool.and_eq_true,decide_eq_true_eq] at this;omega,by omega,ha,hs,?_⟩
 rcases hs with rfl | rfl | rfl | rfl<;>omega
theorem BF {ws:List Nat} {a size:Nat} (hs:size=1∨size=2∨size=4∨size=8):ji ws a size<2 ^ (8 * size):=by
 have h1:=oG (ws.getD (a / 8) default) (a % 8 * 8) (n:=8 * size) au'
 unfold ji
 rcases hs with rfl | rfl | rfl | rfl<;>(simp only [Nat.reduceMul,Nat.reducePow,Nat.reduceSub] at h1 ⊢;omega)
theorem FC {v:Nat} (h:bG.Be v=true):(bG.of v).may=true:=by
 have h2:bG.of v=bG.Np v:=by unfold bG.of;rw [h];rfl
 rw [h2]
 simp only [bG.Be,Bool.and_eq_true] at h
 exact h.1
theorem Ia {s:PS} {cpu:Nat} {two:bQ} (h:fE s cpu two):fE (kY s cpu two) cpu two∧(kY s cpu two).seen.length≤s.seen.length + 25∧((kY s cpu two).over=false→(kY s cpu two).iZ.may=true∧(kY s cpu two).kind=s.kind):=by
 obtain ⟨h1,h2,h3⟩:=lF h h.r.pc 2
 unfold kY
 cases hd:decide (s.r.pc % 4=0) with
 | false=>exact ⟨h.trap (by unfold gq;decide) h.r.pc,(by show s.seen.length≤_;omega),fun hv=>by cases hv⟩
 | true=>
  generalize bW s cpu two s.r.pc 2=P at h1 h2 h3 ⊢
  simp only [cond_true]
  cases ho:P.1.over with
  | true=>exact ⟨h1,h2,fun hv=>by rw [cond_true,ho] at hv;cases hv⟩
  | false=>
   simp only [cond_false]
   cases hk:bG.Be (ji s.ws P.2.toNat 4) with
   | true=>exact ⟨⟨h1.uZ,h1.mem,h1.cpu,h1.len,h1.es,h1.two,h1.r⟩,h2,fun _=>⟨FC hk,(h3 ho).2.2.1⟩⟩
   | false=>exact ⟨h1.trap (by unfold gq;decide) h.r.pc,h2,fun hv=>by cases hv⟩
theorem DL {ws:List Nat} (h:tu ws) {a size v:Nat}:tu (gJ ws a size v):=by
 refine h.set ?_ _
 have h1:ws.getD (a / 8) default<18446744073709551616:=h.at _
 unfold ZJ
 exact Nat.or_lt_two_pow (n:=64) (Nat.lt_of_le_of_lt Nat.and_le_left h1) (Nat.mod_lt _ av1)
theorem FD {i:bG} (hi:i.may=true) (h:i.op=7∨i.op=8):2 ^ i.m.toNat=1∨2 ^ i.m.toNat=2∨2 ^ i.m.toNat=4∨2 ^ i.m.toNat=8:=by
 have h2:i.kind=true:=by
  simp only [bG.may,Bool.and_eq_true] at hi;exact hi.2
 have h3:i.m≤3:=by
  unfold bG.kind at h2
  rcases h with h | h<;>(rw [h] at h2;simpa using h2)
 have h4:i.m.toNat=0∨i.m.toNat=1∨i.m.toNat=2∨i.m.toNat=3:=by omega
 rcases h4 with e | e | e | e<;>rw [e]<;>decide
theorem Vb {s:PS} {cpu:Nat} {two:bQ} (h:fE s cpu two) {i:bG} (hi:i.may=true) (hop:i.op=7∨i.op=8):fE (sQ s cpu two i) cpu two∧(sQ s cpu two i).seen.length≤s.seen.length + 25:=by
 have ha:gq (s.addr i):=DJ _
 obtain ⟨h1,h2,h3⟩:=lF h ha i.acc
 have hsz:=FD hi hop
 unfold sQ
 cases hd:decide (s.addr i % 2 ^ i.m.toNat=0) with
 | false=>exact ⟨h.trap (by unfold gq;decide) ha,by show s.seen.length≤_;omega⟩
 | true=>
  generalize bW s cpu two (s.addr i) i.acc=P at h1 h2 h3 ⊢
  simp only [cond_true]
  cases ho:P.1.over with
  | true=>exact ⟨h1,h2⟩
  | false=>
   obtain ⟨h4,h5,_,a,h6,h7,h8⟩:=h3 ho
   simp only [cond_false]
   cases decide (i.op=8) with
   | true=>exact ⟨⟨DL h.uZ,by rw [cond_true];show dQ (gJ s.ws _ _ _).length=true;rw [gJ,List.length_set];exact h.mem,h1.cpu,h1.len,by rw [cond_true];show ∀ t∈P.1.ls,gU (gJ s.ws _ _ _).length t.1 t.2;rw [gJ,List.length_set,← h4];exact h1.es,h1.two,h1.r⟩,h2⟩
   | false=>exact ⟨⟨h1.uZ,h1.mem,h1.cpu,h1.len,h1.es,h1.two,aC.FB h.r _ (Nat.lt_of_lt_of_le (BF hsz) (by rcases hsz with e | e | e | e<;>rw [e]<;>decide))⟩,h2⟩
theorem DR {n:Nat} {es:List bg} {ds ds2 due:List dB} (h:gU n es ds) (hd:ds2.all dB.may=true) (h8:ds2.length≤8):gU n (eG es due) ds2:=by
 obtain ⟨h1,h2,h3,h4,h5⟩:=rY.1 h.vI
 have hsub:(eG es due).Sublist es:=List.filter_sublist
 exact ⟨rY.2 ⟨fun e he=>h1 e (hsub.subset he),h2.sublist hsub,hd,Nat.le_trans hsub.length_le h4,h8⟩,fun e he=>h.held e (hsub.subset he)⟩
theorem pV {s:PS} {cpu:Nat} {two:bQ} (h:fE s cpu two):fE (jE s cpu) cpu two:=by
 have hl:(vX s.ls cpu).length=s.ls.length:=by unfold vX;rw [List.length_set,List.length_map]
 refine ⟨h.uZ,h.mem,by show cpu<(vX s.ls cpu).length;rw [hl];exact h.cpu,by show (vX s.ls cpu).length<_;rw [hl];exact h.len,fun t ht=>?_,h.two,h.r⟩
 rcases List.mem_or_eq_of_mem_set ht with ht | rfl
 ·obtain ⟨u,hu,rfl⟩:=List.mem_map.1 ht
  have:=rY.1 (h.es u hu).vI
  exact DR (h.es u hu) this.2.2.1 this.2.2.2.2
 ·exact DR (h.es _ (DI h.cpu)) rfl av4
theorem Ll {s:PS} {cpu:Nat} {two:bQ} (h:fE s cpu two) {d:dB} (hd:d.may=true) (h8:(s.tl cpu).2.length<8):fE (s.more cpu d) cpu two:=by
 refine ⟨h.uZ,h.mem,by show cpu<(s.ls.set cpu _).length;rw [List.length_set];exact h.cpu,by show (s.ls.set cpu _).length<_;rw [List.length_set];exact h.len,fun t ht=>?_,h.two,h.r⟩
 rcases List.mem_or_eq_of_mem_set ht with ht | rfl
 ·exact h.es t ht
 ·obtain ⟨h1,h2,h3,h4,h5⟩:=rY.1 h.te.vI
  refine ⟨rY.2 ⟨h1,h2,?_,h4,?_⟩,h.te.held⟩
  ·rw [List.all_append,h3];simp [hd]
  ·rw [List.length_append,List.length_singleton];omega
theorem Lm {s:PS} {cpu:Nat} {two:bQ} (h:fE s cpu two) {i:bG} (hi:i.may=true) (hop:i.op=13):(s.due two i).may=true:=by
 have h2:i.kind=true:=by
  simp only [bG.may,Bool.and_eq_true] at hi;exact hi.2
 have h3:PtD.bY i.aW 3 5=true:=by
  unfold bG.kind at h2
  rw [hop] at h2;simpa using h2
 have h4:=bQ.iF h.two.2
 have h5:=oG (s.r.x i.n.toNat) 48 (n:=4) av1
 have h6:=oG (s.r.x i.n.toNat) 0 (n:=12) av1
 simp only [PtD.bY,Bool.and_eq_true,decide_eq_true_eq] at h3
 unfold dB.may PS.due
 simp only [PtD.bY,Bool.and_eq_true,decide_eq_true_eq]
 omega
theorem FH {s:PS} {cpu:Nat} (h:cpu<s.ls.length):(jE s cpu).tl cpu=(eG (s.tl cpu).1 (s.tl cpu).2,[]):=by
 unfold PS.tl jE vX
 rw [List.getD_eq_getElem?_getD,List.getElem?_set_self (by rw [List.length_map];exact h)]
 rfl
theorem NW {s:PS} {cpu:Nat} {two:bQ} (h:fE s cpu two) {i:bG} (hi:i.may=true) (hop:i.op=13):fE (ja s cpu two i) cpu two:=by
 have hd:=Lm h hi hop
 unfold ja
 cases h8:decide ((s.tl cpu).2.length<8) with
 | true=>exact Ll h hd (of_decide_eq_true h8)
 | false=>exact Ll (pV h) hd (by rw [FH h.cpu];exact Nat.zero_lt_succ 7)
theorem Vd {i:bG} {n m:Nat} (hn:gq n) (hm:gq m):gq (Bf i n m).toNat:=by
 have hw:∀ z:Int,gq (IntKind.u64.wrap z).toNat:=DJ
 have hmod:∀ z:Int,gq (z % 18446744073709551616).toNat:=fun z=>by unfold gq;omega
 unfold Bf
 cases decide (i.op=1) with
 | true=>exact hw _
 | false=>
  cases decide (i.op=2) with
  | true=>exact hmod _
  | false=>
   cases decide (i.op=3) with
   | true=>exact hmod _
   | false=>
    cases decide (i.op=4) with
    | true=>exact Nat.lt_of_le_of_lt Nat.and_le_left hn
    | false=>
     cases decide (i.op=5) with
     | true=>exact Nat.or_lt_two_pow (n:=64) hn hm
     | false=>exact Nat.xor_lt_two_pow (n:=64) hn hm
theorem fE.reg {s:PS} {cpu:Nat} {two:bQ} (h:fE s cpu two) {r:aC} (hr:r.Ok):fE { s with r:=r } cpu two:=⟨h.uZ,h.mem,h.cpu,h.len,h.es,h.two,hr⟩
theorem V6 {s:PS} {cpu:Nat} {two:bQ} (h:fE s cpu two) {i:bG} (hi:i.may=true):fE (sW s cpu two i).1 cpu two∧(sW s cpu two i).1.seen.length≤s.seen.length + 25:=by
 unfold sW
 cases Ve:(decide (i.op=7) || decide (i.op=8)) with
 | true=>exact Vb h hi (by simpa using Ve)
 | false=>
  cases decide (i.op=9) with
  | true=>exact ⟨h,by show s.seen.length≤_;omega⟩
  | false=>
   cases decide (i.op=10) with
   | true=>exact ⟨h,by show s.seen.length≤_;omega⟩
   | false=>
    cases decide (i.op=11) with
    | true=>exact ⟨h.reg (aC.FB h.r _ (aC.XY h.r _)),by show s.seen.length≤_;omega⟩
    | false=>
     cases decide (i.op=12) with
     | true=>exact ⟨h.reg (aC.XX h.r _ (aC.x_lt h.r _)),by show s.seen.length≤_;omega⟩
     | false=>
      cases h13:decide (i.op=13) with
      | true=>exact ⟨NW h hi (of_decide_eq_true h13),by simp only [cond_true,cond_false];unfold ja;cases decide ((s.tl cpu).2.length<8)<;>(show s.seen.length≤_;omega)⟩
      | false=>
       cases decide (i.op=14) with
       | true=>exact ⟨pV h,by show s.seen.length≤_;omega⟩
       | false=>
        cases decide (i.op=15) with
        | true=>exact ⟨⟨h.uZ,h.mem,h.cpu,h.len,h.es,h.two,h.r⟩,by show s.seen.length≤_;omega⟩
        | false=>
         cases decide (i.op=16) with
         | true=>exact ⟨h.reg (aC.U9 h.r),by show s.seen.length≤_;omega⟩
         | false=>exact ⟨h.reg (aC.FB h.r _ (Vd (aC.x_lt h.r _) (aC.x_lt h.r _))),by show s.seen.length≤_;omega⟩
theorem step_ok {s:PS} {cpu:Nat} {two:bQ} (h:fE s cpu two):fE (o9 s cpu two) cpu two∧(o9 s cpu two).seen.length≤s.seen.length + 50:=by
 obtain ⟨h1,h2,h3⟩:=Ia h
 unfold o9
 generalize kY s cpu two=F at h1 h2 h3 ⊢
 cases ho:F.over with
 | true=>exact ⟨h1,by rw [cond_true];omega⟩
 | false=>
  obtain ⟨h4,h5⟩:=V6 h1 (h3 ho).1
  simp only [cond_false]
  generalize sW F cpu two F.iZ=D at h4 h5 ⊢
  unfold nG
  cases D.1.over with
  | true=>exact ⟨h4,by rw [cond_true];omega⟩
  | false=>
   match D.2 with
   | none=>exact ⟨h4,by show D.1.seen.length≤_;omega⟩
   | some l=>exact ⟨h4.reg (aC.Va h4.r l),by show D.1.seen.length≤_;omega⟩
section
attribute [local irreducible] Hy St Ops DH gB iH iq fK DS fA jX
theorem uP {α:Type} {b:Bool} {x y:α} (h:b=true):(bif b then x else y)=x:=by rw [h];rfl
theorem l7 {α:Type} {b:Bool} {x y:α} (h:b=false):(bif b then x else y)=y:=by rw [h];rfl
def Vf (M cpu:Nat) (two:bQ) (s:PS) (v:Value) (u:Value) (hn:Hp):Prop:=u=v∧∃ L,wK L s∧aF (L.hp M cpu two s) hn
theorem wK.mem {L:ML} {s:PS} (h:wK L s):∃ wp wc,L.wv=.slice wp s.ws.length wc∧s.ws.length≤wc:=by
 obtain ⟨wp,wc,e,h2⟩:=h.w.jS
 rw [List.length_map] at e h2
 exact ⟨wp,wc,e,h2⟩
theorem wK.trap {L:ML} {s:PS} (h:wK L s) (a b:Nat):wK L (lS s a b):=⟨h.w,h.q,h.l,h.t,h.p⟩
theorem Rz (L:ML) (M cpu:Nat) (two:bQ) (s:PS) (hL:wK L s) (hs:fE s cpu two) (hq:s.seen.length<90000) (hov:s.over=false) {w:World} (hN:eP (L.hp M cpu two s) w):Fn Tryz.prog 40 [.pointer (some ⟨M,0,none⟩)].toArray w ((L.hp M cpu two s).map (·.b)) (Vf M cpu two (kY s cpu two) (.tuple #[])):=by
 obtain ⟨h1,h2,h3⟩:=lF hs hs.r.pc 2
 refine eF (aI.mk M (mc L.wv L.sv L.lv cpu two s) 82::(L.hl++L.hs++(L.hw++L.ht))) hN Tryz.func40 ?_
 refine run ?_
 refine dK [aI.mk M (mc L.wv L.sv L.lv cpu two s) 82] (L.hl++L.hs++(L.hw++L.ht)) (fun wc hG=>BB L.wv L.sv L.lv cpu two s s.r.pc 4 M av1 av1 hG.dG) (fun v hn hv=>?_) (.refl _)
 obtain ⟨rfl,hle⟩:=hv
 unfold kY
 cases hd:decide (s.r.pc % 4=0) with
 | false=>
  have ha:mO s s.r.pc 4=lS s 16777216 s.r.pc:=by unfold mO;rw [hd];rfl
  rw [ha] at hle
  simp only [cond_false]
  refine aX ?_
  exact fin0 ⟨rfl,L,hL.trap _ _,by unfold ML.hp;(exact cnt1 hle)⟩
 | true=>
  have ha:mO s s.r.pc 4=s:=by unfold mO;rw [hd];rfl
  rw [ha] at hle
  refine aJ (aI.mk M (mc L.wv L.sv L.lv cpu two s) 82::(L.hl++L.hs++(L.hw++L.ht))) (cnt1 hle) ?_
  refine aX ?_
  refine dK (aI.mk M (mc L.wv L.sv L.lv cpu two s) 82::(L.hl++L.hs++(L.hw++L.ht))) [] (fun wc hG=>H9 L M cpu two s hL hs au' s.r.pc hs.r.pc 2 rfl hG.dG) (fun v hn2 hv=>?_) au
  obtain ⟨rfl,L2,hL2,hle2⟩:=hv
  generalize bW s cpu two s.r.pc 2=P at h1 h2 h3 hL2 hle2 ⊢
  unfold ML.hp at hle2
  refine aJ (aI.mk M (mc L2.wv L2.sv L2.lv cpu two P.1) 82::(L2.hl++L2.hs++(L2.hw++L2.ht))) (cnt1 hle2) ?_
  simp only [cond_true]
  refine run ?_
  refine aj _ rfl (fun hc=>?_) (fun hc=>?_)
  ·rw [uP hc]
   refine run ?_
   exact fin0 ⟨rfl,L2,hL2,by unfold ML.hp;(exact ak)⟩
  rw [l7 hc]
  obtain ⟨hws,hr,_,a,ha2,hlt,hm⟩:=h3 hc
  have hpl:yh P.1.ws a 4:=Lj h1 (by rw [hws];exact hlt) hm (.inr (.inr (.inl rfl))) (of_decide_eq_true hd)
  obtain ⟨wp,wc,ew,hwc⟩:=hL2.mem
  have hml:∀ w',Here L2.hw w'→aB w' L2.wv 1 (P.1.ws.map uV):=fun w' hw=>hL2.w.lie hw (by have:=bD h1.mem;rw [List.length_map];omega)
  rw [ew] at hml ⊢
  rw [← hws,← hr,ha2,Int.toNat_natCast]
  have hrl:ji P.1.ws a 4<4294967296:=BF (.inr (.inr (.inl rfl)))
  refine run ?_
  refine ax (fun wc' hG=>Lc P.1.ws a 4 hpl (hml wc' (fun e he=>hG.here e aw1))) ?_
  refine run ?_
  refine eH av2 (jk ay rfl rfl rfl) ?_
  rw [show IntKind.u32.wrap ((ji P.1.ws a 4:Nat):Int)=((ji P.1.ws a 4:Nat):Int) by rw [IntKind.wrap_u32];omega]
  refine run ?_
  refine ax (fun wc' hG=>Zn (ji P.1.ws a 4) hrl wc') ?_
  refine run ?_
  intro I
  refine run ?_
  cases hk:bG.Be (ji P.1.ws a 4) with
  | false=>
   simp only [cond_false]
   refine aX ?_
   refine dK [aI.mk M (mc (.slice wp P.1.ws.length wc) L2.sv L2.lv cpu two P.1) 82] (aI.mk I #[.int .i64 (bG.of (ji P.1.ws a 4)).op,.int .i64 (bG.of (ji P.1.ws a 4)).d,.int .i64 (bG.of (ji P.1.ws a 4)).n,.int .i64 (bG.of (ji P.1.ws a 4)).m,.int .i64 (bG.of (ji P.1.ws a 4)).aW] 41::(L2.hl++L2.hs++(L2.hw++L2.ht))) (fun wc' hG=>Fq _ L2.sv L2.lv cpu two P.1 33554432 P.1.r.pc M hG.dG) (fun v hn hv=>?_) au
   obtain ⟨rfl,hle⟩:=hv
   refine run ?_
   exact fin0 ⟨rfl,L2,hL2.trap _ _,by unfold ML.hp;rw [ew];(exact cnt1 hle)⟩
  | true=>
   simp only [cond_true]
   refine aX ?_
   refine gz (mc (.slice wp P.1.ws.length wc) L2.sv L2.lv cpu two { P.1 with iZ:=bG.of (ji P.1.ws a 4) }) ?_ (hperm:=p1)
   refine run ?_
   exact fin0 ⟨rfl,L2,⟨hL2.w,hL2.q,hL2.l,hL2.t,hL2.p⟩,by unfold ML.hp;rw [ew];(exact ak)⟩
theorem RD (wv sv lv:Value) (cpu:Nat) (two:bQ) (s:PS) {k:Nat} (h:k<8):nth (mc wv sv lv cpu two s).toList (15 + k)=some (.int .u64 (s.r.x k:Nat)):=by
 match k,h with
 | 0,_=>rfl | 1,_=>rfl | 2,_=>rfl | 3,_=>rfl | 4,_=>rfl | 5,_=>rfl | 6,_=>rfl | 7,_=>rfl
theorem FI (wv sv lv:Value) (cpu:Nat) (two:bQ) (s:PS) {k:Nat} (h:k<8) (v:Nat):putAt (mc wv sv lv cpu two s) (15 + k) [.int .u64 (v:Nat)]=mc wv sv lv cpu two { s with r:=s.r.kE k v }:=by
 match k,h with
 | 0,_=>rfl | 1,_=>rfl | 2,_=>rfl | 3,_=>rfl | 4,_=>rfl | 5,_=>rfl | 6,_=>rfl | 7,_=>rfl
theorem DT (x:Nat) (aW:Int):IntKind.u64.wrap ((x:Int) + IntKind.u64.wrap aW)=((uW ((x:Nat) + aW):Nat):Int):=by
 rw [← Ba]
 simp only [IntKind.wrap_u64]
 omega
theorem k3 {K:Nat} (h:2 ^ K=1∨2 ^ K=2∨2 ^ K=4∨2 ^ K=8):K≤3:=by
 refine Nat.le_of_not_lt fun h2=>?_
 have:2 ^ 4≤2 ^ K:=Nat.pow_le_pow_right av1 h2
 omega
theorem DU {K:Nat} (h:K≤3):IntKind.i64.wrap (1 * 2 ^ (K:Int).toNat)=((2 ^ K:Nat):Int):=by
 match K,h with
 | 0,_=>decide
 | 1,_=>decide
 | 2,_=>decide
 | 3,_=>decide
theorem Vg (L:ML) (M cpu:Nat) (two:bQ) (s:PS) (hL:wK L s) (hs:fE s cpu two) (hq:s.seen.length<90000) (hov:s.over=false) (op aW:Int) (D N K:Nat) (hi:(⟨op,D,N,K,aW⟩:bG).may=true) (hop:op=7∨op=8) {w:World} (hN:eP (L.hp M cpu two s) w):Fn Tryz.prog 73 [.pointer (some ⟨M,0,none⟩),.agg #[.int .i64 op,.int .i64 (D:Nat),.int .i64 (N:Nat),.int .i64 (K:Nat),.int .i64 aW]].toArray w ((L.hp M cpu two s).map (·.b)) (Vf M cpu two (sQ s cpu two ⟨op,D,N,K,aW⟩) (.tuple #[])):=by
 have hb:PtD.bY (D:Int) 0 7=true∧PtD.bY (N:Int) 0 7=true∧PtD.bY (K:Int) 0 7=true:=by
  simp only [bG.may,bG.base,Bool.and_eq_true] at hi
  exact ⟨hi.1.2.1,hi.1.2.2.1,hi.1.2.2.2.1⟩
 obtain ⟨hD,hN',hK⟩:D<8∧N<8∧K<8:=by
  simp only [PtD.bY,Bool.and_eq_true,decide_eq_true_eq] at hb;omega
 have hsz:=FD hi hop
 have hsz':2 ^ K=1∨2 ^ K=2∨2 ^ K=4∨2 ^ K=8:=hsz
 have hK3:=k3 hsz'
 have hxN:=RD L.wv L.sv L.lv cpu two s hN'
 refine eF (aI.mk M (mc L.wv L.sv L.lv cpu two s) 82::(L.hl++L.hs++(L.hw++L.ht))) hN Tryz.func73 ?_
 refine run ?_
 intro I
 refine run ?_
 refine eU ?_
 refine cu ?_
 refine qo (jk ay rfl rfl rfl) ?_
 refine cu ?_
 refine qo (wG rfl rfl au' (by show (K:Int)≤64;omega)) ?_
 rw [DT,DU hK3]
 rw [show uW ((s.r.x N:Nat) + aW)=s.addr ⟨op,D,N,K,aW⟩ from rfl]
 have ha0:gq (s.addr ⟨op,D,N,K,aW⟩):=DJ _
 unfold sQ
 obtain ⟨Z,hZ⟩:∃ Z,Z=s.addr ⟨op,D,N,K,aW⟩:=⟨_,rfl⟩
 obtain ⟨ac,hac⟩:∃ ac,ac=bG.acc ⟨op,D,N,K,aW⟩:=⟨_,rfl⟩
 have XZ:PtD.bY ac 0 2=true:=by rw [hac];unfold bG.acc;cases decide (op=8)<;>rfl
 rw [← hZ] at ha0 ⊢
 rw [← hac]
 dsimp only [Int.toNat_natCast]
 obtain ⟨h1,h2,h3⟩:=lF hs ha0 ac
 refine cu ?_
 refine run ?_
 refine dK [aI.mk M (mc L.wv L.sv L.lv cpu two s) 82] (aI.mk I #[.int .i64 op,.int .i64 (D:Nat),.int .i64 (N:Nat),.int .i64 (K:Nat),.int .i64 aW] 41::(L.hl++L.hs++(L.hw++L.ht))) (fun wc hG=>BB L.wv L.sv L.lv cpu two s Z (2 ^ K) M au' au' hG.dG) (fun v hn hv=>?_) au
 obtain ⟨rfl,hle⟩:=hv
 cases hd:decide (Z % 2 ^ K=0) with
 | false=>
  have ha:mO s Z (2 ^ K)=lS s 16777216 Z:=by unfold mO;rw [hd];rfl
  rw [ha] at hle
  simp only [cond_false]
  refine aX ?_
  exact fin0 ⟨rfl,L,hL.trap _ _,by unfold ML.hp;(exact cnt1 hle)⟩
 | true=>
  have ha:mO s Z (2 ^ K)=s:=by unfold mO;rw [hd];rfl
  rw [ha] at hle
  refine aJ (aI.mk I #[.int .i64 op,.int .i64 (D:Nat),.int .i64 (N:Nat),.int .i64 (K:Nat),.int .i64 aW] 41::aI.mk M (mc L.wv L.sv L.lv cpu two s) 82::(L.hl++L.hs++(L.hw++L.ht))) (cnt1 hle) ?_
  refine aX ?_
  refine dX (σ:=Unit) (fun _=>[(6,.int .i64 ac),(5,.int .i64 (2 ^ K:Nat)),(4,.int .u64 (Z:Nat)),(3,.pointer (some ⟨I,0,none⟩)),(0,.pointer (some ⟨M,0,none⟩))]) (fun _=>aI.mk I #[.int .i64 op,.int .i64 (D:Nat),.int .i64 (N:Nat),.int .i64 (K:Nat),.int .i64 aW] 41::aI.mk M (mc L.wv L.sv L.lv cpu two s) 82::(L.hl++L.hs++(L.hw++L.ht))) (fun _=>True) ?_ ?_
  ·refine aj _ rfl (fun hc=>?_) (fun hc=>?_)
   ·rw [show ac=1 by rw [hac];unfold bG.acc;rw [hc];rfl]
    refine run ?_
    exact dA () trivial
   ·rw [show ac=0 by rw [hac];unfold bG.acc;rw [hc];rfl]
    refine run ?_
    exact dA () trivial
  rintro _ _
  refine run ?_
  refine dK (aI.mk M (mc L.wv L.sv L.lv cpu two s) 82::(L.hl++L.hs++(L.hw++L.ht))) [aI.mk I #[.int .i64 op,.int .i64 (D:Nat),.int .i64 (N:Nat),.int .i64 (K:Nat),.int .i64 aW] 41] (fun wc hG=>H9 L M cpu two s hL hs au' Z ha0 ac XZ hG.dG) (fun v hn2 hv=>?_) au
  obtain ⟨rfl,L2,hL2,hle2⟩:=hv
  generalize bW s cpu two Z ac=P at h1 h2 h3 hL2 hle2 ⊢
  unfold ML.hp at hle2
  refine aJ (aI.mk I #[.int .i64 op,.int .i64 (D:Nat),.int .i64 (N:Nat),.int .i64 (K:Nat),.int .i64 aW] 41::aI.mk M (mc L2.wv L2.sv L2.lv cpu two P.1) 82::(L2.hl++L2.hs++(L2.hw++L2.ht))) (cnt1 hle2) ?_
  simp only [cond_true]
  refine run ?_
  refine aj _ rfl (fun hc=>?_) (fun hc=>?_)
  ·rw [uP hc]
   refine run ?_
   exact fin0 ⟨rfl,L2,hL2,by unfold ML.hp;(exact ak)⟩
  rw [l7 hc]
  obtain ⟨hws,hr,_,a,ha2,hlt,hm⟩:=h3 hc
  have hpl:yh P.1.ws a (2 ^ K):=Lj h1 (by rw [hws];exact hlt) hm hsz' (of_decide_eq_true hd)
  obtain ⟨wp,wc,ew,hwc⟩:=hL2.mem
  have hml:∀ w',Here L2.hw w'→aB w' L2.wv 1 (P.1.ws.map uV):=fun w' hw=>hL2.w.lie hw (by have:=bD h1.mem;rw [List.length_map];omega)
  rw [ew] at hml ⊢
  rw [← hws,← hr,ha2,Int.toNat_natCast]
  refine run ?_
  have hxD:=RD (.slice wp P.1.ws.length wc) L2.sv L2.lv cpu two P.1 hD
  refine aj _ rfl (fun hc8=>?_) (fun hc8=>?_)
  ·rw [uP hc8]
   refine run ?_
   refine iR 20 [0,1,2,3,4,5,6,7,8,9,10,11,12,13,14,15] [16] [17,18,19] [20,21] [22] ?_
   refine fB ?_
   refine iW (fun wc' hG=>Rj P.1.ws a (2 ^ K) (P.1.r.x D) hpl (aC.x_lt h1.r D) (hml wc' (fun e he=>hG.here e aw1))) ?_ ?_
   ·obtain ⟨a1,b1,o1⟩:=fF (e:=25) (xs:=(gJ P.1.ws a (2 ^ K) (P.1.r.x D)).map uV) (yj _) (by have:=bD h1.mem;rw [List.length_map,gJ,List.length_set];omega)
    exact ⟨_,_,a1,b1,rfl,o1,aF.refl _⟩
   refine gZ ?_
   rintro u hn ⟨v',h',rfl,g1,hle3⟩
   refine ni ?_
   refine aS ?_
   refine aS ?_
   refine fC ?_
   refine jU ?_
   refine rP ?_
   refine fC ?_
   simp only [DN,List.cons_append,List.nil_append,List.append_nil]
   obtain ⟨q1,c1,e1⟩:=g1.opened
   rw [List.length_map] at e1
   subst e1
   refine iO (b:=M) (tb:=82) (cs:=mc (.slice wp P.1.ws.length wc) L2.sv L2.lv cpu two P.1) (mc (.slice q1 (gJ P.1.ws a (2 ^ K) (P.1.r.x D)).length c1) L2.sv L2.lv cpu two { P.1 with ws:=gJ P.1.ws a (2 ^ K) (P.1.r.x D) }) (hp':=hn++(aI.mk I #[.int .i64 op,.int .i64 (D:Nat),.int .i64 (N:Nat),.int .i64 (K:Nat),.int .i64 aW] 41::(L2.hl++L2.hs++(L2.hw++L2.ht)))) ?_ (hperm:=by (exact au))
   refine aH ?_
   refine di ?_
   refine run ?_
   exact fin0 ⟨rfl,⟨.slice q1 (gJ P.1.ws a (2 ^ K) (P.1.r.x D)).length c1,L2.sv,L2.lv,L2.ts,h',L2.hs,L2.hl,L2.ht⟩,⟨g1,hL2.q,hL2.l,hL2.t,hL2.p⟩,by unfold ML.hp;(exact cnt1 hle3)⟩
  ·rw [l7 hc8]
   refine run ?_
   refine dN 19 18 [0,1,2,3,4,5,6,7,8,9,10,11,12,13,14,15,16,17] [18] [] ?_
   refine dh ?_
   refine kU (fun wc' hx hG=>Lc P.1.ws a (2 ^ K) hpl (hml wc' (fun e he=>hG.here e aw1))) ?_
   refine dh ?_
   refine iO (b:=M) (tb:=82) (cs:=mc (.slice wp P.1.ws.length wc) L2.sv L2.lv cpu two P.1) (mc (.slice wp P.1.ws.length wc) L2.sv L2.lv cpu two { P.1 with r:=P.1.r.kE D (ji P.1.ws a (2 ^ K)) }) (hp':=aI.mk I #[.int .i64 op,.int .i64 (D:Nat),.int .i64 (N:Nat),.int .i64 (K:Nat),.int .i64 aW] 41::(L2.hl++L2.hs++(L2.hw++L2.ht))) ?_ (hperm:=by (exact au)) (hput:=FI _ _ _ _ _ _ hD _) (hlt:=Nat.ble_eq_true_of_le (show 15 + D + 1≤42 by omega))
   refine aH ?_
   refine di ?_
   refine run ?_
   exact fin0 ⟨rfl,L2,⟨hL2.w,hL2.q,hL2.l,hL2.t,hL2.p⟩,by unfold ML.hp;rw [ew];(exact ak)⟩
theorem wK.tls {L:ML} {s:PS} {cpu:Nat} {two:bQ} (h:wK L s) (hs:fE s cpu two) {w:World} (h1:Here L.hl w) (h2:Here L.ht w):qI w L.lv L.ts:=by
 have hlen:L.ts.length=s.ls.length:=by rw [← h.p,List.length_map]
 have:=hs.len
 exact ⟨h.l.lie h1 av3,fun t ht=>((h.t.i t ht).1 w h2).1,fun t ht=>((h.t.i t ht).1 w h2).2⟩
theorem wK.Vh {L:ML} {s:PS} {cpu:Nat} {two:bQ} (h:wK L s) (hs:fE s cpu two):(∀ t∈L.ts,t.es.length≤t.ec)∧(∀ t∈L.ts,bK t.es t.ds=true):=by
 refine ⟨fun t ht=>(h.t.i t ht).2,fun t ht=>?_⟩
 have hm:t.p∈s.ls:=by rw [← h.p];exact List.mem_map.2 ⟨t,ht,rfl⟩
 exact (hs.es _ hm).vI
def X0:Hp:=[⟨0,#[],0⟩,⟨0,#[.bool true],0⟩]
theorem Ib {w:World} (h:Here X0 w):False:=by
 have h1:=h _ (List.mem_cons_self ..)
 have h2:=h _ (List.mem_cons_of_mem _ (List.mem_cons_self ..))
 have h3:=h1.symm.trans h2
 simp only [Option.some.injEq,Obj.cells.injEq] at h3
 exact absurd (congrArg Array.size h3.1) av1
theorem vw {ls:List (List bg × List dB)} (hl:ls.length<100000):∃ v ha hs,∃ ts:List dM,Own 77 2 v ha (ts.map lC)∧wJ hs ts∧ts.map dM.p=ls:=by
 obtain ⟨v,ha,hO⟩:=fF (e:=77) (sz:=2) (xs:=(ls.map fun t=>(⟨t.1,t.2,none,t.1.length,none,0⟩:dM)).map lC) (fun c hc=>by obtain ⟨x,_,rfl⟩:=List.mem_map.1 hc;exact ⟨rfl,rfl⟩) az3
 refine ⟨v,ha,X0,_,hO,fun t ht=>⟨fun wc hw=>(Ib hw).elim,?_⟩,by rw [List.map_map];exact List.map_id _⟩
 obtain ⟨u,_,rfl⟩:=List.mem_map.1 ht
 exact Nat.le_refl _
theorem BG {ls:List (List bg × List dB)} (hl:ls.length<100000) (h8:∀ t∈ls,t.1.length≤8∧t.2.length≤8):∃ v ha hs,∃ ts:List dM,Own 77 2 v ha (ts.map lC)∧jq ts hs∧ts.map dM.p=ls:=by
 obtain ⟨ts,h,h1,h2⟩:=DF ls h8
 obtain ⟨v,ha,hO⟩:=fF (e:=77) (sz:=2) (xs:=ts.map lC) (fun c hc=>by obtain ⟨x,_,rfl⟩:=List.mem_map.1 hc;exact ⟨rfl,rfl⟩) (by rw [List.length_map];have:=congrArg List.length h2;simp at this;omega)
 exact ⟨v,ha,h,ts,hO,h1,h2⟩
theorem Lp (L:ML) (M cpu:Nat) (two:bQ) (s:PS) (hL:wK L s) (hs:fE s cpu two) {w:World} (hN:eP (L.hp M cpu two s) w):Fn Tryz.prog 77 [.pointer (some ⟨M,0,none⟩)].toArray w ((L.hp M cpu two s).map (·.b)) (Vf M cpu two (jE s cpu) (.tuple #[])):=by
 obtain ⟨htc,hto⟩:=hL.Vh hs
 have hlen:L.ts.length=s.ls.length:=by rw [← hL.p,List.length_map]
 have hcl:cpu<L.ts.length:=by rw [hlen];exact hs.cpu
 have hll:L.ts.length<100000:=by rw [hlen];exact hs.len
 refine eF (aI.mk M (mc L.wv L.sv L.lv cpu two s) 82::(L.hl++L.hs++(L.hw++L.ht))) hN Tryz.func77 ?_
 refine run ?_
 refine iR 13 [0,1,2,3,4,5,6,7,8] [9] [10,11,12] [13,14] [15] ?_
 refine fB ?_
 refine iW (fun wc hG=>U1 L.ts cpu hcl hll (hL.tls hs (fun e he=>hG.here e aw1) (fun e he=>hG.here e aw1)) htc hto) ?_ ?_
 ·rw [hL.p]
  obtain ⟨v,ha,h',ts',h1,h2,h3⟩:=BG (pV hs).len (fun t ht=>by have:=dO ((pV hs).es t ht).vI;exact this.2)
  exact ⟨_,_,v,ha,h',ts',rfl,h1,h2,h3,aF.refl _⟩
 refine gZ ?_
 rintro u hn ⟨v,ha,h',ts',rfl,g1,g2,g3,hle⟩
 refine ni ?_
 refine aS ?_
 refine aS ?_
 refine fC ?_
 refine jU ?_
 refine rP ?_
 refine fC ?_
 simp only [DN,List.cons_append,List.nil_append,List.append_nil]
 have hv:=g1.opened
 obtain ⟨q1,c1,e1⟩:=hv
 subst e1
 refine iO (b:=M) (tb:=82) (cs:=mc L.wv L.sv L.lv cpu two s) (mc L.wv L.sv (.slice q1 (ts'.map lC).length c1) cpu two (jE s cpu)) (hp':=hn++(L.hl++L.hs++(L.hw++L.ht))) ?_ (hperm:=by (exact au))
 refine aH ?_
 refine di ?_
 refine run ?_
 refine fin0 ⟨rfl,⟨L.wv,L.sv,.slice q1 (ts'.map lC).length c1,ts',L.hw,L.hs,ha,h'⟩,⟨hL.w,hL.q,g1,g2,?_⟩,by unfold ML.hp;(exact cnt1 hle)⟩
 rw [g3,hL.p];rfl
theorem wK.row {L:ML} {s:PS} {cpu:Nat} {two:bQ} (h:wK L s) (hs:fE s cpu two):∃ g lc fU,∃ tc:dM,L.lv=.slice (some ⟨g,0,none⟩) L.ts.length lc∧L.hl=[⟨g,fU,77⟩]∧List.take 2 (List.drop (cpu * 2) fU.toList)=[tc.ev,tc.dv]∧tc.p=s.tl cpu∧NS L.ht tc∧cpu<L.ts.length∧cpu * 2 + 2≤fU.size ∧
  ∀ (y:dM) (he hd:Hp),Fj y he hd→Own 77 2 (.slice (some ⟨g,0,none⟩) L.ts.length lc) [⟨g,putAt fU (cpu * 2) [y.ev,y.dv],77⟩] ((L.ts.set cpu y).map lC)∧jq (L.ts.set cpu y) (he++hd++L.ht)∧(L.ts.set cpu y).map dM.p=s.ls.set cpu y.p:=by
 have hlen:L.ts.length=s.ls.length:=by rw [← h.p,List.length_map]
 have hcl:cpu<L.ts.length:=by rw [hlen];exact hs.cpu
 obtain ⟨g,lc,fU,e1,e2,hsz,qM,hput⟩:=h.l.NT hcl
 refine ⟨g,lc,fU,L.ts.getD cpu default,e1,e2,yl (qM 0 _ rfl) (qM 1 _ rfl),h.tl cpu,h.t.i _ (getD_mem hcl),hcl,hsz,fun y he hd hty=>⟨hput 0 [y.ev,y.dv] y av4 rfl ⟨rfl,rfl⟩,jq.set hty cpu h.t,by rw [List.map_set,h.p]⟩⟩
theorem BH (es:List bg) (ds:List dB) (d:dB) (h1:es.length≤8) (h2:ds.length≤8):∃ r hn v1 h1 v2 h2,r=Value.tuple #[.agg #[v1,v2],.int .i64 0]∧Own 114 14 v1 h1 (es.map bI)∧Own 121 4 v2 h2 ((ds++[d]).map dJ)∧aF (h1++h2) hn:=by
 obtain ⟨a1,b1,o1⟩:=fF (e:=114) (xs:=es.map bI) kC av3
 obtain ⟨a2,b2,o2⟩:=fF (e:=121) (xs:=(ds++[d]).map dJ) yX (by rw [List.length_map,List.length_append,List.length_singleton];omega)
 exact ⟨_,_,a1,b1,a2,b2,rfl,o1,o2,aF.refl _⟩
theorem NY (L:ML) (M cpu:Nat) (two:bQ) (s:PS) (hL:wK L s) (hs:fE s cpu two) (op aW:Int) (D N K:Nat) (hi:(⟨op,D,N,K,aW⟩:bG).may=true) (hop:op=13) {w:World} (hN:eP (L.hp M cpu two s) w):Fn Tryz.prog 76 [.pointer (some ⟨M,0,none⟩),.agg #[.int .i64 op,.int .i64 (D:Nat),.int .i64 (N:Nat),.int .i64 (K:Nat),.int .i64 aW]].toArray w ((L.hp M cpu two s).map (·.b)) (Vf M cpu two (ja s cpu two ⟨op,D,N,K,aW⟩) (.tuple #[])):=by
 have hb:PtD.bY (N:Int) 0 7=true:=by
  simp only [bG.may,bG.base,Bool.and_eq_true] at hi
  exact hi.1.2.2.1
 obtain hN':N<8:=by
  simp only [PtD.bY,Bool.and_eq_true,decide_eq_true_eq] at hb;omega
 have hxN:=RD L.wv L.sv L.lv cpu two s hN'
 have hdm:=Lm hs hi hop
 obtain ⟨d,hd⟩:∃ d,d=s.due two ⟨op,D,N,K,aW⟩:=⟨_,rfl⟩
 refine eF (aI.mk M (mc L.wv L.sv L.lv cpu two s) 82::(L.hl++L.hs++(L.hw++L.ht))) hN Tryz.func76 ?_
 refine run ?_
 intro I
 refine run ?_
 refine eU ?_
 refine cu ?_
 refine run ?_
 have hxl:s.r.x N<18446744073709551616:=aC.x_lt hs.r N
 have e1:s.r.x N >>> 48 &&& 15=aT (s.r.x N) 48 4:=rfl
 have e2:s.r.x N &&& 4095=aT (s.r.x N) 0 12:=rfl
 have b1:=oG (s.r.x N) 48 (n:=4) av1
 have b2:=oG (s.r.x N) 0 (n:=12) av1
 refine oV 17 16 [0,1,2,3,4,5,6,7,8,9,10,11,12,13,14] [15] [16] [] ?_
 refine dh ?_
 refine Et av2 ax1 (fun hx=>uw rfl rfl (s.r.x N) 48 rfl rfl av1) ?_
 refine dh ?_
 refine Et av2 ax1 (fun hx=>kT rfl rfl (s.r.x N >>> 48) 15 rfl rfl (Nat.lt_of_le_of_lt (Nat.shiftRight_le ..) hxl) av1) ?_
 rw [e1]
 generalize hg1:aT (s.r.x N) 48 4=z1 at b1 ⊢
 refine dh ?_
 refine Et av2 ax1 (fun hx=>kT rfl rfl (s.r.x N) 4095 rfl rfl hxl av1) ?_
 rw [e2]
 generalize hg2:aT (s.r.x N) 0 12=z2 at b2 ⊢
 refine dh ?_
 refine dR ?_
 refine gZ ?_
 rintro _ _ ⟨Y,rfl,rfl⟩
 simp only [DN,List.cons_append,List.nil_append,List.append_nil]
 have hdv:d=⟨aW,two.tag,(z1:Nat),(z2:Nat)⟩:=by rw [hd,← hg1,← hg2];rfl
 refine qg (b:=Y) (tb:=121) (cs':=(dJ d).toArray) (hp':=aI.mk I #[.int .i64 op,.int .i64 (D:Nat),.int .i64 (N:Nat),.int .i64 (K:Nat),.int .i64 aW] 41::aI.mk M (mc L.wv L.sv L.lv cpu two s) 82::(L.hl++L.hs++(L.hw++L.ht))) ?_ (hput:=by rw [hdv];rfl)
 refine aH ?_
 refine di ?_
 refine aJ (⟨Y,(dJ d).toArray,121⟩::aI.mk I #[.int .i64 op,.int .i64 (D:Nat),.int .i64 (N:Nat),.int .i64 (K:Nat),.int .i64 aW] 41::aI.mk M (mc L.wv L.sv L.lv cpu two s) 82::(L.hl++L.hs++(L.hw++L.ht))) ak ?_
 refine run ?_
 obtain ⟨g,lc,fU,tc,e3,e4,hld,htc,hti,hcl,hsz,hput⟩:=hL.row hs
 have h8:=dO hs.te.vI
 have JM:=hs.te
 rw [← htc] at h8 JM
 unfold ja
 rw [← hd]
 cases hdl:decide ((s.tl cpu).2.length<8) with
 | true=>
  have Vj:decide (tc.ds.length<8)=true:=by rw [← hdl,← htc]
  rw [e3,e4]
  simp only [cond_true,List.cons_append,List.nil_append]
  refine iR 16 [0,1,2,3,4,5,6,7,8,9,10] [11,15] [12,13,14] [17] [16] ?_
  refine fB ?_
  have hla:∀ wc,Here L.ht wc→_:=fun wc hh=>BA tc.es tc.ds d tc.ev tc.dv (hti.1 wc hh).1 (hti.1 wc hh).2 ⟨_,_,rfl,hti.2⟩ JM.vI (by rw [hd];exact hdm)
  simp only [Vj,cond_true] at hla
  refine iW (fun wc hG=>hla wc (fun e he=>hG.here e aw1)) (BH tc.es tc.ds d h8.2.1 h8.2.2) ?_
  refine dR ?_
  refine gZ ?_
  rintro _ _ ⟨T,rfl,rfl⟩ u hn ⟨v1,h1,v2,h2,rfl,g1,g2,hle⟩
  obtain ⟨q1,c1,x1⟩:=g1.opened
  obtain ⟨q2,c2,x2⟩:=g2.opened
  rw [List.length_map] at x1 x2
  subst x1 x2
  refine ni ?_
  refine aS ?_
  refine aS ?_
  refine fC ?_
  refine iE ?_
  refine fC ?_
  simp only [DN,List.cons_append,List.nil_append,List.append_nil]
  refine qg (b:=T) (tb:=77) (cs:=#[.slice none 0 0,.slice none 0 0]) (cs':=#[.slice q1 tc.es.length c1,.slice q2 (tc.ds++[d]).length c2]) (hp':=hn++(⟨Y,(dJ d).toArray,121⟩::aI.mk I #[.int .i64 op,.int .i64 (D:Nat),.int .i64 (N:Nat),.int .i64 (K:Nat),.int .i64 aW] 41::aI.mk M (mc L.wv L.sv (.slice (some ⟨g,0,none⟩) L.ts.length lc) cpu two s) 82::aI.mk g fU 77::(L.hs++(L.hw++L.ht)))) ?_ (hput:=rfl) (hperm:=by (exact au))
  refine aH ?_
  refine di ?_
  refine aJ (aI.mk M (mc L.wv L.sv (.slice (some ⟨g,0,none⟩) L.ts.length lc) cpu two s) 82::aI.mk g fU 77::⟨T,#[.slice q1 tc.es.length c1,.slice q2 (tc.ds++[d]).length c2],77⟩::((h1++h2)++(L.hs++(L.hw++L.ht)))) (cnt1 hle) ?_
  refine aX ?_
  refine iV 10 ?_
  refine cu ?_
  refine run ?_
  obtain ⟨p1',p2',Sv⟩:=hput ⟨tc.es,tc.ds++[d],q1,c1,q2,c2⟩ h1 h2 ⟨g1,g2,h8.2.1,by show (tc.ds++[d]).length≤8;rw [List.length_append,List.length_singleton];have:=of_decide_eq_true Vj;omega⟩
  refine fin0 ⟨rfl,⟨L.wv,L.sv,.slice (some ⟨g,0,none⟩) L.ts.length lc,L.ts.set cpu ⟨tc.es,tc.ds++[d],q1,c1,q2,c2⟩,L.hw,L.hs,[⟨g,putAt fU (cpu * 2) [.slice q1 tc.es.length c1,.slice q2 (tc.ds++[d]).length c2],77⟩],h1++h2++L.ht⟩,⟨hL.w,hL.q,p1',p2',?_⟩,by unfold ML.hp;dsimp only;rw [show mc L.wv L.sv (.slice (some ⟨g,0,none⟩) L.ts.length lc) cpu two (s.more cpu d)=mc L.wv L.sv (.slice (some ⟨g,0,none⟩) L.ts.length lc) cpu two s from rfl];simp only [putAt];(exact ak)⟩
  dsimp only
  rw [Sv,PS.more,← htc]
 | false=>
  have Vj:decide (tc.ds.length<8)=false:=by rw [← hdl,← htc]
  rw [e3,e4]
  simp only [cond_false,List.cons_append,List.nil_append]
  refine iR 16 [0,1,2,3,4,5,6,7,8,9,10] [11,15] [12,13,14] [17] [16] ?_
  refine fB ?_
  have hla:∀ wc,Here L.ht wc→_:=fun wc hh=>BA tc.es tc.ds d tc.ev tc.dv (hti.1 wc hh).1 (hti.1 wc hh).2 ⟨_,_,rfl,hti.2⟩ JM.vI (by rw [hd];exact hdm)
  simp only [Vj,cond_false] at hla
  refine iW (fun wc hG=>hla wc (fun e he=>hG.here e aw1)) ⟨_,[],rfl⟩ ?_
  refine dR ?_
  refine gZ ?_
  rintro _ _ ⟨T,rfl,rfl⟩ u hn rfl
  refine ni ?_
  refine aS ?_
  refine aS ?_
  refine fC ?_
  refine iE ?_
  refine fC ?_
  simp only [DN,List.cons_append,List.nil_append,List.append_nil]
  refine qg (b:=T) (tb:=77) (cs:=#[.slice none 0 0,.slice none 0 0]) (cs':=#[.slice none 0 0,.slice none 0 0]) (hp':=hn++(⟨Y,(dJ d).toArray,121⟩::aI.mk I #[.int .i64 op,.int .i64 (D:Nat),.int .i64 (N:Nat),.int .i64 (K:Nat),.int .i64 aW] 41::aI.mk M (mc L.wv L.sv (.slice (some ⟨g,0,none⟩) L.ts.length lc) cpu two s) 82::aI.mk g fU 77::(L.hs++(L.hw++L.ht)))) ?_ (hput:=rfl) (hperm:=by (exact au))
  refine aH ?_
  refine di ?_
  rw [← e3]
  refine aJ (⟨T,#[.slice none 0 0,.slice none 0 0],77⟩::⟨Y,(dJ d).toArray,121⟩::aI.mk M (mc L.wv L.sv L.lv cpu two s) 82::(L.hl++L.hs++(L.hw++L.ht))) (by rw [e4];(exact ak)) ?_
  refine aX ?_
  refine dK (aI.mk M (mc L.wv L.sv L.lv cpu two s) 82::(L.hl++L.hs++(L.hw++L.ht))) [⟨T,#[.slice none 0 0,.slice none 0 0],77⟩,⟨Y,(dJ d).toArray,121⟩] (fun wc hG=>Lp L M cpu two s hL hs hG.dG) (fun v hn2 hv=>?_) au
  obtain ⟨rfl,L2,hL2,hle2⟩:=hv
  have hs2:=pV hs
  have hwt:=FH hs.cpu
  generalize jE s cpu=s2 at hL2 hle2 hs2 hwt ⊢
  obtain ⟨g2,Yq,Lr,FK,e5,e6,ap4,NZ,X3,ap5,hsz2,V7⟩:=hL2.row hs2
  have h82:=dO hs2.te.vI
  have ZP:=hs2.te
  rw [← NZ] at h82 ZP hwt
  unfold ML.hp at hle2
  rw [e5,e6] at hle2
  have hd0:FK.ds=[]:=congrArg Prod.snd hwt
  refine aJ (⟨T,#[.slice none 0 0,.slice none 0 0],77⟩::⟨Y,(dJ d).toArray,121⟩::aI.mk M (mc L2.wv L2.sv (.slice (some ⟨g2,0,none⟩) L2.ts.length Yq) cpu two s2) 82::aI.mk g2 Lr 77::(L2.hs++(L2.hw++L2.ht))) (cnt1 hle2) ?_
  refine run ?_
  refine iR 15 [0,1,2,3,4,5,6,7,8,9,10] [11] [12,13,14] [] [15] ?_
  refine fB ?_
  have ZQ:∀ wc,Here L2.ht wc→_:=fun wc hh=>BA FK.es FK.ds d FK.ev FK.dv (X3.1 wc hh).1 (X3.1 wc hh).2 ⟨_,_,rfl,X3.2⟩ ZP.vI (by rw [hd];exact hdm)
  simp only [show decide (FK.ds.length<8)=true by rw [hd0];rfl,cond_true] at ZQ
  refine iW (fun wc hG=>ZQ wc (fun e he=>hG.here e aw1)) (BH FK.es FK.ds d h82.2.1 h82.2.2) ?_
  refine gZ ?_
  rintro u hn3 ⟨v1,h1,v2,h2,rfl,g3,g4,hle3⟩
  obtain ⟨q1,c1,x1⟩:=g3.opened
  obtain ⟨q2,c2,x2⟩:=g4.opened
  rw [List.length_map] at x1 x2
  subst x1 x2
  refine ni ?_
  refine aS ?_
  refine aS ?_
  refine fC ?_
  refine fC ?_
  simp only [DN,List.cons_append,List.nil_append,List.append_nil]
  refine qg (b:=T) (tb:=77) (cs:=#[.slice none 0 0,.slice none 0 0]) (cs':=#[.slice q1 FK.es.length c1,.slice q2 (FK.ds++[d]).length c2]) (hp':=hn3++(⟨Y,(dJ d).toArray,121⟩::aI.mk M (mc L2.wv L2.sv (.slice (some ⟨g2,0,none⟩) L2.ts.length Yq) cpu two s2) 82::aI.mk g2 Lr 77::(L2.hs++(L2.hw++L2.ht)))) ?_ (hput:=rfl) (hperm:=by (exact au))
  refine aH ?_
  refine di ?_
  refine aJ (aI.mk M (mc L2.wv L2.sv (.slice (some ⟨g2,0,none⟩) L2.ts.length Yq) cpu two s2) 82::aI.mk g2 Lr 77::⟨T,#[.slice q1 FK.es.length c1,.slice q2 (FK.ds++[d]).length c2],77⟩::((h1++h2)++(L2.hs++(L2.hw++L2.ht)))) (cnt1 hle3) ?_
  refine aX ?_
  refine iV 10 ?_
  refine cu ?_
  refine run ?_
  obtain ⟨p1',p2',Sv⟩:=V7 ⟨FK.es,FK.ds++[d],q1,c1,q2,c2⟩ h1 h2 ⟨g3,g4,h82.2.1,by show (FK.ds++[d]).length≤8;rw [List.length_append,List.length_singleton,hd0];decide⟩
  refine fin0 ⟨rfl,⟨L2.wv,L2.sv,.slice (some ⟨g2,0,none⟩) L2.ts.length Yq,L2.ts.set cpu ⟨FK.es,FK.ds++[d],q1,c1,q2,c2⟩,L2.hw,L2.hs,[⟨g2,putAt Lr (cpu * 2) [.slice q1 FK.es.length c1,.slice q2 (FK.ds++[d]).length c2],77⟩],h1++h2++L2.ht⟩,⟨hL2.w,hL2.q,p1',p2',?_⟩,by unfold ML.hp;dsimp only;rw [show mc L2.wv L2.sv (.slice (some ⟨g2,0,none⟩) L2.ts.length Yq) cpu two (s2.more cpu d)=mc L2.wv L2.sv (.slice (some ⟨g2,0,none⟩) L2.ts.length Yq) cpu two s2 from rfl];simp only [putAt];(exact ak)⟩
  dsimp only
  rw [Sv,PS.more,← NZ]
def ZR (M cpu:Nat) (two:bQ) (x:PS × Option (List Int)) (u:Value) (hn:Hp):Prop:=∃ (v:Value) (ha:Hp) (L:ML),u=.tuple #[v,.bool x.2.isNone]∧Own 3 1 v ha ((x.2.getD []).map dH)∧wK L x.1∧aF (L.hp M cpu two x.1++ha) hn
theorem BI (b:Nat) (x:Int):Own 3 1 (.slice (some ⟨b,0,none⟩) 1 1) [⟨b,#[.int .i64 x],3⟩] ([x].map dH):=
 rJ b 1 _ av2 rfl yO av4 av4 ay'
theorem Ls {i:bG} {n m:Nat}:∃ A:Nat,Bf i n m=(A:Int):=by
 have hmod:∀ z:Int,∃ A:Nat,z % 18446744073709551616=(A:Int):=fun z=>⟨(z % 18446744073709551616).toNat,by omega⟩
 unfold Bf
 cases decide (i.op=1) with
 | true=>exact ⟨_,Ba _⟩
 | false=>
  cases decide (i.op=2) with
  | true=>exact hmod _
  | false=>
   cases decide (i.op=3) with
   | true=>exact hmod _
   | false=>
    cases decide (i.op=4) with
    | true=>exact ⟨_,rfl⟩
    | false=>
     cases decide (i.op=5) with
     | true=>exact ⟨_,rfl⟩
     | false=>exact ⟨_,rfl⟩
theorem ZT (L:ML) (M cpu:Nat) (two:bQ) (s:PS) (hL:wK L s) (hs:fE s cpu two) (hq:s.seen.length<90000) (hov:s.over=false) (op aW:Int) (D N K:Nat) (hi:(⟨op,D,N,K,aW⟩:bG).may=true) {w:World} (hN:eP (L.hp M cpu two s) w):Fn Tryz.prog 41 [.pointer (some ⟨M,0,none⟩),.agg #[.int .i64 op,.int .i64 (D:Nat),.int .i64 (N:Nat),.int .i64 (K:Nat),.int .i64 aW]].toArray w ((L.hp M cpu two s).map (·.b)) (ZR M cpu two (sW s cpu two ⟨op,D,N,K,aW⟩)):=by
 have hb:PtD.bY op 1 16=true∧PtD.bY (D:Int) 0 7=true∧PtD.bY (N:Int) 0 7=true∧PtD.bY (K:Int) 0 7=true:=by
  simp only [bG.may,bG.base,Bool.and_eq_true] at hi
  exact ⟨hi.1.1,hi.1.2.1,hi.1.2.2.1,hi.1.2.2.2.1⟩
 obtain ⟨hop,hD,hN',hK⟩:(1≤op∧op≤16)∧D<8∧N<8∧K<8:=by
  simp only [PtD.bY,Bool.and_eq_true,decide_eq_true_eq] at hb;omega
 have hxN:=RD L.wv L.sv L.lv cpu two s hN'
 have hxK:=RD L.wv L.sv L.lv cpu two s hK
 refine eF (aI.mk M (mc L.wv L.sv L.lv cpu two s) 82::(L.hl++L.hs++(L.hw++L.ht))) hN Tryz.func41 ?_
 refine run ?_
 intro I
 refine run ?_
 have hcs:(op=7∨op=8)∨op=9∨op=10∨op=11∨op=12∨op=13∨op=14∨op=15∨op=16∨op≤6:=by omega
 rcases hcs with Ve | rfl | rfl | rfl | rfl | rfl | rfl | rfl | rfl | h6
 ·have hm:=fun wc (hG:eP (L.hp M cpu two s) wc)=>Vg L M cpu two s hL hs hq hov op aW D N K hi Ve hG
  have hdo:sW s cpu two ⟨op,D,N,K,aW⟩=(sQ s cpu two ⟨op,D,N,K,aW⟩,some []):=by
   unfold sW
   rcases Ve with rfl | rfl<;>rfl
  rw [hdo]
  rcases Ve with rfl | rfl
  ·refine aX ?_
   refine dK (aI.mk M (mc L.wv L.sv L.lv cpu two s) 82::(L.hl++L.hs++(L.hw++L.ht))) [aI.mk I #[.int .i64 7,.int .i64 (D:Nat),.int .i64 (N:Nat),.int .i64 (K:Nat),.int .i64 aW] 41] (fun wc hG=>hm wc hG.dG) (fun v hn hv=>?_) au
   obtain ⟨rfl,L2,hL2,hle⟩:=hv
   refine run ?_
   exact fin2 ⟨_,_,L2,rfl,Own.nil _ _,hL2,by (exact cnt1 hle)⟩
  ·refine aX ?_
   refine dK (aI.mk M (mc L.wv L.sv L.lv cpu two s) 82::(L.hl++L.hs++(L.hw++L.ht))) [aI.mk I #[.int .i64 8,.int .i64 (D:Nat),.int .i64 (N:Nat),.int .i64 (K:Nat),.int .i64 aW] 41] (fun wc hG=>hm wc hG.dG) (fun v hn hv=>?_) au
   obtain ⟨rfl,L2,hL2,hle⟩:=hv
   refine run ?_
   exact fin2 ⟨_,_,L2,rfl,Own.nil _ _,hL2,by (exact cnt1 hle)⟩
 ·rw [show sW s cpu two ⟨9,D,N,K,aW⟩=(s,some [aW]) from rfl]
  refine aX ?_
  intro B
  exact fin2 ⟨_,_,L,rfl,BI B aW,hL,by unfold ML.hp;(exact ak)⟩
 ·refine aX ?_
  refine eU ?_
  refine cu ?_
  refine run ?_
  refine aj _ rfl (fun hc=>?_) (fun hc=>?_)
  ·have h0:decide (s.r.x N=0)=true:=by simpa using hc
   rw [show sW s cpu two ⟨10,D,N,K,aW⟩=(s,some (bif decide (s.r.x N=0) then [aW] else [])) from rfl,h0]
   refine run ?_
   intro B
   exact fin2 ⟨_,_,L,rfl,BI B aW,hL,by unfold ML.hp;(exact ak)⟩
  ·have h0:decide (s.r.x N=0)=false:=by simpa using hc
   rw [show sW s cpu two ⟨10,D,N,K,aW⟩=(s,some (bif decide (s.r.x N=0) then [aW] else [])) from rfl,h0]
   refine run ?_
   exact fin2 ⟨_,_,L,rfl,Own.nil _ _,hL,by unfold ML.hp;(exact ak)⟩
 ·have hk:nV aW=true:=by
   have:=hi
   simp only [bG.may,Bool.and_eq_true] at this
   exact this.2
  rw [show sW s cpu two ⟨11,D,N,K,aW⟩=({ s with r:=s.r.kE D (s.r.get aW) },some []) from rfl]
  refine aX ?_
  refine dN 20 19 [0,1,2,3,4,5,6,7,8,9,10,11,12,13,14,15,16,17,18] [19] [] ?_
  refine dh ?_
  rw [show (List.take 15 (List.drop 15 (mc L.wv L.sv L.lv cpu two s).toList)).toArray=(dD s.r).toArray from rfl]
  refine kU (fun wc hx hG=>Qp s.r aW wc) ?_
  rw [hk]
  refine dh ?_
  refine iO (b:=M) (tb:=82) (cs:=mc L.wv L.sv L.lv cpu two s) (mc L.wv L.sv L.lv cpu two { s with r:=s.r.kE D (s.r.get aW) }) (hp':=aI.mk I #[.int .i64 11,.int .i64 (D:Nat),.int .i64 (N:Nat),.int .i64 (K:Nat),.int .i64 aW] 41::(L.hl++L.hs++(L.hw++L.ht))) ?_ (hperm:=by (exact au)) (hput:=FI _ _ _ _ _ _ hD _) (hlt:=Nat.ble_eq_true_of_le (show 15 + D + 1≤42 by omega))
  refine aH ?_
  refine di ?_
  refine run ?_
  exact fin2 ⟨_,_,L,rfl,Own.nil _ _,⟨hL.w,hL.q,hL.l,hL.t,hL.p⟩,by unfold ML.hp;(exact ak)⟩
 ·have hk:nV aW=true:=by
   have:=hi
   simp only [bG.may,Bool.and_eq_true] at this
   exact this.2
  rw [show sW s cpu two ⟨12,D,N,K,aW⟩=({ s with r:=s.r.set aW (s.r.x N) },some []) from rfl]
  refine aX ?_
  refine dN 25 24 [0,1,2,3,4,5,6,7,8,9,10,11,12,13,14,15,16,17,18,19,20,21,22,23] [24] [] ?_
  refine dh ?_
  rw [show (List.take 15 (List.drop 15 (mc L.wv L.sv L.lv cpu two s).toList)).toArray=(dD s.r).toArray from rfl]
  refine kU (fun wc hx hG=>Qq s.r aW (s.r.x N) wc) ?_
  rw [hk]
  refine dh ?_
  refine iO (b:=M) (tb:=82) (cs:=mc L.wv L.sv L.lv cpu two s) (mc L.wv L.sv L.lv cpu two { s with r:=s.r.set aW (s.r.x N) }) (hp':=aI.mk I #[.int .i64 12,.int .i64 (D:Nat),.int .i64 (N:Nat),.int .i64 (K:Nat),.int .i64 aW] 41::(L.hl++L.hs++(L.hw++L.ht))) ?_ (hperm:=by (exact au))
  refine aH ?_
  refine di ?_
  refine run ?_
  exact fin2 ⟨_,_,L,rfl,Own.nil _ _,⟨hL.w,hL.q,hL.l,hL.t,hL.p⟩,by unfold ML.hp;(exact ak)⟩
 ·rw [show sW s cpu two ⟨13,D,N,K,aW⟩=(ja s cpu two ⟨13,D,N,K,aW⟩,some []) from rfl]
  refine aX ?_
  refine dK (aI.mk M (mc L.wv L.sv L.lv cpu two s) 82::(L.hl++L.hs++(L.hw++L.ht))) [aI.mk I #[.int .i64 13,.int .i64 (D:Nat),.int .i64 (N:Nat),.int .i64 (K:Nat),.int .i64 aW] 41] (fun wc hG=>NY L M cpu two s hL hs 13 aW D N K hi rfl hG.dG) (fun v hn hv=>?_) au
  obtain ⟨rfl,L2,hL2,hle⟩:=hv
  refine run ?_
  exact fin2 ⟨_,_,L2,rfl,Own.nil _ _,hL2,by (exact cnt1 hle)⟩
 ·rw [show sW s cpu two ⟨14,D,N,K,aW⟩=(jE s cpu,some []) from rfl]
  refine aX ?_
  refine dK (aI.mk M (mc L.wv L.sv L.lv cpu two s) 82::(L.hl++L.hs++(L.hw++L.ht))) [aI.mk I #[.int .i64 14,.int .i64 (D:Nat),.int .i64 (N:Nat),.int .i64 (K:Nat),.int .i64 aW] 41] (fun wc hG=>Lp L M cpu two s hL hs hG.dG) (fun v hn hv=>?_) au
  obtain ⟨rfl,L2,hL2,hle⟩:=hv
  refine run ?_
  exact fin2 ⟨_,_,L2,rfl,Own.nil _ _,hL2,by (exact cnt1 hle)⟩
 ·rw [show sW s cpu two ⟨15,D,N,K,aW⟩=({ s with kind:=3 },some []) from rfl]
  refine aX ?_
  refine gz (mc L.wv L.sv L.lv cpu two { s with kind:=3 }) ?_ (hperm:=p1)
  refine run ?_
  exact fin2 ⟨_,_,L,rfl,Own.nil _ _,⟨hL.w,hL.q,hL.l,hL.t,hL.p⟩,by unfold ML.hp;(exact ak)⟩
 ·rw [show sW s cpu two ⟨16,D,N,K,aW⟩=({ s with r:=s.r.back },none) from rfl]
  refine aX ?_
  rw [show (List.take 15 (List.drop 15 (mc L.wv L.sv L.lv cpu two s).toList)).toArray=(dD s.r).toArray from rfl]
  refine ax (fun wc hG=>Ul s.r wc) ?_
  refine run ?_
  refine gz (mc L.wv L.sv L.lv cpu two { s with r:=s.r.back }) ?_ (hperm:=p1)
  refine run ?_
  exact fin2 ⟨_,_,L,rfl,Own.nil _ _,⟨hL.w,hL.q,hL.l,hL.t,hL.p⟩,by unfold ML.hp;(exact ak)⟩
 ·have hdo:sW s cpu two ⟨op,D,N,K,aW⟩=({ s with r:=s.r.kE D (Bf ⟨op,D,N,K,aW⟩ (s.r.x N) (s.r.x K)).toNat },some []):=by
   unfold sW
   rw [decide_eq_false (show ¬ op=7 by omega),decide_eq_false (show ¬ op=8 by omega),decide_eq_false (show ¬ op=9 by omega),decide_eq_false (show ¬ op=10 by omega),decide_eq_false (show ¬ op=11 by omega),decide_eq_false (show ¬ op=12 by omega),decide_eq_false (show ¬ op=13 by omega),decide_eq_false (show ¬ op=14 by omega),decide_eq_false (show ¬ op=15 by omega),decide_eq_false (show ¬ op=16 by omega)]
   rfl
  rw [hdo]
  rw [decide_eq_false (show ¬ op=7 by omega)];refine aX ?_
  rw [decide_eq_false (show ¬ op=8 by omega)];refine aX ?_
  rw [decide_eq_false (show ¬ op=9 by omega)];refine aX ?_
  rw [decide_eq_false (show ¬ op=10 by omega)];refine aX ?_
  rw [decide_eq_false (show ¬ op=11 by omega)];refine aX ?_
  rw [decide_eq_false (show ¬ op=12 by omega)];refine aX ?_
  rw [decide_eq_false (show ¬ op=13 by omega)];refine aX ?_
  rw [decide_eq_false (show ¬ op=14 by omega)];refine aX ?_
  rw [decide_eq_false (show ¬ op=15 by omega)];refine aX ?_
  rw [decide_eq_false (show ¬ op=16 by omega)];refine aX ?_
  obtain ⟨A,hA⟩:=Ls (i:=⟨op,D,N,K,aW⟩) (n:=s.r.x N) (m:=s.r.x K)
  refine dN 32 31 [0,1,2,3,4,5,6,7,8,9,10,11,12,13,14,15,16,17,18,19,20,21,22,23,24,25,26,27,28,29,30] [31] [] ?_
  refine dh ?_
  refine kU (fun wc hx hG=>Zp ⟨op,D,N,K,aW⟩ hi h6 (s.r.x N) (s.r.x K) (aC.x_lt hs.r N) (aC.x_lt hs.r K) wc) ?_
  rw [hA,Int.toNat_natCast]
  refine dh ?_
  refine iO (b:=M) (tb:=82) (cs:=mc L.wv L.sv L.lv cpu two s) (mc L.wv L.sv L.lv cpu two { s with r:=s.r.kE D A }) (hp':=aI.mk I #[.int .i64 op,.int .i64 (D:Nat),.int .i64 (N:Nat),.int .i64 (K:Nat),.int .i64 aW] 41::(L.hl++L.hs++(L.hw++L.ht))) ?_ (hperm:=by (exact au)) (hput:=FI _ _ _ _ _ _ hD _) (hlt:=Nat.ble_eq_true_of_le (show 15 + D + 1≤42 by omega))
  refine aH ?_
  refine di ?_
  refine run ?_
  exact fin2 ⟨_,_,L,rfl,Own.nil _ _,⟨hL.w,hL.q,hL.l,hL.t,hL.p⟩,by unfold ML.hp;(exact ak)⟩
theorem X4 (L:ML) (M cpu:Nat) (two:bQ) (s:PS) (hL:wK L s) (hs:fE s cpu two) (hq:s.seen.length<90000) (hov:s.over=false) (i:bG) (hi:i.may=true) {w:World} (hN:eP (L.hp M cpu two s) w):Fn Tryz.prog 41 [.pointer (some ⟨M,0,none⟩),.agg (Iu i).toArray].toArray w ((L.hp M cpu two s).map (·.b)) (ZR M cpu two (sW s cpu two i)):=by
 obtain ⟨op,d,n,m,aW⟩:=i
 have hb:PtD.bY d 0 7=true∧PtD.bY n 0 7=true∧PtD.bY m 0 7=true:=by
  simp only [bG.may,bG.base,Bool.and_eq_true] at hi
  exact ⟨hi.1.2.1,hi.1.2.2.1,hi.1.2.2.2.1⟩
 simp only [PtD.bY,Bool.and_eq_true,decide_eq_true_eq] at hb
 obtain ⟨D,rfl⟩:∃ D:Nat,d=(D:Int):=⟨d.toNat,by omega⟩
 obtain ⟨N,rfl⟩:∃ N:Nat,n=(N:Int):=⟨n.toNat,by omega⟩
 obtain ⟨K,rfl⟩:∃ K:Nat,m=(K:Int):=⟨m.toNat,by omega⟩
 exact ZT L M cpu two s hL hs hq hov op aW D N K hi hN
def Ic (wv sv lv:Value) (cpu:Int) (two:bQ) (s:PS):Array Value:=
 #[wv,.int .i64 cpu,.int .i64 s.kind,.int .i64 s.iZ.op,.int .i64 s.iZ.d,.int .i64 s.iZ.n,.int .i64 s.iZ.m,.int .i64 s.iZ.aW,
  .int .i64 s.ft.kind,.int .i64 s.ft.stage,.int .i64 s.ft.level,.bool s.ft.walk,.int .i64 s.ft.page,.int .i64 0,sv,
  .int .u64 (s.r.x0:Nat),.int .u64 (s.r.x1:Nat),.int .u64 (s.r.x2:Nat),.int .u64 (s.r.x3:Nat),.int .u64 (s.r.x4:Nat),.int .u64 (s.r.x5:Nat),.int .u64 (s.r.x6:Nat),.int .u64 (s.r.x7:Nat),
  .int .u64 (s.r.pc:Nat),.int .u64 (s.r.gp:Nat),.int .u64 (s.r.dm:Nat),.int .u64 (s.r.jd:Nat),.int .u64 (s.r.qw:Nat),.int .u64 (s.r.mJ:Nat),.int .u64 (s.r.far:Nat),
  .int .i64 s.pk.cpu,.bool s.pk.fill,.bool s.pk.aO,.bool s.pk.walk,.int .i64 s.pk.drop,.bool s.pk.use,lv,.int .i64 cpu,.bool two.on,.int .i64 two.frame,.int .i64 two.tag,.bool s.over]
theorem Vk (wv sv lv:Value) (cpu:Nat) (two:bQ) (s:PS):Ic wv sv lv (cpu:Nat) two s=mc wv sv lv cpu two s:=rfl
def qN (n:Nat) (ls:List (List bg × List dB)) (cpu:Int) (two:bQ):Bool:=
 dQ n && decide (0≤cpu) && decide (cpu<(ls.length:Int)) && two.on && two.may && ls.all fun t=>bK t.1 t.2 && lQ n t.1
structure yt (w:World) (mu:List Nat) (v:Value) (ts:List dM):Prop where
 rows:dP w mu v 2 (ts.map lC)
 en:∀ t∈ts,dP w mu t.ev 14 (t.es.map bI)
 iv:∀ t∈ts,dP w mu t.dv 4 (t.ds.map dJ)
theorem yt.good {w w':World} {mu:List Nat} {hp:Hp} {v:Value} {ts:List dM} (h:yt w mu v ts) (hG:Good w mu hp w'):qI w' v ts:=⟨h.rows.good hG,fun t ht=>(h.en t ht).good hG,fun t ht=>(h.iv t ht).good hG⟩
theorem yt.into {w wc:World} {mu:List Nat} {hi rest:Hp} {v:Value} {ts:List dM} (h:yt w mu v ts) (hG:Good w mu (hi++rest) wc):yt wc (hi.map (·.b)) v ts:=⟨h.rows.into hG,fun t ht=>(h.en t ht).into hG,fun t ht=>(h.iv t ht).into hG⟩
theorem yt.old {w:World} {v:Value} {ts:List dM} (h:qI w v ts):yt w [] v ts:=⟨dP.old h.rows,fun t ht=>dP.old (h.en t ht),fun t ht=>dP.old (h.iv t ht)⟩
theorem Vl (n:Int) (x:bg) (B:Nat) (w:World) (hB:w.cell? ⟨B,0,none⟩=some (.int .i64 n)):Fn Tryz.prog 61 ([]++[Value.agg (bI x).toArray]++[Value.pointer (some ⟨B,0,none⟩)]).toArray w [] (fun u _=>u=.bool (decide (n≤x.frame))):=by
 refine enter Tryz.func61 ?_
 refine run ?_
 intro E
 refine run ?_
 exact fin1 rfl
theorem Vm (n:Int) (t:dM) (B C:Nat) (w:World) (hB:w.cell? ⟨B,0,none⟩=some (.int .i64 n)) (hC:w.cell? ⟨C,0,none⟩=some (.func (.func 61) #[] #[.pointer (some ⟨B,0,none⟩)])) (h1:aB w t.ev 14 (t.es.map bI)) (h2:aB w t.dv 4 (t.ds.map dJ)) (hc:t.es.length≤t.ec):
  Fn Tryz.prog 63 ([]++[Value.agg (lC t).toArray]++[Value.pointer (some ⟨C,0,none⟩)]).toArray w [] (fun u _=>u=.bool (!bK t.es t.ds || t.es.any fun x=>decide (n≤x.frame))):=by
 refine enter Tryz.func63 ?_
 refine run ?_
 intro E
 refine az ?_
 refine ax (fun wc hG=>kP t.es t.ds _ _ (h1.good hG) (h2.good hG) ⟨_,_,rfl,hc⟩) ?_
 refine az ?_
 refine VL av2 av2 av2 av2 (fun _=>FZ av2 aw6 av2 hC List.not_mem_nil) ?_
 refine az ?_
 refine aZ (fun hg wc hG=>vV (F:=61) (us:=[.pointer (some ⟨B,0,none⟩)]) (fun x=>decide (n≤x.frame)) t.es _ (h1.good hG) (fun x _ w' ha=>Vl n x B w' ?_)) ?_
 ·obtain ⟨hp,hg⟩:=ha
  exact hg.cell (hG.cell hB av4) av4
 refine az ?_
 refine fin1 ?_
 cases bK t.es t.ds<;>rfl
theorem X5 (ws:List Nat) (hw:ws.length<1000000) (cap:Nat) (hcc:ws.length≤cap) {p:Option Addr} {w:World} {M:Nat} (ts:List dM) (cpu:Int) (two:bQ) (s:PS) {sv lv:Value} (hT:yt w [M] lv ts) (htc:∀ t∈ts,t.es.length≤t.ec) (hN:eP [⟨M,Ic (.slice p ws.length cap) sv lv cpu two s,82⟩] w):
  Fn Tryz.prog 37 [.pointer (some ⟨M,0,none⟩)].toArray w [M] (fun u hn=>u=.bool (qN ws.length (ts.map dM.p) cpu two)∧aF [⟨M,Ic (.slice p ws.length cap) sv lv cpu two s,82⟩] hn):=by
 obtain ⟨ql,cl,rfl,hlc⟩:=hT.rows.at_.opened
 refine eF _ hN Tryz.func37 ?_
 refine run ?_
 rw [show (List.take 1 (Ic (.slice p ws.length cap) sv (.slice ql ts.length cl) cpu two s).toList).toArray=#[.slice p ws.length cap] from rfl]
 refine ax (fun wc hG=>Dw ws.length cap au' p wc) ?_
 refine run ?_
 intro Nb Tb
 rw [show putAt #[.bool false,.int .i64 0,.int .i64 0] 0 (List.take 3 (List.drop 38 (Ic (.slice p ws.length cap) sv (.slice ql ts.length cl) cpu two s).toList))=(iK two).toArray from rfl]
 refine run ?_
 refine eU ?_
 refine iU ?_
 have hg:(!decide ((bif dQ ws.length then (0:Int) else 1)=0) || decide (cpu<0) || decide ((ts.length:Int)≤cpu) || !two.on || decide (two.frame<0) || decide (4095<two.frame) || decide (two.tag<0) || decide (15<two.tag))=!(dQ ws.length && decide (0≤cpu) && decide (cpu<(ts.length:Int)) && two.on && two.may):=by
  have e1:∀ b,decide ((bif b then (0:Int) else 1)=0)=b:=by decide
  have e2:∀ a:Int,decide (a<0)=!decide (0≤a):=fun a=>by rw [Bool.eq_iff_iff];simp
  have e3:∀ a b:Int,decide (b<a)=!decide (a≤b):=fun a b=>by rw [Bool.eq_iff_iff];simp
  rw [e1,e2,bQ.may,PtD.bY,PtD.bY,e2,e2,e3 two.frame,e3 two.tag,e3 (ts.length:Int)]
  simp only [Bool.not_and,Bool.or_assoc,Bool.not_not]
 rw [hg]
 refine run ?_
 refine aj _ rfl (fun hc=>?_) (fun hc=>?_)
 ·have hf:qN ws.length (ts.map dM.p) cpu two=false:=by
   rw [qN,List.length_map]
   simp only [Bool.not_eq_true'] at hc
   rw [hc];rfl
  rw [hf]
  refine run ?_
  exact fin1 ⟨rfl,by (exact ak)⟩
 ·have hcc:(dQ ws.length && decide (0≤cpu) && decide (cpu<(ts.length:Int)) && two.on && two.may)=true:=by simpa using hc
  have hf:qN ws.length (ts.map dM.p) cpu two=(ts.map dM.p).all fun t=>bK t.1 t.2 && lQ ws.length t.1:=by
   rw [qN,List.length_map,hcc];rfl
  have hmo:dQ ws.length=true:=by simp only [Bool.and_eq_true] at hcc;exact hcc.1.1.1.1
  rw [hf]
  simp only [hmo,cond_true]
  refine run ?_
  refine CG (z:=.nilFunc) rfl rfl rfl aw6 (fun Fb=>?_)
  refine CJ [.func (.func 61) #[] #[.pointer (some ⟨Nb,0,none⟩)]] rfl rfl rfl (x:=.tmp 6) rfl rfl rfl rfl aw6 (.refl _) (Nat.le_refl 1) ?_
  simp only [putAt]
  rw [show Value.nilFunc.cells.setIfInBounds 0 (.func (.func 61) #[] #[.pointer (some ⟨Nb,0,none⟩)])=#[.func (.func 61) #[] #[.pointer (some ⟨Nb,0,none⟩)]] from rfl]
  refine run ?_
  refine ax (fun wc hG=>vW (F:=63) (us:=[.pointer (some ⟨Fb,0,none⟩)]) (fun t=>!bK t.es t.ds || t.es.any fun x=>decide (((ws.length / 8:Nat):Int)≤x.frame)) ts _ (hT.good hG).rows (fun x hx w' ha=>?_)) ?_
  ·obtain ⟨hp,hg2⟩:=ha
   refine Vm _ x Nb Fb w' (hg2.cell ay2 av4) (hg2.cell (by rw [cell_of_block (hG.here ⟨Fb,#[.func (.func 61) #[] #[.pointer (some ⟨Nb,0,none⟩)]],115⟩ av4)];rfl) av4) (((hT.good hG).good hg2).en x hx) (((hT.good hG).good hg2).iv x hx) (htc x hx)
  refine run ?_
  refine fin1 ⟨?_,by (exact ak)⟩
  rw [List.not_any_eq_all_not,List.all_map]
  congr 2
  funext t
  simp only [Function.comp_def,lQ,Bool.not_or,Bool.not_not,List.not_any_eq_all_not]
  congr 2
  funext x
  rw [Bool.eq_iff_iff];simp
def Lu (ws:List Nat) (ls:List (List bg × List dB)) (r:aC) (pk:vg):PS:=⟨ws,ls,[],r,pk,0,⟨0,0,0,0,0⟩,jQ,false⟩
def kR (cpu:Int) (sv:Value) (s:PS):Array Value:=
 #[.int .i64 cpu,.int .i64 s.kind,.int .i64 s.iZ.op,.int .i64 s.iZ.d,.int .i64 s.iZ.n,.int .i64 s.iZ.m,.int .i64 s.iZ.aW,.int .i64 s.ft.kind,.int .i64 s.ft.stage,.int .i64 s.ft.level,.bool s.ft.walk,.int .i64 s.ft.page,.int .i64 0,sv,
  .int .u64 (s.r.x0:Nat),.int .u64 (s.r.x1:Nat),.int .u64 (s.r.x2:Nat),.int .u64 (s.r.x3:Nat),.int .u64 (s.r.x4:Nat),.int .u64 (s.r.x5:Nat),.int .u64 (s.r.x6:Nat),.int .u64 (s.r.x7:Nat),
  .int .u64 (s.r.pc:Nat),.int .u64 (s.r.gp:Nat),.int .u64 (s.r.dm:Nat),.int .u64 (s.r.jd:Nat),.int .u64 (s.r.qw:Nat),.int .u64 (s.r.mJ:Nat),.int .u64 (s.r.far:Nat)]
def mP:PS:=⟨[],[],[],kM,⟨0,false,false,false,0,false⟩,0,⟨0,0,0,0,0⟩,jQ,false⟩
def RF (cpu:Int) (s:PS) (u:Value) (hn:Hp):Prop:=∃ L:ML,wK L s∧u=.tuple #[.agg #[L.wv],.agg (dD s.r).toArray,L.lv,.agg (kR cpu L.sv s),.int .i64 0]∧aF (L.hl++L.hs++(L.hw++L.ht)) hn
def X6 (u:Value):Prop:=u=.tuple #[.agg #[.slice none 0 0],.agg (dD kM).toArray,.slice none 0 0,.agg (kR 0 (.slice none 0 0) mP),.int .i64 1]
theorem RG {n:Nat} {es:List bg} {ds:List dB} (h1:bK es ds=true) (h2:lQ n es=true):gU n es ds:=by
 refine ⟨h1,fun e he=>?_⟩
 have h9:=List.all_eq_true.1 h2 e he
 have h10:=(dO h1).1 e he
 simp only [bg.may,bg.nums,PtD.bY,Bool.and_eq_true,decide_eq_true_eq] at h10
 simp only [dS,Bool.and_eq_true,decide_eq_true_eq]
 exact ⟨h10.1.1.1.2.1,of_decide_eq_true h9⟩
theorem X7 (s:PS) (cpu:Nat) (two:bQ) (i:bG):∀ x,(sW s cpu two i).2=some x→x.length≤281474976710656:=by
 have h0:∀ x:List Int,some ([]:List Int)=some x→x.length≤281474976710656:=fun x h=>by cases h;simp
 have h1:∀ x:List Int,some [i.aW]=some x→x.length≤281474976710656:=fun x h=>by cases h;simp
 unfold sW
 cases (decide (i.op=7) || decide (i.op=8)) with
 | true=>exact h0
 | false=>
  cases decide (i.op=9) with
  | true=>exact h1
  | false=>
   cases decide (i.op=10) with
   | true=>
    cases decide (s.r.x i.n.toNat=0) with
    | true=>exact h1
    | false=>exact h0
   | false=>
    cases decide (i.op=11)<;>cases decide (i.op=12)<;>cases decide (i.op=13)<;>cases decide (i.op=14)<;>cases decide (i.op=15)<;>cases decide (i.op=16)<;>first | exact h0 | (intro x h;cases h)
theorem Ie {fn:Func} {R:Value→Hp→Prop} {l:Fm} {hp:Hp} {s0 s2 a t b a2 t2 b2 a3 t3 b3:Nat} {cs cs2 LC:Array Value} {tb tb2 ZU:TypeId} {v v2:Value} (h:R (.tuple #[.agg cs,.agg cs2,v,.agg LC,v2]) hp) (hr:fn.results=#[.cell a t,.cell a2 t2,.tmp s0,.cell a3 t3,.tmp s2]:=by rfl) (h0:look l s0=some v:=by rfl) (hv:look l a=some (.pointer (some ⟨b,0,none⟩)):=by rfl) (hw:look l a2=some (.pointer (some ⟨b2,0,none⟩)):=by rfl) (hw3:look l a3=some (.pointer (some ⟨b3,0,none⟩)):=by rfl) (h3:look l s2=some v2:=by rfl) (hag:mem Tb.ag t=true:=by rfl) (hm:(⟨b,cs,tb⟩:aI)∈hp:=by (first | (with_reducible apply mh) | (focus ((repeat (first | (with_reducible apply mh) | (with_reducible apply mt) | (with_reducible apply List.mem_append_right)));done)))) (hz:lk Tb.sz t=some cs.size:=by rfl) (wF:mem Tb.ag t2=true:=by rfl) (hm2:(⟨b2,cs2,tb2⟩:aI)∈hp:=by (first | (with_reducible apply mh) | (focus ((repeat (first | (with_reducible apply mh) | (with_reducible apply mt) | (with_reducible apply List.mem_append_right)));done)))) (hz2:lk Tb.sz t2=some cs2.size:=by rfl) (X8:mem Tb.ag t3=true:=by rfl) (hm3:(⟨b3,LC,ZU⟩:aI)∈hp:=by (first | (with_reducible apply mh) | (focus ((repeat (first | (with_reducible apply mh) | (with_reducible apply mt) | (with_reducible apply List.mem_append_right)));done)))) (hz3:lk Tb.sz t3=some LC.size:=by rfl):Fin Tryz.prog fn R .ret l hp:=
 ⟨.inl rfl,[.agg cs,.agg cs2,v,.agg LC,v2],by rw [hr];exact ⟨⟨⟨b,cs,tb⟩,hm,hv,.inr ⟨ay.zH hag,ay.tH hz,rfl⟩⟩,⟨⟨b2,cs2,tb2⟩,hm2,hw,.inr ⟨ay.zH wF,ay.tH hz2,rfl⟩⟩,h0,⟨⟨b3,LC,ZU⟩,hm3,hw3,.inr ⟨ay.zH X8,ay.tH hz3,rfl⟩⟩,h3,trivial⟩,h⟩
set_option maxHeartbeats 4000000 in
theorem FM (ws:List Nat) (hw:tu ws) (hwl:ws.length<1000000) (cap:Nat) (hcc:ws.length≤cap) {p:Option Addr} {w:World} (ts:List dM) (r:aC) (hr:r.Ok) (cpu:Int) (two:bQ) (pk:vg) {lv:Value} (hm:aB w (.slice p ws.length cap) 1 (ws.map uV)) (hT:qI w lv ts) (htc:∀ t∈ts,t.es.length≤t.ec) (hl:ts.length<100000):
  Fn Tryz.prog 16 [.agg #[.slice p ws.length cap],.agg (dD r).toArray,lv,.int .i64 cpu,.agg (iK two).toArray,.agg (mM pk).toArray].toArray w [] (fun u hn=>
   bif qN ws.length (ts.map dM.p) cpu two then RF cpu (o9 (Lu ws (ts.map dM.p) r pk) cpu.toNat two) u hn
   else X6 u):=by
 have hT':=hT
 obtain ⟨ql,cl,rfl,hne,_⟩:=hT.rows.opened
 refine enter Tryz.func16 ?_
 refine G5 ?_
 intro B1 B2 B3 B4 B5 B6 B7
 refine EI (kR cpu (.slice none 0 0) (Lu ws (ts.map dM.p) r pk)) ?_
 refine G5 ?_
 refine EI (Ic (.slice p ws.length cap) (.slice none 0 0) (.slice ql ts.length cl) cpu two (Lu ws (ts.map dM.p) r pk)) ?_
 obtain ⟨S0,hS0⟩:∃ S0,S0=Lu ws (ts.map dM.p) r pk:=⟨_,rfl⟩
 rw [← hS0]
 refine run ?_
 intro M
 show Ops _ _ _ _ _ _ _ (aI.mk M (Ic (.slice p ws.length cap) (.slice none 0 0) (.slice ql ts.length cl) cpu two S0) 82::_) _
 refine dK [aI.mk M (Ic (.slice p ws.length cap) (.slice none 0 0) (.slice ql ts.length cl) cpu two S0) 82] (aI.mk B7 (kR 0 (.slice none 0 0) mP) 46::aI.mk B6 ((dD kM).toArray) 30::aI.mk B5 (#[.slice none 0 0]) 24::aI.mk B4 (mM pk).toArray 51::aI.mk B3 (iK two).toArray 33::aI.mk B2 (dD r).toArray 30::aI.mk B1 #[.slice p ws.length cap] 24::[]) (fun wc hG=>X5 ws hwl cap hcc ts cpu two S0 ((yt.old hT').into hG) htc hG.dG) (fun v hn hv=>?_) (.refl _)
 obtain ⟨rfl,hle⟩:=hv
 refine aJ (aI.mk M (Ic (.slice p ws.length cap) (.slice none 0 0) (.slice ql ts.length cl) cpu two S0) 82::aI.mk B7 (kR 0 (.slice none 0 0) mP) 46::aI.mk B6 ((dD kM).toArray) 30::aI.mk B5 (#[.slice none 0 0]) 24::aI.mk B4 (mM pk).toArray 51::aI.mk B3 (iK two).toArray 33::aI.mk B2 (dD r).toArray 30::aI.mk B1 #[.slice p ws.length cap] 24::[]) (cnt1 hle) ?_
 cases hmay:qN ws.length (ts.map dM.p) cpu two with
 | false=>
  simp only [cond_false]
  refine aX ?_
  refine iw 14 ?_
  refine iw 16 ?_
  refine dN 8 3 [0,1,2] [3,4,5,6,7] (aI.mk M (Ic (.slice p ws.length cap) (.slice none 0 0) (.slice ql ts.length cl) cpu two S0) 82::aI.mk B7 (kR 0 (.slice none 0 0) mP) 46::aI.mk B6 ((dD kM).toArray) 30::aI.mk B5 (#[.slice none 0 0]) 24::aI.mk B4 (mM pk).toArray 51::aI.mk B3 (iK two).toArray 33::aI.mk B2 (dD r).toArray 30::aI.mk B1 #[.slice p ws.length cap] 24::[]) ?_
  refine dh ?_
  refine cSame ?_
  refine cSame ?_
  refine sV (fun hx=>eY rfl) ?_
  refine cSame ?_
  refine sV (fun hx=>eY rfl) ?_
  refine aH ?_
  refine di ?_
  refine run ?_
  exact Ie (cs:=#[.slice none 0 0]) (cs2:=(dD kM).toArray) (LC:=kR 0 (.slice none 0 0) mP) (rfl:X6 _)
 | true=>
  have hall:∀ t∈ts,bK t.es t.ds=true:=fun t ht=>by
   have h2:=hmay
   simp only [qN,Bool.and_eq_true] at h2
   have h3:=List.all_eq_true.1 h2.2 t.p (List.mem_map.2 ⟨t,ht,rfl⟩)
   simp only [Bool.and_eq_true] at h3
   exact h3.1
  simp only [cond_true]
  refine aX ?_
  refine gX (fun wc hG=>rM (.slice p ws.length cap) (ws.map uV) (hm.good hG) (yj _) (by rw [List.length_map];exact hwl)) ?_
  intro wv hw1 hW
  obtain ⟨wp,wc,e1⟩:=hW.opened
  rw [List.length_map] at e1
  subst e1
  refine aJ (aI.mk M (Ic (.slice p ws.length cap) (.slice none 0 0) (.slice ql ts.length cl) cpu two S0) 82::(hw1++aI.mk B7 (kR 0 (.slice none 0 0) mP) 46::aI.mk B6 ((dD kM).toArray) 30::aI.mk B5 (#[.slice none 0 0]) 24::aI.mk B4 (mM pk).toArray 51::aI.mk B3 (iK two).toArray 33::aI.mk B2 (dD r).toArray 30::aI.mk B1 #[.slice p ws.length cap] 24::[])) ak ?_
  refine run ?_
  refine gz (Ic (.slice wp ws.length wc) (.slice none 0 0) (.slice ql ts.length cl) cpu two S0) ?_
  refine run ?_
  refine gz (Ic (.slice wp ws.length wc) (.slice none 0 0) (.slice none 0 0) cpu two S0) ?_
  refine run ?_
  refine cO (σ:=FgS) (fun z=>[(50,.int .i64 (z.k:Int))]) (fun z=>aI.mk M (Ic (.slice wp ws.length wc) (.slice none 0 0) (z.v) cpu two S0) 82::(z.ha++z.hs++hw1++aI.mk B7 (kR 0 (.slice none 0 0) mP) 46::aI.mk B6 ((dD kM).toArray) 30::aI.mk B5 (#[.slice none 0 0]) 24::aI.mk B4 (mM pk).toArray 51::aI.mk B3 (iK two).toArray 33::aI.mk B2 (dD r).toArray 30::aI.mk B1 #[.slice p ws.length cap] 24::[])) (fun z=>z.k≤ts.length∧Acc 77 2 z.v z.ha (z.ts.map lC)∧jq z.ts z.hs∧z.ts.map dM.p=(ts.take z.k).map dM.p) (fun z=>ts.length - z.k) ⟨0,_,[],[],[]⟩ ⟨Nat.zero_le _,Acc.nil _ _,(trivial:jq [] []),rfl⟩ (hh:=by (exact ak)) ?_
  rintro ⟨k,ov,ha,hs,ts'⟩ m hm2 ⟨hk,hA,hO,hE⟩
  dsimp only at hm2 hk hA hO hE ⊢
  obtain ⟨oq,oc,eo⟩:=hA.own.opened
  have hl':ts'.length=k:=by have:=congrArg List.length hE;simpa [Nat.min_eq_left hk] using this
  rw [List.length_map] at eo
  subst eo
  refine run ?_
  refine aj _ rfl (fun hc2=>?_) (fun hc2=>?_)
  ·have hlt:k<ts.length:=by simpa using hc2
   obtain ⟨b,o,rfl⟩:=hne aw7
   have hr2:=hT'.rows.row hlt
   have hen:=hT'.en _ (getD_mem hlt)
   have hiv:=hT'.iv _ (getD_mem hlt)
   have hcp:=htc _ (getD_mem hlt)
   have htn:=gI hlt
   have hok:=hall _ (getD_mem hlt)
   generalize ts.getD k default=t at hr2 hen hiv hcp htn hok
   refine run ?_
   intro X
   refine run ?_
   refine EK 12 8 [0,1,2,3,4,5,9,10] [(6,false),(7,false),(8,false),(11,false)] (⟨X,#[t.ev,t.dv],77⟩::(hs++hw1++aI.mk B7 (kR 0 (.slice none 0 0) mP) 46::aI.mk B6 ((dD kM).toArray) 30::aI.mk B5 (#[.slice none 0 0]) 24::aI.mk B4 (mM pk).toArray 51::aI.mk B3 (iK two).toArray 33::aI.mk B2 (dD r).toArray 30::aI.mk B1 #[.slice p ws.length cap] 24::[])) ?_
   refine dh ?_
   refine xC ?_
   refine uy (fun wc hG=>oL t.es t.ds _ _ (hen.good hG) (hiv.good hG) (by have:=dO hok;omega) (by have:=dO hok;omega)) ?_
   rintro _ hn ⟨v1,h1,v2,h2,rfl,g1,g2,hle2⟩
   obtain ⟨q1,c1,x1⟩:=g1.opened
   obtain ⟨q2,c2,x2⟩:=g2.opened
   rw [List.length_map] at x1 x2
   subst x1 x2
   refine aH ?_
   refine xC ?_
   refine wC [.slice q1 t.es.length c1,.slice q2 t.ds.length c2] (fun Z=>?_)
   refine aH ?_
   refine Zj (c:=[.slice q1 t.es.length c1,.slice q2 t.ds.length c2]) (hp':=⟨Z,#[.slice q1 t.es.length c1,.slice q2 t.ds.length c2],77⟩::(hn++(⟨X,#[t.ev,t.dv],77⟩::aI.mk M (Ic (.slice wp ws.length wc) (.slice none 0 0) ((.slice oq ts'.length oc)) cpu two S0) 82::(hs++hw1++aI.mk B7 (kR 0 (.slice none 0 0) mP) 46::aI.mk B6 ((dD kM).toArray) 30::aI.mk B5 (#[.slice none 0 0]) 24::aI.mk B4 (mM pk).toArray 51::aI.mk B3 (iK two).toArray 33::aI.mk B2 (dD r).toArray 30::aI.mk B1 #[.slice p ws.length cap] 24::[])))) hA (bT (m:=2) mh rfl) av3 au ak (fun v' ha' hA2=>?_)
   obtain ⟨q9,c9,e9⟩:=hA2.own.opened
   subst e9
   refine xC ?_
   refine iO (b:=M) (tb:=82) (cs:=Ic (.slice wp ws.length wc) (.slice none 0 0) (.slice oq ts'.length oc) cpu two S0) (Ic (.slice wp ws.length wc) (.slice none 0 0) (.slice q9 (ts'.map lC++[[Value.slice q1 t.es.length c1,Value.slice q2 t.ds.length c2]]).length c9) cpu two S0) (hp':=ha'++(⟨Z,#[.slice q1 t.es.length c1,.slice q2 t.ds.length c2],77⟩::(hn++(⟨X,#[t.ev,t.dv],77⟩::(hs++hw1++aI.mk B7 (kR 0 (.slice none 0 0) mP) 46::aI.mk B6 ((dD kM).toArray) 30::aI.mk B5 (#[.slice none 0 0]) 24::aI.mk B4 (mM pk).toArray 51::aI.mk B3 (iK two).toArray 33::aI.mk B2 (dD r).toArray 30::aI.mk B1 #[.slice p ws.length cap] 24::[]))))) ?_ (hperm:=by (exact au))
   refine aH ?_
   refine Um ?_
   refine di ?_
   refine run ?_
   have hcp1:t.es.length≤c1:=by
    obtain ⟨q8,c8,e8,h8⟩:=g1.cap
    injection e8 with _ _ e8
    omega
   have hb:=dO hok
   refine bH ⟨k + 1,_,ha',(h1++h2)++hs,ts'++[⟨t.es,t.ds,q1,c1,q2,c2⟩]⟩ ⟨hlt,by dsimp only;rw [List.map_append];exact hA2,?_,?_⟩ (hm:=by dsimp only;omega) (h2:=by (exact cnt1 hle2))
   ·exact jq.snoc (y:=⟨t.es,t.ds,q1,c1,q2,c2⟩) ⟨g1,g2,hb.2.1,hb.2.2⟩ hO
   ·dsimp only
    rw [htn,List.map_append,List.map_append,hE]
    rfl
  ·have hge:k=ts.length:=by simp at hc2;omega
   subst hge
   rw [List.take_length] at hE
   obtain ⟨C,rfl⟩:∃ C:Nat,cpu=(C:Int):=⟨cpu.toNat,by
    have h2:=hmay
    simp only [qN,Bool.and_eq_true,decide_eq_true_eq] at h2
    omega⟩
   have hPs:fE S0 C two:=by
    have h2:=hmay
    simp only [qN,Bool.and_eq_true,decide_eq_true_eq] at h2
    obtain ⟨⟨⟨⟨⟨m1,m2⟩,m3⟩,m4⟩,m5⟩,m6⟩:=h2
    rw [hS0]
    refine ⟨hw,m1,by show C<(ts.map dM.p).length;omega,by show (ts.map dM.p).length<_;rw [List.length_map];exact hl,fun t ht=>?_,⟨m4,m5⟩,hr⟩
    have h3:=List.all_eq_true.1 m6 t ht
    simp only [Bool.and_eq_true] at h3
    exact RG h3.1 h3.2
   have hov:S0.over=false:=by rw [hS0];rfl
   have hsn:S0.seen.length=0:=by rw [hS0];rfl
   simp only [Vk]
   have hML:wK ⟨.slice wp ws.length wc,.slice none 0 0,.slice oq ts'.length oc,ts',hw1,[],ha,hs⟩ S0:=by
    rw [hS0]
    exact ⟨hW,Own.nil _ _,hA.own,hO,hE⟩
   rw [Int.toNat_natCast]
   refine run ?_
   refine dK (aI.mk M (mc (.slice wp ws.length wc) (.slice none 0 0) (.slice oq ts'.length oc) C two S0) 82::(ha++[]++(hw1++hs))) (aI.mk B7 (kR 0 (.slice none 0 0) mP) 46::aI.mk B6 ((dD kM).toArray) 30::aI.mk B5 (#[.slice none 0 0]) 24::aI.mk B4 (mM pk).toArray 51::aI.mk B3 (iK two).toArray 33::aI.mk B2 (dD r).toArray 30::aI.mk B1 #[.slice p ws.length cap] 24::[]) (fun wc' hG=>Rz _ M C two S0 hML hPs au' hov hG.dG) (fun v hn2 hv=>?_) au
   obtain ⟨rfl,L2,hL2,hle2⟩:=hv
   obtain ⟨f1,f2,f3⟩:=Ia hPs
   generalize hF:kY S0 C two=F at hL2 hle2 f1 f2 f3
   unfold ML.hp at hle2
   refine aJ (aI.mk M (mc L2.wv L2.sv L2.lv C two F) 82::((L2.hl++L2.hs++(L2.hw++L2.ht))++aI.mk B7 (kR 0 (.slice none 0 0) mP) 46::aI.mk B6 ((dD kM).toArray) 30::aI.mk B5 (#[.slice none 0 0]) 24::aI.mk B4 (mM pk).toArray 51::aI.mk B3 (iK two).toArray 33::aI.mk B2 (dD r).toArray 30::aI.mk B1 #[.slice p ws.length cap] 24::[])) (cnt1 hle2) ?_
   refine run ?_
   have hZ:o9 S0 C two=(bif F.over then F else nG (sW F C two F.iZ)):=by rw [← hF];rfl
   generalize o9 S0 C two=Z at hZ ⊢
   refine dX (σ:=ML) (fun _=>[]) (fun L=>aI.mk M (mc L.wv L.sv L.lv C two Z) 82::((L.hl++L.hs++(L.hw++L.ht))++aI.mk B7 (kR 0 (.slice none 0 0) mP) 46::aI.mk B6 ((dD kM).toArray) 30::aI.mk B5 (#[.slice none 0 0]) 24::aI.mk B4 (mM pk).toArray 51::aI.mk B3 (iK two).toArray 33::aI.mk B2 (dD r).toArray 30::aI.mk B1 #[.slice p ws.length cap] 24::[])) (fun L=>wK L Z) ?_ ?_
   ·refine aj _ rfl (fun hc3=>?_) (fun hc3=>?_)
    ·have ho:F.over=false:=by simpa using hc3
     rw [ho,cond_false] at hZ
     obtain ⟨d1,d2⟩:=V6 f1 (f3 ho).1
     refine run ?_
     rw [show (List.take 5 (List.drop 3 (mc L2.wv L2.sv L2.lv C two F).toList)).toArray=(Iu F.iZ).toArray from rfl]
     refine dK (aI.mk M (mc L2.wv L2.sv L2.lv C two F) 82::(L2.hl++L2.hs++(L2.hw++L2.ht))) (aI.mk B7 (kR 0 (.slice none 0 0) mP) 46::aI.mk B6 ((dD kM).toArray) 30::aI.mk B5 (#[.slice none 0 0]) 24::aI.mk B4 (mM pk).toArray 51::aI.mk B3 (iK two).toArray 33::aI.mk B2 (dD r).toArray 30::aI.mk B1 #[.slice p ws.length cap] 24::[]) (fun wc' hG=>X4 L2 M C two F hL2 f1 au' ho F.iZ (f3 ho).1 hG.dG) (fun v hn3 hv=>?_) au
     obtain ⟨av,ah,L4,rfl,hA4,hL4,y5⟩:=hv
     have hxl:=X7 F C two F.iZ
     generalize sW F C two F.iZ=D at hZ d1 d2 hA4 hL4 y5 hxl ⊢
     unfold ML.hp at y5
     obtain ⟨aq,ac,ea⟩:=hA4.opened
     rw [List.length_map] at ea
     subst ea
     refine aJ (aI.mk M (mc L4.wv L4.sv L4.lv C two D.1) 82::((L4.hl++L4.hs++(L4.hw++L4.ht))++ah++aI.mk B7 (kR 0 (.slice none 0 0) mP) 46::aI.mk B6 ((dD kM).toArray) 30::aI.mk B5 (#[.slice none 0 0]) 24::aI.mk B4 (mM pk).toArray 51::aI.mk B3 (iK two).toArray 33::aI.mk B2 (dD r).toArray 30::aI.mk B1 #[.slice p ws.length cap] 24::[])) (cnt1 y5) ?_
     refine az ?_
     refine aj _ rfl (fun hc4=>?_) (fun hc4=>?_)
     ·rw [Bool.and_eq_true,Bool.not_eq_true',Bool.not_eq_true'] at hc4
      obtain ⟨x,hx⟩:∃ x,D.2=some x:=by
       have h2:=hc4.2
       cases hD2:D.2 with
       | none=>rw [hD2] at h2;cases h2
       | some x=>exact ⟨x,rfl⟩
      have hz2:Z={ D.1 with r:=D.1.r.next x }:=by rw [hZ];unfold nG;rw [hc4.1,hx];rfl
      rw [hx] at hA4 ⊢
      refine run ?_
      rw [show (List.take 15 (List.drop 15 (mc L4.wv L4.sv L4.lv C two D.1).toList)).toArray=(dD D.1.r).toArray from rfl]
      refine ax (fun wc' hG=>Uw D.1.r x (hA4.lie (fun e he=>hG.here e aw1) (by rw [List.length_map];exact hxl x hx))) ?_
      refine run ?_
      refine gz (mc L4.wv L4.sv L4.lv C two Z) ?_ (hput:=by rw [hz2];kernel_rfl)
      refine run ?_
      exact dA L4 (by rw [hz2];exact ⟨hL4.w,hL4.q,hL4.l,hL4.t,hL4.p⟩) (h2:=by (exact ak))
     ·have hz2:Z=D.1:=by
       rw [hZ]
       unfold nG
       cases ho2:D.1.over with
       | true=>rfl
       | false=>
        rw [ho2] at hc4
        cases hD2:D.2 with
        | none=>rfl
        | some x=>rw [hD2] at hc4;cases hc4
      rw [hz2]
      refine run ?_
      exact dA L4 hL4 (h2:=by (exact ak))
    ·have ho:F.over=true:=by simpa using hc3
     rw [ho,cond_true] at hZ
     rw [hZ]
     refine run ?_
     exact dA L2 hL2
   intro L3 hL3
   refine run ?_
   obtain ⟨wv3,sv3,lv3,FU,hw3,hs3,hl3,ht3⟩:=L3
   obtain ⟨wO,wP,ew,ai0⟩:=hL3.mem
   obtain ⟨zn,zo,es⟩:=hL3.q.opened
   obtain ⟨FV,FW,el⟩:=hL3.l.opened
   dsimp only at ew es el ⊢
   subst ew es el
   refine iw 14 ?_
   refine iw 16 ?_
   refine dN 22 17 [0,1,2,3,4,5,6,7,8,9,10,11,12,13,14,15,16] [17,18,19,20,21] [aI.mk M (mc (.slice wO Z.ws.length wP) (.slice zn (Z.seen.map dH).length zo) (.slice FV (FU.map lC).length FW) C two Z) 82] ?_
   refine dh ?_
   rw [show (List.take 29 (List.drop 1 (mc (.slice wO Z.ws.length wP) (.slice zn (Z.seen.map dH).length zo) (.slice FV (FU.map lC).length FW) C two Z).toList)).toArray=kR C (.slice zn (Z.seen.map dH).length zo) Z from rfl,show (List.take 15 (List.drop 15 (mc (.slice wO Z.ws.length wP) (.slice zn (Z.seen.map dH).length zo) (.slice FV (FU.map lC).length FW) C two Z).toList)).toArray=(dD Z.r).toArray from rfl,show (List.take 1 (mc (.slice wO Z.ws.length wP) (.slice zn (Z.seen.map dH).length zo) (.slice FV (FU.map lC).length FW) C two Z).toList).toArray=#[.slice wO Z.ws.length wP] from rfl]
   refine qg (b:=B5) (tb:=24) (cs:=#[.slice none 0 0]) (cs':=#[.slice wO Z.ws.length wP]) (hp':=aI.mk M (mc (.slice wO Z.ws.length wP) (.slice zn (Z.seen.map dH).length zo) (.slice FV (FU.map lC).length FW) C two Z) 82::(aI.mk B7 (kR 0 (.slice none 0 0) mP) 46::aI.mk B6 (dD kM).toArray 30::[]++((hl3++hs3++(hw3++ht3))++[aI.mk B4 (mM pk).toArray 51,aI.mk B3 (iK two).toArray 33,aI.mk B2 (dD r).toArray 30,aI.mk B1 #[.slice p ws.length cap] 24]))) ?_ (hperm:=by (exact au))
   refine qg (b:=B6) (tb:=30) (cs:=(dD kM).toArray) (cs':=(dD Z.r).toArray) (hp':=aI.mk M (mc (.slice wO Z.ws.length wP) (.slice zn (Z.seen.map dH).length zo) (.slice FV (FU.map lC).length FW) C two Z) 82::(aI.mk B7 (kR 0 (.slice none 0 0) mP) 46::aI.mk B5 #[.slice wO Z.ws.length wP] 24::[]++((hl3++hs3++(hw3++ht3))++[aI.mk B4 (mM pk).toArray 51,aI.mk B3 (iK two).toArray 33,aI.mk B2 (dD r).toArray 30,aI.mk B1 #[.slice p ws.length cap] 24]))) ?_ (hperm:=by (exact au))
   refine sV (fun hx=>eY rfl) ?_
   refine iO (b:=B7) (tb:=46) (cs:=kR 0 (.slice none 0 0) mP) (kR C (.slice zn (Z.seen.map dH).length zo) Z) (hp':=aI.mk M (mc (.slice wO Z.ws.length wP) (.slice zn (Z.seen.map dH).length zo) (.slice FV (FU.map lC).length FW) C two Z) 82::(aI.mk B6 (dD Z.r).toArray 30::aI.mk B5 #[.slice wO Z.ws.length wP] 24::[]++((hl3++hs3++(hw3++ht3))++[aI.mk B4 (mM pk).toArray 51,aI.mk B3 (iK two).toArray 33,aI.mk B2 (dD r).toArray 30,aI.mk B1 #[.slice p ws.length cap] 24]))) ?_ (hperm:=by (exact au))
   refine sV (fun hx=>eY rfl) ?_
   refine aH ?_
   refine di ?_
   refine aJ (aI.mk B7 (kR C (.slice zn (Z.seen.map dH).length zo) Z) 46::aI.mk B6 (dD Z.r).toArray 30::aI.mk B5 #[.slice wO Z.ws.length wP] 24::(hl3++hs3++(hw3++ht3))) ak ?_
   refine run ?_
   refine Ie (cs:=#[.slice wO Z.ws.length wP]) (cs2:=(dD Z.r).toArray) (LC:=kR C (.slice zn (Z.seen.map dH).length zo) Z) ?_
   exact ⟨_,hL3,rfl,by (exact ak)⟩
def fH (wv sv lv:Value) (cpu:Nat) (two:bQ) (s:PS):Array Value:=
 #[wv,.int .u64 (s.r.x0:Nat),.int .u64 (s.r.x1:Nat),.int .u64 (s.r.x2:Nat),.int .u64 (s.r.x3:Nat),.int .u64 (s.r.x4:Nat),.int .u64 (s.r.x5:Nat),.int .u64 (s.r.x6:Nat),.int .u64 (s.r.x7:Nat),
  .int .u64 (s.r.pc:Nat),.int .u64 (s.r.gp:Nat),.int .u64 (s.r.dm:Nat),.int .u64 (s.r.jd:Nat),.int .u64 (s.r.qw:Nat),.int .u64 (s.r.mJ:Nat),.int .u64 (s.r.far:Nat),
  lv,.int .i64 (cpu:Nat),.bool two.on,.int .i64 two.frame,.int .i64 two.tag,.int .i64 s.pk.cpu,.bool s.pk.fill,.bool s.pk.aO,.bool s.pk.walk,.int .i64 s.pk.drop,.bool s.pk.use,
  .int .i64 (cpu:Nat),.int .i64 s.kind,.int .i64 s.iZ.op,.int .i64 s.iZ.d,.int .i64 s.iZ.n,.int .i64 s.iZ.m,.int .i64 s.iZ.aW,.int .i64 s.ft.kind,.int .i64 s.ft.stage,.int .i64 s.ft.level,.bool s.ft.walk,.int .i64 s.ft.page,.int .i64 0,sv,
  .int .u64 0,.int .u64 0,.int .u64 0,.int .u64 0,.int .u64 0,.int .u64 0,.int .u64 0,.int .u64 0,.int .u64 0,.int .u64 0,.int .u64 0,.int .u64 0,.int .u64 0,.int .u64 0,.int .u64 0]
theorem yu (wv sv lv:Value) (cpu:Nat) (two:bQ) (s:PS) (mJ far M:Nat) {w:World} (hN:eP [⟨M,fH wv sv lv cpu two s,92⟩] w):Fn Tryz.prog 83 [.pointer (some ⟨M,0,none⟩),.int .u64 (mJ:Nat),.int .u64 (far:Nat)].toArray w [M] (fun u hn=>u=.tuple #[]∧aF [⟨M,fH wv sv lv cpu two (lS s mJ far),92⟩] hn):=by
 refine eF [⟨M,fH wv sv lv cpu two s,92⟩] hN Tryz.func83 ?_
 refine run ?_
 refine gz (fH wv sv lv cpu two { s with kind:=1 }) ?_
 refine run ?_
 rw [show (List.take 15 (List.drop 1 (fH wv sv lv cpu two { s with kind:=1 }).toList)).toArray=(dD s.r).toArray from rfl]
 refine ax (fun wc hG=>MW s.r mJ far wc) ?_
 refine run ?_
 refine gz (fH wv sv lv cpu two (lS s mJ far)) ?_
 refine run ?_
 exact fin0 ⟨rfl,by (exact ak)⟩
theorem DV (wv sv lv:Value) (cpu:Nat) (two:bQ) (s:PS) (f:nD) (hf:f.stage ≠ 2→f.Fit) (addr M:Nat) {w:World} (hN:eP [⟨M,fH wv sv lv cpu two s,92⟩] w):Fn Tryz.prog 126 [.pointer (some ⟨M,0,none⟩),xZ f,.int .u64 (addr:Nat)].toArray w [M] (fun u hn=>u=.tuple #[]∧aF [⟨M,fH wv sv lv cpu two (gy s f addr),92⟩] hn):=by
 refine eF [⟨M,fH wv sv lv cpu two s,92⟩] hN Tryz.func126 ?_
 refine run ?_
 intro F
 refine run ?_
 refine gz (fH wv sv lv cpu two { s with ft:=f }) ?_ (hperm:=p1)
 refine run ?_
 refine aj _ rfl (fun hc=>?_) (fun hc=>?_)
 ·have h2:gy s f addr={ s with ft:=f,over:=true,kind:=2 }:=by
   unfold gy
   rw [show decide (f.stage=2)=true from hc];rfl
  rw [h2]
  refine run ?_
  refine gz (fH wv sv lv cpu two { s with ft:=f,over:=true,kind:=2 }) ?_
  refine run ?_
  exact fin0 ⟨rfl,by (exact ak)⟩
 ·have h2:gy s f addr=lS { s with ft:=f } (Jz f) addr:=by
   unfold gy
   rw [show decide (f.stage=2)=false from hc];rfl
  rw [h2]
  have hF:=hf (of_decide_eq_false hc)
  refine run ?_
  refine ax (fun wc hG=>XA f hF wc) ?_
  refine run ?_
  refine dK [⟨M,fH wv sv lv cpu two { s with ft:=f },92⟩] [⟨F,#[.int .i64 f.kind,.int .i64 f.stage,.int .i64 f.level,.bool f.walk,.int .i64 f.page],43⟩] (fun wc hG=>yu wv sv lv cpu two { s with ft:=f } (Jz f) addr M hG.dG) (fun v hn hv=>?_) (.refl _)
  obtain ⟨rfl,hle⟩:=hv
  refine run ?_
  exact fin0 ⟨rfl,by (exact cnt1 hle)⟩
theorem Vo (addr:Nat) (h:addr<18446744073709551616) (w:World):Fn Tryz.prog 27 [.int .u64 (addr:Nat)].toArray w [] (fun u _=>u=bif decide (addr<262144) then .tuple #[.int .i64 ((addr / 64:Nat):Int),.int .i64 ((addr % 64:Nat):Int),.bool true] else .tuple #[.int .i64 0,.int .i64 0,.bool false]):=by
 refine enter Tryz.func27 ?_
 refine run ?_
 refine aj _ rfl (fun hc=>?_) (fun hc=>?_)
 ·rw [show decide (addr<262144)=false by simp at hc;exact decide_eq_false au']
  refine run ?_
  exact Gq rfl
 ·have hl:addr<262144:=by simp at hc;omega
  rw [show decide (addr<262144)=true from decide_eq_true hl]
  refine run ?_
  refine eH av2 (lK rfl rfl addr 64 rfl rfl av1 au') ?_
  refine run ?_
  refine eH av2 (fP rfl rfl addr 64 rfl rfl av1) ?_
  refine run ?_
  exact Gq rfl
def ML.pW (L:ML) (M cpu:Nat) (two:bQ) (s:PS):Hp:=⟨M,fH L.wv L.sv L.lv cpu two s,92⟩::(L.hl++L.hs++(L.hw++L.ht))
structure lT (wv:Value) (ws:List Nat) (L:ML) (s:PS):Prop where
 w:(L.wv=wv∧s.ws=ws)∨Own 25 1 L.wv L.hw (s.ws.map uV)
 c:∃ p c,L.wv=.slice p s.ws.length c∧s.ws.length≤c
 q:Own 3 1 L.sv L.hs (s.seen.map dH)
 l:Own 77 2 L.lv L.hl (L.ts.map lC)
 t:wJ L.ht L.ts
 p:L.ts.map dM.p=s.ls
theorem lT.tl {wv:Value} {ws:List Nat} {L:ML} {s:PS} (h:lT wv ws L s) (cpu:Nat):(L.ts.getD cpu default).p=s.tl cpu:=by
 unfold PS.tl
 rw [← h.p,List.getD_eq_getElem?_getD,List.getD_eq_getElem?_getD,List.getElem?_map]
 cases L.ts[cpu]?<;>rfl
theorem lT.row {wv:Value} {ws:List Nat} {L:ML} {s:PS} {cpu:Nat} {two:bQ} (h:lT wv ws L s) (hs:fE s cpu two):∃ g lc fU,∃ tc:dM,L.lv=.slice (some ⟨g,0,none⟩) L.ts.length lc∧L.hl=[⟨g,fU,77⟩]∧List.take 2 (List.drop (cpu * 2) fU.toList)=[tc.ev,tc.dv]∧tc.p=s.tl cpu∧NS L.ht tc∧cpu<L.ts.length∧cpu * 2 + 2≤fU.size ∧
  (∀ (j:Nat) (c:Value),[tc.ev,tc.dv][j]?=some c→nth fU.toList (cpu * 2 + j)=some c) ∧
  (∀ (y:dM) (hy:Hp),NS hy y→Own 77 2 (.slice (some ⟨g,0,none⟩) L.ts.length lc) [⟨g,putAt fU (cpu * 2) [y.ev,y.dv],77⟩] ((L.ts.set cpu y).map lC)∧wJ (hy++L.ht) (L.ts.set cpu y)∧(L.ts.set cpu y).map dM.p=s.ls.set cpu y.p) ∧
  (∀ (y:dM) (hy:Hp),tc.ev=y.ev→NS hy y→Own 77 2 (.slice (some ⟨g,0,none⟩) L.ts.length lc) [⟨g,putAt fU (cpu * 2 + 1) [y.dv],77⟩] ((L.ts.set cpu y).map lC)∧wJ (hy++L.ht) (L.ts.set cpu y)∧(L.ts.set cpu y).map dM.p=s.ls.set cpu y.p):=by
 have hlen:L.ts.length=s.ls.length:=by rw [← h.p,List.length_map]
 have hcl:cpu<L.ts.length:=by rw [hlen];exact hs.cpu
 obtain ⟨g,lc,fU,e1,e2,hsz,qM,hput⟩:=h.l.NT hcl
 refine ⟨g,lc,fU,L.ts.getD cpu default,e1,e2,yl (qM 0 _ rfl) (qM 1 _ rfl),h.tl cpu,h.t _ (getD_mem hcl),hcl,hsz,qM,fun y hy hty=>⟨hput 0 [y.ev,y.dv] y av4 rfl ⟨rfl,rfl⟩,H8 hty h.t,by rw [List.map_set,h.p]⟩,fun y hy he hty=>⟨hput 1 [y.dv] y av4 (by show [_,_]=[_,_];rw [he]) ⟨rfl,rfl⟩,H8 hty h.t,by rw [List.map_set,h.p]⟩⟩
theorem lT.read {wv:Value} {ws:List Nat} {L:ML} {s:PS} (h:lT wv ws L s) {w wc:World} {mu:List Nat} {hp:Hp} (hm:dP w mu wv 1 (ws.map uV)) (hG:Good w mu hp wc) (hle:Here L.hw wc) (hlen:s.ws.length<1000000):aB wc L.wv 1 (s.ws.map uV):=by
 rcases h.w with ⟨h1,h2⟩ | h1
 ·rw [h1,h2];exact hm.good hG
 ·exact h1.lie hle av3
theorem lT.fault {wv:Value} {ws:List Nat} {L:ML} {s:PS} (h:lT wv ws L s) (f:nD) (addr:Nat):lT wv ws L (gy s f addr):=by
 unfold gy
 cases decide (f.stage=2) with
 | true=>exact ⟨h.w,h.c,h.q,h.l,h.t,h.p⟩
 | false=>exact ⟨h.w,h.c,h.q,h.l,h.t,h.p⟩
def RPg (A:zD) (ds:List dB) (u:Value) (hn:Hp):Prop:=∃ (ev dv rv:Value) (he hd hr:Hp),u=.tuple #[.int .i64 A.n,xZ A.f,.agg #[ev,dv],rv]∧Own 114 14 ev he (A.s.es.map bI)∧Own 121 4 dv hd (ds.map dJ)∧Own 3 1 rv hr (A.s.rd.map dH)∧aF (he++hd++hr) hn
theorem rpg {A:zD} {ds:List dB} {u:Value} {hn:Hp} (h:∃ X:zD,X=A∧∃ ev' rZ rv' he' hd' hr',u=.tuple #[.int .i64 X.n,xZ X.f,.agg #[ev',rZ],rv']∧Own 114 14 ev' he' (X.s.es.map bI)∧Own 121 4 rZ hd' (ds.map dJ)∧Own 3 1 rv' hr' (X.s.rd.map dH)∧aF (he'++hd'++hr') hn):RPg A ds u hn:=by
 obtain ⟨X,rfl,ev',rZ,rv',he',hd',hr',h⟩:=h
 exact ⟨ev',rZ,rv',he',hd',hr',h⟩
theorem X9 {A:zD} {ds:List dB} (h1:A.s.es.length≤8) (h2:ds.length≤8) (h3:A.s.rd.length≤100):∃ u hn,RPg A ds u hn:=by
 obtain ⟨_,hn,ev,dv,rv,he,hd,hr,_,h⟩:=V5 h1 h2 h3
 exact ⟨_,hn,ev,dv,rv,he,hd,hr,rfl,h⟩
theorem yw (wv:Value) (ws:List Nat) (L:ML) (M cpu:Nat) (two:bQ) (s:PS) (hL:lT wv ws L s) (hs:fE s cpu two) (hsn:s.seen.length<100000) (hov:s.over=false) (addr:Nat) (ha:addr<18446744073709551616) (acc:Int) (hac:PtD.bY acc 0 2=true) {w:World} (hm:dP w ((L.pW M cpu two s).map (·.b)) wv 1 (ws.map uV)) (hN:eP (L.pW M cpu two s) w):Fn Tryz.prog 84 [.pointer (some ⟨M,0,none⟩),.int .u64 (addr:Nat),.int .i64 acc].toArray w ((L.pW M cpu two s).map (·.b)) (fun u hn=>u=.tuple #[.int .i64 (bW s cpu two addr acc).2,.bool (!(bW s cpu two addr acc).1.over)]∧∃ L',lT wv ws L' (bW s cpu two addr acc).1∧aF (L'.pW M cpu two (bW s cpu two addr acc).1) hn):=by
 have JM:=hs.te
 have h8:=dO JM.vI
 have BV:=bD hs.mem
 have ZV:=fun (wc:World) (hp:Hp) (hG:Good w ((L.pW M cpu two s).map (·.b)) hp wc) (hle:Here L.hw wc)=>hL.read hm hG hle au'
 obtain ⟨g,lc,fU,tc,e1,e2,hld,htl,hx,hcl,hsz,_,hput,_⟩:=hL.row hs
 obtain ⟨wp,wc,e0,hwc⟩:=hL.c
 obtain ⟨wv1,sv,lv,ts,hw,hq,hl,ht⟩:=L
 obtain ⟨hLw,hLc,hLq,NV,XV,Yp⟩:=hL
 dsimp only at e0 e1 e2 hx hcl hput hLw hLc hLq NV XV Yp ZV
 subst e0 e1 e2
 refine eF (aI.mk M (fH (.slice wp s.ws.length wc) sv (.slice (some ⟨g,0,none⟩) ts.length lc) cpu two s) 92::(aI.mk g fU 77::(hq++(hw++ht)))) hN Tryz.func84 ?_
 refine run ?_
 refine ax (fun wc hG=>Vo addr ha wc) ?_
 cases hd:decide (addr<262144) with
 | false=>
  have hp:bW s cpu two addr acc=(gy s ⟨2,1,0,false,4095⟩ addr,0):=by unfold bW;rw [hd];rfl
  rw [hp,sF]
  refine aX ?_
  refine dK [aI.mk M (fH (.slice wp s.ws.length wc) sv (.slice (some ⟨g,0,none⟩) ts.length lc) cpu two s) 92] (aI.mk g fU 77::(hq++(hw++ht))) (fun wc' hG=>DV _ _ _ cpu two s ⟨2,1,0,false,4095⟩ (fun _=>⟨by decide,by decide,by decide,by decide⟩) addr M hG.dG) (fun v hn hv=>?_) (.refl _)
  obtain ⟨rfl,hle⟩:=hv
  refine run ?_
  exact fin2 ⟨rfl,⟨.slice wp s.ws.length wc,sv,(.slice (some ⟨g,0,none⟩) ts.length lc),ts,hw,hq,[⟨g,fU,77⟩],ht⟩,(lT.fault (s:=s) ⟨hLw,hLc,hLq,NV,XV,Yp⟩ ⟨2,1,0,false,4095⟩ addr),by unfold ML.pW;(exact cnt1 hle)⟩
 | true=>
  have hd':=of_decide_eq_true hd
  refine aX ?_
  refine iR 37 [0,1,2,3,4,5,6,7,8,9,10,11,12,13,14,15,16,17,18,19,20,21,22,23,24,25,26,27,28] [29,35,36] [30,31,32,33,34] [37,40] [38,39] ?_
  refine fB ?_
  rw [show (List.take 15 (List.drop 1 (fH (.slice wp s.ws.length wc) sv (.slice (some ⟨g,0,none⟩) ts.length lc) cpu two s).toList)).toArray=(dD s.r).toArray from rfl,show (List.take 1 (fH (.slice wp s.ws.length wc) sv (.slice (some ⟨g,0,none⟩) ts.length lc) cpu two s).toList).toArray=#[.slice wp s.ws.length wc] from rfl]
  refine AZ (fun wc hx hG=>QD s.r hs.r.gp hs.r.dm wc) ?_
  refine fB ?_
  have hAo:=Bl (hs.ac hd' acc) JM
  have hAr:=Fz (hs.ac hd' acc) JM
  refine iW (fun wc' hG=>(Nz (s.ac two addr acc) (hs.ac hd' acc) tc.es tc.ds (by rw [← htl] at JM;exact JM) (ZV wc' _ hG (fun e he=>hG.here e aw1)) (hx.1 wc' (fun e he=>hG.here e aw1)).1 ⟨_,_,rfl,hx.2⟩ (hx.1 wc' (fun e he=>hG.here e aw1)).2).mono (fun u hn hu=>rpg hu)) ?_ ?_
  ·rw [← htl] at hAo h8;exact X9 (dO hAo.es.vI).2.1 h8.2.2 ax9
  refine dR ?_
  refine dR ?_
  refine gZ ?_
  rintro _ _ ⟨Y2,rfl,rfl⟩ _ _ ⟨Y1,rfl,rfl⟩ u hn ⟨ev1,o6,pR,he1,hd1,hr1,rfl,g1,g2,g3,hle⟩
  have XW:s.acc cpu two addr acc=nX (s.ac two addr acc) (s.tl cpu).1:=rfl
  have Ry:s.acc cpu two addr acc=nX (s.ac two addr acc) tc.es:=by unfold PS.acc;rw [← htl];rfl
  obtain ⟨X,hX⟩:∃ X,X=s.acc cpu two addr acc:=⟨_,rfl⟩
  rw [← Ry,← hX] at g1 g3 ⊢
  have hX8:X.s.es.length≤8:=by rw [hX,Ry];rw [← htl] at hAo;exact (dO hAo.es.vI).2.1
  have hD8:tc.ds.length≤8:=by rw [← htl] at h8;exact h8.2.2
  have hXf:X.f.stage ≠ 2→X.f.Fit:=by rw [hX,Ry];rw [← htl] at hAr;exact hAr.f
  have ZH:X.f.kind=0→dS s.ws.length X.n=true:=by rw [hX,Ry];rw [← htl] at hAr;exact hAr.n
  obtain ⟨r1,c1,e1⟩:=g1.opened
  obtain ⟨r2,c2,e2⟩:=g2.opened
  obtain ⟨r3,c3,e3⟩:=g3.opened
  rw [List.length_map] at e1 e2 e3
  subst e1 e2 e3
  refine ni ?_
  refine aS ?_
  refine aS ?_
  refine aS ?_
  refine aS ?_
  refine fC ?_
  refine iE ?_
  refine iE ?_
  refine fC ?_
  simp only [DN,List.cons_append,List.nil_append,List.append_nil]
  refine aV (b:=Y1) (tb:=43) (cs:=#[.int .i64 0,.int .i64 0,.int .i64 0,.bool false,.int .i64 0]) (cs':=#[.int .i64 X.f.kind,.int .i64 X.f.stage,.int .i64 X.f.level,.bool X.f.walk,.int .i64 X.f.page]) (hp':=⟨Y2,#[.slice none 0 0,.slice none 0 0],77⟩::(hn++aI.mk M (fH (.slice wp s.ws.length wc) sv (.slice (some ⟨g,0,none⟩) ts.length lc) cpu two s) 92::aI.mk g fU 77::(hq++(hw++ht)))) ?_ au
  refine aV (b:=Y2) (tb:=77) (cs:=#[.slice none 0 0,.slice none 0 0]) (cs':=#[.slice r1 X.s.es.length c1,.slice r2 tc.ds.length c2]) (hp':=⟨Y1,#[.int .i64 X.f.kind,.int .i64 X.f.stage,.int .i64 X.f.level,.bool X.f.walk,.int .i64 X.f.page],43⟩::(hn++aI.mk M (fH (.slice wp s.ws.length wc) sv (.slice (some ⟨g,0,none⟩) ts.length lc) cpu two s) 92::aI.mk g fU 77::(hq++(hw++ht)))) ?_ au
  refine aH ?_
  refine di ?_
  refine aJ (aI.mk g fU 77::aI.mk M (fH (.slice wp s.ws.length wc) sv (.slice (some ⟨g,0,none⟩) ts.length lc) cpu two s) 92::⟨Y1,#[.int .i64 X.f.kind,.int .i64 X.f.stage,.int .i64 X.f.level,.bool X.f.walk,.int .i64 X.f.page],43⟩::⟨Y2,#[.slice r1 X.s.es.length c1,.slice r2 tc.ds.length c2],77⟩::((he1++hd1++hr1)++(hq++(hw++ht)))) (cnt1 hle) ?_
  refine run ?_
  refine gz (fH (.slice wp s.ws.length wc) sv (.slice (some ⟨g,0,none⟩) ts.length lc) cpu two { s with pk:={ s.pk with drop:=-1 } }) ?_ (hperm:=p1)
  refine run ?_
  refine iV 10 ?_
  refine cu ?_
  refine run ?_
  refine aJ (aI.mk M (fH (.slice wp s.ws.length wc) sv (.slice (some ⟨g,0,none⟩) ts.length lc) cpu two { s with pk:={ s.pk with drop:=-1 } }) 92::(hq++(aI.mk g (putAt fU (cpu * 2) [.slice r1 X.s.es.length c1,.slice r2 tc.ds.length c2]) 77::⟨Y1,#[.int .i64 X.f.kind,.int .i64 X.f.stage,.int .i64 X.f.level,.bool X.f.walk,.int .i64 X.f.page],43⟩::⟨Y2,#[.slice r1 X.s.es.length c1,.slice r2 tc.ds.length c2],77⟩::((he1++hd1++hr1)++(hw++ht))))) (by simp only [putAt];(exact ak)) ?_
  have hrd:=hAo.rd
  rw [← XW,← hX] at hrd
  simp only [List.length_nil,Nat.zero_add] at hrd
  refine pM (X.s.rd.map dH) (aI.mk M (fH (.slice wp s.ws.length wc) sv (.slice (some ⟨g,0,none⟩) ts.length lc) cpu two { s with pk:={ s.pk with drop:=-1 } }) 92::aI.mk g (putAt fU (cpu * 2) [.slice r1 X.s.es.length c1,.slice r2 tc.ds.length c2]) 77::⟨Y1,#[.int .i64 X.f.kind,.int .i64 X.f.stage,.int .i64 X.f.level,.bool X.f.walk,.int .i64 X.f.page],43⟩::⟨Y2,#[.slice r1 X.s.es.length c1,.slice r2 tc.ds.length c2],77⟩::((he1++hd1++hr1)++(hw++ht))) hLq (uH.own g3 ak) (fun sv2 hq2 hO2=>?_) az3 yO au
  rw [← List.map_append] at hO2
  obtain ⟨q2,k2,e4⟩:=hO2.opened
  rw [List.length_map] at e4
  subst e4
  refine aJ (aI.mk M (fH (.slice wp s.ws.length wc) sv (.slice (some ⟨g,0,none⟩) ts.length lc) cpu two { s with pk:={ s.pk with drop:=-1 } }) 92::(hq2++(aI.mk g (putAt fU (cpu * 2) [.slice r1 X.s.es.length c1,.slice r2 tc.ds.length c2]) 77::⟨Y1,#[.int .i64 X.f.kind,.int .i64 X.f.stage,.int .i64 X.f.level,.bool X.f.walk,.int .i64 X.f.page],43⟩::⟨Y2,#[.slice r1 X.s.es.length c1,.slice r2 tc.ds.length c2],77⟩::((he1++hd1++hr1)++(hw++ht))))) ak ?_
  refine run ?_
  refine gz (fH (.slice wp s.ws.length wc) (.slice q2 (s.seen++X.s.rd).length k2) (.slice (some ⟨g,0,none⟩) ts.length lc) cpu two (s.put cpu X)) ?_
  refine run ?_
  have hy:NS (he1++hd1) ⟨X.s.es,tc.ds,r1,c1,r2,c2⟩:=U8 g1 g2 hX8 hD8
  obtain ⟨o1,o2,o3⟩:=hput ⟨X.s.es,tc.ds,r1,c1,r2,c2⟩ _ hy
  have hM:lT wv ws ⟨.slice wp s.ws.length wc,.slice q2 (s.seen++X.s.rd).length k2,(.slice (some ⟨g,0,none⟩) ts.length lc),ts.set cpu ⟨X.s.es,tc.ds,r1,c1,r2,c2⟩,hw,hq2,[⟨g,putAt fU (cpu * 2) [.slice r1 X.s.es.length c1,.slice r2 tc.ds.length c2],77⟩],he1++hd1++ht⟩ (s.put cpu X):=
   ⟨hLw,hLc,hO2,o1,o2,by dsimp only at o3 ⊢;rw [o3];show s.ls.set cpu (X.s.es,tc.ds)=s.ls.set cpu (X.s.es,(s.tl cpu).2);rw [← htl]⟩
  refine aj _ rfl (fun hc=>?_) (fun hc=>?_)
  ·have hk:X.f.kind ≠ 0:=by simpa using hc
   have hp:bW s cpu two addr acc=(gy (s.put cpu X) X.f addr,0):=by
    unfold bW
    rw [← hX,hd,decide_eq_false hk];rfl
   rw [hp,sF]
   refine run ?_
   refine dK [⟨M,fH (.slice wp s.ws.length wc) (.slice q2 (s.seen++X.s.rd).length k2) (.slice (some ⟨g,0,none⟩) ts.length lc) cpu two (s.put cpu X),92⟩] (hq2++(aI.mk g (putAt fU (cpu * 2) [.slice r1 X.s.es.length c1,.slice r2 tc.ds.length c2]) 77::⟨Y1,#[.int .i64 X.f.kind,.int .i64 X.f.stage,.int .i64 X.f.level,.bool X.f.walk,.int .i64 X.f.page],43⟩::⟨Y2,#[.slice r1 X.s.es.length c1,.slice r2 tc.ds.length c2],77⟩::((he1++hd1++hr1)++(hw++ht)))) (fun wc' hG=>DV _ _ _ cpu two (s.put cpu X) X.f hXf addr M hG.dG) (fun v hn hv=>?_) (.refl _)
   obtain ⟨rfl,hle⟩:=hv
   refine run ?_
   exact fin2 ⟨rfl,_,hM.fault _ _,by unfold ML.pW;(exact cnt1 hle)⟩
  ·have hk:X.f.kind=0:=by simpa using hc
   have hp:bW s cpu two addr acc=((s.put cpu X).see X.n,X.n * 64 + ((addr % 64:Nat):Int)):=by
    unfold bW
    rw [← hX,hd,decide_eq_true hk];rfl
   have ho2:((s.put cpu X).see X.n).over=false:=hov
   rw [hp,ho2]
   refine run ?_
   intro B
   have hn:=jy (ZH hk)
   refine pM ([X.n].map dH) (aI.mk M (fH (.slice wp s.ws.length wc) (.slice q2 (s.seen++X.s.rd).length k2) (.slice (some ⟨g,0,none⟩) ts.length lc) cpu two (s.put cpu X)) 92::⟨B,#[.int .i64 X.n],3⟩::aI.mk g (putAt fU (cpu * 2) [.slice r1 X.s.es.length c1,.slice r2 tc.ds.length c2]) 77::⟨Y1,#[.int .i64 X.f.kind,.int .i64 X.f.stage,.int .i64 X.f.level,.bool X.f.walk,.int .i64 X.f.page],43⟩::⟨Y2,#[.slice r1 X.s.es.length c1,.slice r2 tc.ds.length c2],77⟩::((he1++hd1++hr1)++(hw++ht))) hO2 ⟨_,_,rfl,.inr ⟨_,_,rfl,bT (m:=1) mh rfl⟩⟩ (fun sv3 hq3 hO4=>?_) ay7 yO au
   rw [← List.map_append] at hO4
   obtain ⟨q3,k3,e5⟩:=hO4.opened
   rw [List.length_map] at e5
   subst e5
   refine aJ (aI.mk M (fH (.slice wp s.ws.length wc) (.slice q2 (s.seen++X.s.rd).length k2) (.slice (some ⟨g,0,none⟩) ts.length lc) cpu two (s.put cpu X)) 92::(hq3++(aI.mk g (putAt fU (cpu * 2) [.slice r1 X.s.es.length c1,.slice r2 tc.ds.length c2]) 77::⟨Y1,#[.int .i64 X.f.kind,.int .i64 X.f.stage,.int .i64 X.f.level,.bool X.f.walk,.int .i64 X.f.page],43⟩::⟨Y2,#[.slice r1 X.s.es.length c1,.slice r2 tc.ds.length c2],77⟩::((he1++hd1++hr1)++(hw++ht))))) ak ?_
   refine run ?_
   refine gz (fH (.slice wp s.ws.length wc) (.slice q3 (s.seen++X.s.rd++[X.n]).length k3) (.slice (some ⟨g,0,none⟩) ts.length lc) cpu two (s.put cpu X)) ?_
   refine run ?_
   refine fin2 ⟨rfl,⟨.slice wp s.ws.length wc,.slice q3 (s.seen++X.s.rd++[X.n]).length k3,(.slice (some ⟨g,0,none⟩) ts.length lc),ts.set cpu ⟨X.s.es,tc.ds,r1,c1,r2,c2⟩,hw,hq3,[⟨g,putAt fU (cpu * 2) [.slice r1 X.s.es.length c1,.slice r2 tc.ds.length c2],77⟩],he1++hd1++ht⟩,⟨hM.w,hM.c,hO4,hM.l,hM.t,hM.p⟩,?_⟩
   unfold ML.pW
   show aF (⟨M,fH (.slice wp s.ws.length wc) (.slice q3 (s.seen++X.s.rd++[X.n]).length k3) (.slice (some ⟨g,0,none⟩) ts.length lc) cpu two (s.put cpu X),92⟩::_) _
   (exact ak)
theorem LD (wv sv lv:Value) (cpu:Nat) (two:bQ) (s:PS) {k:Nat} (h:k<8):nth (fH wv sv lv cpu two s).toList (1 + k)=some (.int .u64 (s.r.x k:Nat)):=by
 match k,h with
 | 0,_=>rfl | 1,_=>rfl | 2,_=>rfl | 3,_=>rfl | 4,_=>rfl | 5,_=>rfl | 6,_=>rfl | 7,_=>rfl
theorem BJ (wv sv lv:Value) (cpu:Nat) (two:bQ) (s:PS) {k:Nat} (h:k<8) (v:Nat):putAt (fH wv sv lv cpu two s) (1 + k) [.int .u64 (v:Nat)]=fH wv sv lv cpu two { s with r:=s.r.kE k v }:=by
 match k,h with
 | 0,_=>rfl | 1,_=>rfl | 2,_=>rfl | 3,_=>rfl | 4,_=>rfl | 5,_=>rfl | 6,_=>rfl | 7,_=>rfl
def ZW (wv:Value) (ws:List Nat) (M cpu:Nat) (two:bQ) (s:PS) (v:Value) (u:Value) (hn:Hp):Prop:=u=v∧∃ L,lT wv ws L s∧aF (L.pW M cpu two s) hn
theorem lT.trap {wv:Value} {ws:List Nat} {L:ML} {s:PS} (h:lT wv ws L s) (a b:Nat):lT wv ws L (lS s a b):=⟨h.w,h.c,h.q,h.l,h.t,h.p⟩
theorem ZX (a:Nat):decide ((a:Int)=0)=decide (a=0):=by rw [Bool.eq_iff_iff];simp
theorem RH (wv:Value) (ws:List Nat) (L:ML) (M cpu:Nat) (two:bQ) (s:PS) (hL:lT wv ws L s) (hs:fE s cpu two) (hq:s.seen.length<90000) (hov:s.over=false) (op aW:Int) (D N K:Nat) (hi:(⟨op,D,N,K,aW⟩:bG).may=true) (hop:op=7∨op=8) {w:World} (hm:dP w ((L.pW M cpu two s).map (·.b)) wv 1 (ws.map uV)) (hN:eP (L.pW M cpu two s) w):Fn Tryz.prog 85 [.pointer (some ⟨M,0,none⟩),.agg #[.int .i64 op,.int .i64 (D:Nat),.int .i64 (N:Nat),.int .i64 (K:Nat),.int .i64 aW]].toArray w ((L.pW M cpu two s).map (·.b)) (ZW wv ws M cpu two (sQ s cpu two ⟨op,D,N,K,aW⟩) (.bool (!(sQ s cpu two ⟨op,D,N,K,aW⟩).over))):=by
 have hb:PtD.bY (D:Int) 0 7=true∧PtD.bY (N:Int) 0 7=true∧PtD.bY (K:Int) 0 7=true:=by
  simp only [bG.may,bG.base,Bool.and_eq_true] at hi
  exact ⟨hi.1.2.1,hi.1.2.2.1,hi.1.2.2.2.1⟩
 obtain ⟨hD,hN',hK⟩:D<8∧N<8∧K<8:=by
  simp only [PtD.bY,Bool.and_eq_true,decide_eq_true_eq] at hb;omega
 have hsz:=FD hi hop
 have hsz':2 ^ K=1∨2 ^ K=2∨2 ^ K=4∨2 ^ K=8:=hsz
 have hK3:=k3 hsz'
 have hxN:=LD L.wv L.sv L.lv cpu two s hN'
 refine eF (aI.mk M (fH L.wv L.sv L.lv cpu two s) 92::(L.hl++L.hs++(L.hw++L.ht))) hN Tryz.func85 ?_
 refine run ?_
 intro I
 refine run ?_
 refine eU ?_
 refine cu ?_
 refine qo (jk ay rfl rfl rfl) ?_
 refine cu ?_
 rw [DT]
 rw [show uW ((s.r.x N:Nat) + aW)=s.addr ⟨op,D,N,K,aW⟩ from rfl]
 have ha0:gq (s.addr ⟨op,D,N,K,aW⟩):=DJ _
 unfold sQ
 obtain ⟨Z,hZ⟩:∃ Z,Z=s.addr ⟨op,D,N,K,aW⟩:=⟨_,rfl⟩
 obtain ⟨ac,hac⟩:∃ ac,ac=bG.acc ⟨op,D,N,K,aW⟩:=⟨_,rfl⟩
 have XZ:PtD.bY ac 0 2=true:=by rw [hac];unfold bG.acc;cases decide (op=8)<;>rfl
 rw [← hZ] at ha0 ⊢
 rw [← hac]
 dsimp only [Int.toNat_natCast]
 obtain ⟨h1,h2,h3⟩:=lF hs ha0 ac
 refine run ?_
 refine eH av2 (wG rfl rfl au' (by show (K:Int)≤64;omega)) ?_
 rw [DU hK3]
 refine run ?_
 refine eH av2 (fP rfl rfl Z (2 ^ K) rfl rfl au') ?_
 refine run ?_
 rw [ZX]
 cases hd:decide (Z % 2 ^ K=0) with
 | false=>
  simp only [cond_false]
  refine aX ?_
  refine dK [aI.mk M (fH L.wv L.sv L.lv cpu two s) 92] (aI.mk I #[.int .i64 op,.int .i64 (D:Nat),.int .i64 (N:Nat),.int .i64 (K:Nat),.int .i64 aW] 41::(L.hl++L.hs++(L.hw++L.ht))) (fun wc hG=>yu L.wv L.sv L.lv cpu two s 16777216 Z M hG.dG) (fun v hn hv=>?_) au
  obtain ⟨rfl,hle⟩:=hv
  refine run ?_
  exact fin1 ⟨rfl,L,hL.trap _ _,by unfold ML.pW;(exact cnt1 hle)⟩
 | true=>
  simp only [cond_true]
  refine aX ?_
  refine dX (σ:=Unit) (fun _=>[(7,.int .i64 ac),(6,.int .i64 (2 ^ K:Nat)),(5,.int .u64 (Z:Nat)),(3,.pointer (some ⟨I,0,none⟩)),(0,.pointer (some ⟨M,0,none⟩))]) (fun _=>aI.mk I #[.int .i64 op,.int .i64 (D:Nat),.int .i64 (N:Nat),.int .i64 (K:Nat),.int .i64 aW] 41::aI.mk M (fH L.wv L.sv L.lv cpu two s) 92::(L.hl++L.hs++(L.hw++L.ht))) (fun _=>True) ?_ ?_
  ·refine aj _ rfl (fun hc=>?_) (fun hc=>?_)
   ·rw [show ac=1 by rw [hac];unfold bG.acc;rw [hc];rfl]
    refine run ?_
    exact dA () trivial
   ·rw [show ac=0 by rw [hac];unfold bG.acc;rw [hc];rfl]
    refine run ?_
    exact dA () trivial
  rintro _ _
  refine run ?_
  refine dK (aI.mk M (fH L.wv L.sv L.lv cpu two s) 92::(L.hl++L.hs++(L.hw++L.ht))) [aI.mk I #[.int .i64 op,.int .i64 (D:Nat),.int .i64 (N:Nat),.int .i64 (K:Nat),.int .i64 aW] 41] (fun wc hG=>yw wv ws L M cpu two s hL hs au' hov Z ha0 ac XZ (hm.into hG) hG.dG) (fun v hn2 hv=>?_) au
  obtain ⟨rfl,L2,hL2,hle2⟩:=hv
  generalize bW s cpu two Z ac=P at h1 h2 h3 hL2 hle2 ⊢
  unfold ML.pW at hle2
  refine aJ (aI.mk I #[.int .i64 op,.int .i64 (D:Nat),.int .i64 (N:Nat),.int .i64 (K:Nat),.int .i64 aW] 41::aI.mk M (fH L2.wv L2.sv L2.lv cpu two P.1) 92::(L2.hl++L2.hs++(L2.hw++L2.ht))) (cnt1 hle2) ?_
  refine run ?_
  refine aj _ rfl (fun hc=>?_) (fun hc=>?_)
  ·have hc':P.1.over=true:=by simpa using hc
   rw [uP hc',hc']
   refine run ?_
   exact fin1 ⟨rfl,L2,hL2,by unfold ML.pW;(exact ak)⟩
  have hc':P.1.over=false:=by simpa using hc
  rw [l7 hc']
  obtain ⟨hws,hr,_,a,ha2,hlt,hmm⟩:=h3 hc'
  have hpl:yh P.1.ws a (2 ^ K):=Lj h1 (by rw [hws];exact hlt) hmm hsz' (of_decide_eq_true hd)
  obtain ⟨wp,wc,ew,hwc⟩:=hL2.c
  have hml:∀ w' hp',Good w ((L.pW M cpu two s).map (·.b)) hp' w'→Here L2.hw w'→aB w' L2.wv 1 (P.1.ws.map uV):=fun w' hp' hG hw=>hL2.read hm hG hw (by have:=bD h1.mem;omega)
  have hxD:=LD (.slice wp P.1.ws.length wc) L2.sv L2.lv cpu two P.1 hD
  rw [ew] at hml ⊢
  rw [← hws,← hr,ha2,Int.toNat_natCast]
  refine run ?_
  refine aj _ rfl (fun hc8=>?_) (fun hc8=>?_)
  ·rw [uP hc8]
   refine run ?_
   refine iR 16 [0,1,2,3,4,5,6,7,8,9,10,11,12,13,14] [15] [] [16,17] [18] ?_
   refine fB ?_
   refine iW (fun wc' hG=>H6 P.1.ws a (2 ^ K) (P.1.r.x D) hpl (aC.x_lt h1.r D) (hml wc' _ hG (fun e he=>hG.here e aw1))) ?_ ?_
   ·obtain ⟨a1,b1,o1⟩:=fF (e:=25) (xs:=(gJ P.1.ws a (2 ^ K) (P.1.r.x D)).map uV) (yj _) (by have:=bD h1.mem;rw [List.length_map,gJ,List.length_set];omega)
    exact ⟨_,_,a1,b1,rfl,o1,aF.refl _⟩
   refine gZ ?_
   rintro u hn ⟨v',h',rfl,g1,hle3⟩
   refine fC ?_
   refine jU ?_
   refine rP ?_
   refine fC ?_
   simp only [DN,List.cons_append,List.nil_append,List.append_nil]
   obtain ⟨q1,c1,e1,U2⟩:=g1.jS
   rw [List.length_map] at e1 U2
   subst e1
   refine iO (b:=M) (tb:=92) (cs:=fH (.slice wp P.1.ws.length wc) L2.sv L2.lv cpu two P.1) (fH (.slice q1 (gJ P.1.ws a (2 ^ K) (P.1.r.x D)).length c1) L2.sv L2.lv cpu two { P.1 with ws:=gJ P.1.ws a (2 ^ K) (P.1.r.x D) }) (hp':=hn++(aI.mk I #[.int .i64 op,.int .i64 (D:Nat),.int .i64 (N:Nat),.int .i64 (K:Nat),.int .i64 aW] 41::(L2.hl++L2.hs++(L2.hw++L2.ht)))) ?_ (hperm:=by (exact au))
   refine aH ?_
   refine di ?_
   refine run ?_
   exact fin1 ⟨by rw [hc'],⟨.slice q1 (gJ P.1.ws a (2 ^ K) (P.1.r.x D)).length c1,L2.sv,L2.lv,L2.ts,h',L2.hs,L2.hl,L2.ht⟩,⟨.inr g1,⟨_,_,rfl,U2⟩,hL2.q,hL2.l,hL2.t,hL2.p⟩,by unfold ML.pW;(exact cnt1 hle3)⟩
  ·rw [l7 hc8]
   refine run ?_
   refine dN 15 14 [0,1,2,3,4,5,6,7,8,9,10,11,12,13] [14] [] ?_
   refine dh ?_
   refine kU (fun wc' hx hG=>Ld P.1.ws a (2 ^ K) hpl (hml wc' _ hG (fun e he=>hG.here e aw1))) ?_
   refine dh ?_
   refine iO (b:=M) (tb:=92) (cs:=fH (.slice wp P.1.ws.length wc) L2.sv L2.lv cpu two P.1) (fH (.slice wp P.1.ws.length wc) L2.sv L2.lv cpu two { P.1 with r:=P.1.r.kE D (ji P.1.ws a (2 ^ K)) }) (hp':=aI.mk I #[.int .i64 op,.int .i64 (D:Nat),.int .i64 (N:Nat),.int .i64 (K:Nat),.int .i64 aW] 41::(L2.hl++L2.hs++(L2.hw++L2.ht))) ?_ (hperm:=by (exact au)) (hput:=BJ _ _ _ _ _ _ hD _) (hlt:=Nat.ble_eq_true_of_le (show 1 + D + 1≤56 by omega))
   refine aH ?_
   refine di ?_
   refine run ?_
   exact fin1 ⟨by rw [hc'],L2,⟨hL2.w,hL2.c,hL2.q,hL2.l,hL2.t,hL2.p⟩,by unfold ML.pW;rw [ew];(exact ak)⟩
end
end Go.Proofs.YtndklbjnofdgeaaGreat
