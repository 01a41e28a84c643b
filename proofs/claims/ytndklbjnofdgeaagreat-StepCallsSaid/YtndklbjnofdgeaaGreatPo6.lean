/- Texts of one's own, merged: the engine, what the functions do, plain laws. -/
import Derived.Test.YtndklbjnofdgeaaGreatPo5
namespace Go.Proofs.YtndklbjnofdgeaaGreat
open Go.RowKit
set_option linter.unusedVariables false
set_option linter.unusedSimpArgs false
set_option maxRecDepth 20000
section
attribute [local irreducible] Hy St Ops DH gB iH iq fK DS fA jX
theorem LG (b:Nat) (aW:Int):∀ w',Here [⟨b,#[.int .i64 aW],3⟩] w'→aB w' (.slice (some ⟨b,0,none⟩) 1 1) 1 ([aW].map dH):=fun w' hh=>(BI b aW).lie hh av4
theorem lT.tls {wv:Value} {ws:List Nat} {L:ML} {s:PS} {cpu:Nat} {two:bQ} (h:lT wv ws L s) (hs:fE s cpu two) {w:World} (h1:Here L.hl w) (h2:Here L.ht w):qI w L.lv L.ts:=by
 have hlen:L.ts.length=s.ls.length:=by rw [← h.p,List.length_map]
 have:=hs.len
 exact ⟨h.l.lie h1 av3,fun t ht=>((h.t t ht).1 w h2).1,fun t ht=>((h.t t ht).1 w h2).2⟩
theorem lT.Vh {wv:Value} {ws:List Nat} {L:ML} {s:PS} {cpu:Nat} {two:bQ} (h:lT wv ws L s) (hs:fE s cpu two):(∀ t∈L.ts,t.es.length≤t.ec)∧(∀ t∈L.ts,bK t.es t.ds=true):=by
 refine ⟨fun t ht=>(h.t t ht).2,fun t ht=>?_⟩
 have hm:t.p∈s.ls:=by rw [← h.p];exact List.mem_map.2 ⟨t,ht,rfl⟩
 exact (hs.es _ hm).vI
section
variable {n : Nat} {w0 : World} {mu : List Nat} {l : Fm} {h0 hp hc : Hp} {all : Array Oper} {ds : List (Nat × Nat)} {t0 : Nat} {aG aN : Fm} {Y : Fm → Fm → Hp → Prop} {i d : Nat} {r : List (Nat × Bool)} {ty : TypeId} {pos : String} {af : Array Edge}
theorem Ya {s t:TypeId} {x:Operand} {k:IntKind} {p:Int} (h:Dk Tryz.prog n w0 mu all ds l h0 hp t0 Y r ((i,.int .i64 p)::aG) aN hc) (b0:-9223372036854775808≤p) (b1:p≤9223372036854775807) (ho:all[i]?=some ⟨some d,.convert s t x,ty,pos,af,none⟩:=by rfl) (hx:ev (aA ds (aN++aG) af.toList++l) x=some (.int k p):=by rfl) (hs:lk Tb.ik s=some k:=by rfl) (ht:lk Tb.ik t=some .i64:=by rfl):Dk Tryz.prog n w0 mu all ds l h0 hp t0 Y ((i,true)::r) aG aN hc:=
 ⟨_,_,ho,⟨rfl,fun a w hk _=>by
  have e:=wrap_in b0 b1
  simp only [execOp,hk.ev hx]
  simp [convert,run_underlying (ay.gik hs) w,run_underlying (ay.gik ht) w,Conv.intToInt,go_sem,e]⟩,h⟩
end
set_option maxHeartbeats 8000000 in
theorem Yb (wv:Value) (ws:List Nat) (L:ML) (M cpu:Nat) (two:bQ) (s:PS) (hL:lT wv ws L s) (hs:fE s cpu two) (hq:s.seen.length<80000) (hov:s.over=false) {w:World} (hm:dP w ((L.pW M cpu two s).map (·.b)) wv 1 (ws.map uV)) (hN:eP (L.pW M cpu two s) w):Fn Tryz.prog 47 [.pointer (some ⟨M,0,none⟩)].toArray w ((L.pW M cpu two s).map (·.b)) (ZW wv ws M cpu two (o9 s cpu two) (.tuple #[])):=by
 obtain ⟨h1,h2,h3⟩:=lF hs hs.r.pc 2
 refine eF (aI.mk M (fH L.wv L.sv L.lv cpu two s) 92::(L.hl++L.hs++(L.hw++L.ht))) hN Tryz.func47 ?_
 refine run ?_
 refine eH av2 (fP rfl rfl s.r.pc 4 rfl rfl au') ?_
 refine run ?_
 rw [ZX]
 unfold o9 kY
 cases hd:decide (s.r.pc % 4=0) with
 | false=>
  simp only [cond_false]
  rw [uP (show (lS s 16777216 s.r.pc).over=true from rfl)]
  refine aX ?_
  refine dK [aI.mk M (fH L.wv L.sv L.lv cpu two s) 92] (L.hl++L.hs++(L.hw++L.ht)) (fun wc hG=>yu L.wv L.sv L.lv cpu two s 16777216 s.r.pc M hG.dG) (fun v hn hv=>?_) (.refl _)
  obtain ⟨rfl,hle⟩:=hv
  refine run ?_
  exact fin0 ⟨rfl,L,hL.trap _ _,by unfold ML.pW;(exact cnt1 hle)⟩
 | true=>
  simp only [cond_true]
  refine aX ?_
  refine dK (aI.mk M (fH L.wv L.sv L.lv cpu two s) 92::(L.hl++L.hs++(L.hw++L.ht))) [] (fun wc hG=>yw wv ws L M cpu two s hL hs au' hov s.r.pc hs.r.pc 2 rfl (hm.into hG) hG.dG) (fun v hn2 hv=>?_) au
  obtain ⟨rfl,L2,hL2,hle2⟩:=hv
  generalize bW s cpu two s.r.pc 2=P at h1 h2 h3 hL2 hle2 ⊢
  unfold ML.pW at hle2
  refine aJ (aI.mk M (fH L2.wv L2.sv L2.lv cpu two P.1) 92::(L2.hl++L2.hs++(L2.hw++L2.ht))) (cnt1 hle2) ?_
  refine run ?_
  refine aj _ rfl (fun hc=>?_) (fun hc=>?_)
  ·have hc':P.1.over=true:=by simpa using hc
   rw [uP hc',uP hc']
   refine run ?_
   exact fin0 ⟨rfl,L2,hL2,by unfold ML.pW;(exact ak)⟩
  have hc':P.1.over=false:=by simpa using hc
  obtain ⟨hws,hr,hkd,a,ha2,hlt,hmm⟩:=h3 hc'
  have hpl:yh P.1.ws a 4:=Lj h1 (by rw [hws];exact hlt) hmm (.inr (.inr (.inl rfl))) (of_decide_eq_true hd)
  obtain ⟨wp,wc,ew,hwc⟩:=hL2.c
  have hml:∀ w' hp',Good w ((L.pW M cpu two s).map (·.b)) hp' w'→Here L2.hw w'→aB w' L2.wv 1 (P.1.ws.map uV):=fun w' hp' hG hw=>hL2.read hm hG hw (by have:=bD h1.mem;omega)
  rw [ew] at hml ⊢
  rw [l7 hc',← hws,← hr,ha2,Int.toNat_natCast]
  have hrl:ji P.1.ws a 4<4294967296:=BF (.inr (.inr (.inl rfl)))
  refine run ?_
  refine ax (fun wc' hG=>Ld P.1.ws a 4 hpl (hml wc' _ hG (fun e he=>hG.here e aw1))) ?_
  refine run ?_
  refine eH av2 (jk ay rfl rfl rfl) ?_
  rw [show IntKind.u32.wrap ((ji P.1.ws a 4:Nat):Int)=((ji P.1.ws a 4:Nat):Int) by rw [IntKind.wrap_u32];omega]
  refine run ?_
  refine ax (fun wc' hG=>KJ (ji P.1.ws a 4) hrl wc') ?_
  refine run ?_
  intro I
  refine run ?_
  obtain ⟨V,hV⟩:∃ V,V=ji P.1.ws a 4:=⟨_,rfl⟩
  rw [← hV]
  cases hk:bG.Be V with
  | false=>
   simp only [cond_false]
   rw [uP (show (lS P.1 33554432 P.1.r.pc).over=true from rfl)]
   refine aX ?_
   refine dK [aI.mk M (fH (.slice wp P.1.ws.length wc) L2.sv L2.lv cpu two P.1) 92] (aI.mk I #[.int .i64 (bG.of V).op,.int .i64 (bG.of V).d,.int .i64 (bG.of V).n,.int .i64 (bG.of V).m,.int .i64 (bG.of V).aW] 41::(L2.hl++L2.hs++(L2.hw++L2.ht))) (fun wc' hG=>yu _ L2.sv L2.lv cpu two P.1 33554432 P.1.r.pc M hG.dG) (fun v hn hv=>?_) au
   obtain ⟨rfl,hle⟩:=hv
   refine run ?_
   exact fin0 ⟨rfl,L2,hL2.trap _ _,by unfold ML.pW;rw [ew];(exact cnt1 hle)⟩
  | true=>
   simp only [cond_true]
   rw [l7 hc']
   refine aX ?_
   have hi:=FC hk
   have hL3:lT wv ws L2 { P.1 with iZ:=bG.of V }:=⟨hL2.w,hL2.c,hL2.q,hL2.l,hL2.t,hL2.p⟩
   have hs3:fE { P.1 with iZ:=bG.of V } cpu two:=⟨h1.uZ,h1.mem,h1.cpu,h1.len,h1.es,h1.two,h1.r⟩
   have hq3:({ P.1 with iZ:=bG.of V }:PS).seen.length<90000:=by show P.1.seen.length<_;omega
   have ho3:({ P.1 with iZ:=bG.of V }:PS).over=false:=hc'
   refine gz (fH (.slice wp P.1.ws.length wc) L2.sv L2.lv cpu two { P.1 with iZ:=bG.of V }) ?_ (hperm:=p1)
   rw [← ew]
   refine aJ (aI.mk I #[.int .i64 (bG.of V).op,.int .i64 (bG.of V).d,.int .i64 (bG.of V).n,.int .i64 (bG.of V).m,.int .i64 (bG.of V).aW] 41::aI.mk M (fH L2.wv L2.sv L2.lv cpu two { P.1 with iZ:=bG.of V }) 92::(L2.hl++L2.hs++(L2.hw++L2.ht))) ak ?_
   generalize ({ P.1 with iZ:=bG.of V }:PS)=F at hL3 hs3 hq3 ho3 ⊢
   generalize bG.of V=x at hi ⊢
   obtain ⟨op,d,n,m,aW⟩:=x
   have hb:PtD.bY op 1 16=true∧PtD.bY d 0 7=true∧PtD.bY n 0 7=true∧PtD.bY m 0 7=true:=by
    simp only [bG.may,bG.base,Bool.and_eq_true] at hi
    exact ⟨hi.1.1,hi.1.2.1,hi.1.2.2.1,hi.1.2.2.2.1⟩
   simp only [PtD.bY,Bool.and_eq_true,decide_eq_true_eq] at hb
   obtain ⟨D,rfl⟩:∃ D:Nat,d=(D:Int):=⟨d.toNat,by omega⟩
   obtain ⟨N,rfl⟩:∃ N:Nat,n=(N:Int):=⟨n.toNat,by omega⟩
   obtain ⟨K,rfl⟩:∃ K:Nat,m=(K:Int):=⟨m.toNat,by omega⟩
   dsimp only
   have hcs:(op=7∨op=8)∨op=9∨op=10∨op=11∨op=12∨op=13∨op=14∨op=15∨op=16∨op≤6:=by omega
   have hxN:=LD L2.wv L2.sv L2.lv cpu two F (k:=N) au'
   have hxK:=LD L2.wv L2.sv L2.lv cpu two F (k:=K) au'
   rcases hcs with Ve | rfl | rfl | rfl | rfl | rfl | rfl | rfl | rfl | h6
   ·have hm2:=fun wc (hm:dP wc _ _ _ _) (hG:eP (L2.pW M cpu two F) wc)=>RH wv ws L2 M cpu two F hL3 hs3 hq3 ho3 op aW D N K hi Ve hm hG
    have hdo:sW F cpu two ⟨op,D,N,K,aW⟩=(sQ F cpu two ⟨op,D,N,K,aW⟩,some []):=by
     unfold sW
     rcases Ve with rfl | rfl<;>rfl
    rw [hdo]
    generalize sQ F cpu two ⟨op,D,N,K,aW⟩=Y at hm2
    rcases Ve with rfl | rfl
    ·refine aX ?_;refine dK (aI.mk M (fH L2.wv L2.sv L2.lv cpu two F) 92::(L2.hl++L2.hs++(L2.hw++L2.ht))) [aI.mk I #[.int .i64 7,.int .i64 (D:Nat),.int .i64 (N:Nat),.int .i64 (K:Nat),.int .i64 aW] 41] (fun wc hG=>hm2 wc (hm.into hG) hG.dG) (fun v hn hv=>?_) au;obtain ⟨rfl,L4,hL4,y5⟩:=hv;refine run ?_
     rw [show nG (Y,some [])=(bif Y.over then Y else { Y with r:=Y.r.next [] }) from rfl]
     unfold ML.pW at y5
     refine aj _ rfl (fun RI=>?_) (fun RI=>?_)
     ·rw [uP (show Y.over=true by simpa using RI)]
      refine run ?_
      exact fin0 ⟨rfl,L4,hL4,by unfold ML.pW;(exact cnt1 y5)⟩
     ·rw [l7 (show Y.over=false by simpa using RI)]
      refine OZ (aI.mk M (fH L4.wv L4.sv L4.lv cpu two Y) 92::(L4.hl++L4.hs++(L4.hw++L4.ht))) (cnt1 y5) ?_
      refine run ?_
      rw [show (List.take 15 (List.drop 1 (fH L4.wv L4.sv L4.lv cpu two Y).toList)).toArray=(dD Y.r).toArray from rfl];refine ax (fun wc hG=>je Y.r [] (iC wc 1)) ?_;refine run ?_;refine gz (fH L4.wv L4.sv L4.lv cpu two { Y with r:=Y.r.next [] }) ?_;refine run ?_;exact fin0 ⟨rfl,L4,⟨hL4.w,hL4.c,hL4.q,hL4.l,hL4.t,hL4.p⟩,by unfold ML.pW;(exact ak)⟩
    ·refine aX ?_;refine dK (aI.mk M (fH L2.wv L2.sv L2.lv cpu two F) 92::(L2.hl++L2.hs++(L2.hw++L2.ht))) [aI.mk I #[.int .i64 8,.int .i64 (D:Nat),.int .i64 (N:Nat),.int .i64 (K:Nat),.int .i64 aW] 41] (fun wc hG=>hm2 wc (hm.into hG) hG.dG) (fun v hn hv=>?_) au;obtain ⟨rfl,L4,hL4,y5⟩:=hv;refine run ?_
     rw [show nG (Y,some [])=(bif Y.over then Y else { Y with r:=Y.r.next [] }) from rfl]
     unfold ML.pW at y5
     refine aj _ rfl (fun RI=>?_) (fun RI=>?_)
     ·rw [uP (show Y.over=true by simpa using RI)]
      refine run ?_
      exact fin0 ⟨rfl,L4,hL4,by unfold ML.pW;(exact cnt1 y5)⟩
     ·rw [l7 (show Y.over=false by simpa using RI)]
      refine OZ (aI.mk M (fH L4.wv L4.sv L4.lv cpu two Y) 92::(L4.hl++L4.hs++(L4.hw++L4.ht))) (cnt1 y5) ?_
      refine run ?_
      rw [show (List.take 15 (List.drop 1 (fH L4.wv L4.sv L4.lv cpu two Y).toList)).toArray=(dD Y.r).toArray from rfl];refine ax (fun wc hG=>je Y.r [] (iC wc 1)) ?_;refine run ?_;refine gz (fH L4.wv L4.sv L4.lv cpu two { Y with r:=Y.r.next [] }) ?_;refine run ?_;exact fin0 ⟨rfl,L4,⟨hL4.w,hL4.c,hL4.q,hL4.l,hL4.t,hL4.p⟩,by unfold ML.pW;(exact ak)⟩
   ·rw [show nG (sW F cpu two ⟨9,D,N,K,aW⟩)=(bif F.over then F else { F with r:=F.r.next [aW] }) from rfl,l7 ho3]
    refine aX ?_
    refine dN 12 11 [0,1,2,3,4,5,6,9,10] [7,8,11] [] ?_;refine dh ?_;rw [show (List.take 15 (List.drop 1 (fH L2.wv L2.sv L2.lv cpu two F).toList)).toArray=(dD F.r).toArray from rfl];refine wC [.int .i64 aW] (fun B=>?_);refine uy (fun wc hG=>je F.r [aW] (LG B aW wc (fun e he=>hG.here e (by simp at he;subst he;simp)))) ?_;rintro _ hn rfl;refine iO (b:=M) (tb:=92) (cs:=fH L2.wv L2.sv L2.lv cpu two F) (fH L2.wv L2.sv L2.lv cpu two { F with r:=F.r.next [aW] }) (hp':=hn++(⟨B,#[.int .i64 aW],3⟩::aI.mk I #[.int .i64 9,.int .i64 (D:Nat),.int .i64 (N:Nat),.int .i64 (K:Nat),.int .i64 aW] 41::(L2.hl++L2.hs++(L2.hw++L2.ht)))) ?_ (hperm:=by (exact au));refine aH ?_;refine di ?_;refine run ?_;exact fin0 ⟨rfl,L2,⟨hL3.w,hL3.c,hL3.q,hL3.l,hL3.t,hL3.p⟩,by unfold ML.pW;(exact ak)⟩
   ·rw [show nG (sW F cpu two ⟨10,D,N,K,aW⟩)=(bif F.over then F else { F with r:=F.r.next (bif decide (F.r.x N=0) then [aW] else []) }) from rfl,l7 ho3]
    refine aX ?_
    refine eU ?_
    refine cu ?_
    refine run ?_
    refine aj _ rfl (fun hc=>?_) (fun hc=>?_)
    ·rw [show decide (F.r.x N=0)=true by simpa using hc]
     rw [cond_true]
     refine run ?_
     refine dN 12 11 [0,1,2,3,4,5,6,9,10] [7,8,11] [] ?_;refine dh ?_;rw [show (List.take 15 (List.drop 1 (fH L2.wv L2.sv L2.lv cpu two F).toList)).toArray=(dD F.r).toArray from rfl];refine wC [.int .i64 aW] (fun B=>?_);refine uy (fun wc hG=>je F.r [aW] (LG B aW wc (fun e he=>hG.here e (by simp at he;subst he;simp)))) ?_;rintro _ hn rfl;refine iO (b:=M) (tb:=92) (cs:=fH L2.wv L2.sv L2.lv cpu two F) (fH L2.wv L2.sv L2.lv cpu two { F with r:=F.r.next [aW] }) (hp':=hn++(⟨B,#[.int .i64 aW],3⟩::aI.mk I #[.int .i64 10,.int .i64 (D:Nat),.int .i64 (N:Nat),.int .i64 (K:Nat),.int .i64 aW] 41::(L2.hl++L2.hs++(L2.hw++L2.ht)))) ?_ (hperm:=by (exact au));refine aH ?_;refine di ?_;refine run ?_;exact fin0 ⟨rfl,L2,⟨hL3.w,hL3.c,hL3.q,hL3.l,hL3.t,hL3.p⟩,by unfold ML.pW;(exact ak)⟩
    ·rw [show decide (F.r.x N=0)=false by simpa using hc,cond_false]
     refine run ?_
     refine aJ (aI.mk M (fH L2.wv L2.sv L2.lv cpu two F) 92::(L2.hl++L2.hs++(L2.hw++L2.ht))) ak ?_
     rw [show (List.take 15 (List.drop 1 (fH L2.wv L2.sv L2.lv cpu two F).toList)).toArray=(dD F.r).toArray from rfl];refine ax (fun wc hG=>je F.r [] (iC wc 1)) ?_;refine run ?_;refine gz (fH L2.wv L2.sv L2.lv cpu two { F with r:=F.r.next [] }) ?_;refine run ?_;exact fin0 ⟨rfl,L2,⟨hL3.w,hL3.c,hL3.q,hL3.l,hL3.t,hL3.p⟩,by unfold ML.pW;(exact ak)⟩
   ·have hk2:nV aW=true:=by
     have:=hi
     simp only [bG.may,Bool.and_eq_true] at this
     exact this.2
    rw [show nG (sW F cpu two ⟨11,D,N,K,aW⟩)=(bif F.over then { F with r:=F.r.kE D (F.r.get aW) } else { F with r:=(F.r.kE D (F.r.get aW)).next [] }) from rfl,l7 ho3]
    refine aX ?_
    refine dN 13 12 [0,1,2,3,4,5,6,7,8,9,10,11] [12] [] ?_
    refine dh ?_
    rw [show (List.take 15 (List.drop 1 (fH L2.wv L2.sv L2.lv cpu two F).toList)).toArray=(dD F.r).toArray from rfl]
    refine kU (fun wc hx hG=>Qr F.r aW hk2 wc) ?_
    refine dh ?_
    refine iO (b:=M) (tb:=92) (cs:=fH L2.wv L2.sv L2.lv cpu two F) (fH L2.wv L2.sv L2.lv cpu two { F with r:=F.r.kE D (F.r.get aW) }) (hp':=aI.mk I #[.int .i64 11,.int .i64 (D:Nat),.int .i64 (N:Nat),.int .i64 (K:Nat),.int .i64 aW] 41::(L2.hl++L2.hs++(L2.hw++L2.ht))) ?_ (hperm:=by (exact au)) (hput:=BJ _ _ _ _ _ _ au' _) (hlt:=Nat.ble_eq_true_of_le (show 1 + D + 1≤56 by omega))
    refine aH ?_
    refine di ?_
    refine aJ (aI.mk M (fH L2.wv L2.sv L2.lv cpu two { F with r:=F.r.kE D (F.r.get aW) }) 92::(L2.hl++L2.hs++(L2.hw++L2.ht))) ak ?_
    refine run ?_
    rw [show (List.take 15 (List.drop 1 (fH L2.wv L2.sv L2.lv cpu two ({ F with r:=F.r.kE D (F.r.get aW) }:PS)).toList)).toArray=(dD ({ F with r:=F.r.kE D (F.r.get aW) }:PS).r).toArray from rfl];refine ax (fun wc hG=>je ({ F with r:=F.r.kE D (F.r.get aW) }:PS).r [] (iC wc 1)) ?_;refine run ?_;refine gz (fH L2.wv L2.sv L2.lv cpu two { ({ F with r:=F.r.kE D (F.r.get aW) }:PS) with r:=({ F with r:=F.r.kE D (F.r.get aW) }:PS).r.next [] }) ?_;refine run ?_;exact fin0 ⟨rfl,L2,⟨hL3.w,hL3.c,hL3.q,hL3.l,hL3.t,hL3.p⟩,by unfold ML.pW;(exact ak)⟩
   ·have hk2:nV aW=true:=by
     have:=hi
     simp only [bG.may,Bool.and_eq_true] at this
     exact this.2
    rw [show nG (sW F cpu two ⟨12,D,N,K,aW⟩)=(bif F.over then { F with r:=F.r.set aW (F.r.x N) } else { F with r:=(F.r.set aW (F.r.x N)).next [] }) from rfl,l7 ho3]
    refine aX ?_
    refine dN 17 16 [0,1,2,3,4,5,6,7,8,9,10,11,12,13,14,15] [16] [] ?_
    refine dh ?_
    rw [show (List.take 15 (List.drop 1 (fH L2.wv L2.sv L2.lv cpu two F).toList)).toArray=(dD F.r).toArray from rfl]
    refine kU (fun wc hx hG=>Qs F.r aW (F.r.x N) wc) ?_
    refine dh ?_
    refine iO (b:=M) (tb:=92) (cs:=fH L2.wv L2.sv L2.lv cpu two F) (fH L2.wv L2.sv L2.lv cpu two { F with r:=F.r.set aW (F.r.x N) }) (hp':=aI.mk I #[.int .i64 12,.int .i64 (D:Nat),.int .i64 (N:Nat),.int .i64 (K:Nat),.int .i64 aW] 41::(L2.hl++L2.hs++(L2.hw++L2.ht))) ?_ (hperm:=by (exact au))
    refine aH ?_
    refine di ?_
    refine aJ (aI.mk M (fH L2.wv L2.sv L2.lv cpu two { F with r:=F.r.set aW (F.r.x N) }) 92::(L2.hl++L2.hs++(L2.hw++L2.ht))) ak ?_
    refine run ?_
    rw [show (List.take 15 (List.drop 1 (fH L2.wv L2.sv L2.lv cpu two ({ F with r:=F.r.set aW (F.r.x N) }:PS)).toList)).toArray=(dD ({ F with r:=F.r.set aW (F.r.x N) }:PS).r).toArray from rfl];refine ax (fun wc hG=>je ({ F with r:=F.r.set aW (F.r.x N) }:PS).r [] (iC wc 1)) ?_;refine run ?_;refine gz (fH L2.wv L2.sv L2.lv cpu two { ({ F with r:=F.r.set aW (F.r.x N) }:PS) with r:=({ F with r:=F.r.set aW (F.r.x N) }:PS).r.next [] }) ?_;refine run ?_;exact fin0 ⟨rfl,L2,⟨hL3.w,hL3.c,hL3.q,hL3.l,hL3.t,hL3.p⟩,by unfold ML.pW;(exact ak)⟩
   ·rw [show nG (sW F cpu two ⟨13,D,N,K,aW⟩)=(bif F.over then ja F cpu two ⟨13,D,N,K,aW⟩ else { ja F cpu two ⟨13,D,N,K,aW⟩ with r:=(ja F cpu two ⟨13,D,N,K,aW⟩).r.next [] }) by
     unfold nG
     rw [show (sW F cpu two ⟨13,D,N,K,aW⟩)=(ja F cpu two ⟨13,D,N,K,aW⟩,some []) from rfl,show (ja F cpu two ⟨13,D,N,K,aW⟩).over=F.over by unfold ja;cases decide ((F.tl cpu).2.length<8)<;>rfl],l7 ho3]
    refine aX ?_
    refine eU ?_
    refine cu ?_
    obtain ⟨g,lc,fU,tc,e3,e4,hld,NZ,hti,hcl,hsz,qM,hput,V7⟩:=hL3.row hs3
    have h8:=dO hs3.te.vI
    rw [← NZ] at h8
    have hn1:=qM 1 _ rfl
    rw [e3,e4]
    simp only [List.cons_append,List.nil_append]
    refine run ?_
    refine eU ?_
    refine cu ?_
    refine run ?_
    obtain ⟨htc,hto⟩:=hL3.Vh hs3
    have hlen:L2.ts.length=F.ls.length:=by rw [← hL3.p,List.length_map]
    refine dX (σ:=ML × PS) (fun _=>[]) (fun z=>aI.mk I #[.int .i64 13,.int .i64 (D:Nat),.int .i64 (N:Nat),.int .i64 (K:Nat),.int .i64 aW] 41::aI.mk M (fH z.1.wv z.1.sv z.1.lv cpu two z.2) 92::(z.1.hl++z.1.hs++(z.1.hw++z.1.ht))) (fun z=>lT wv ws z.1 z.2∧fE z.2 cpu two∧(z.2.tl cpu).2.length<8∧z.2.r=F.r∧ja F cpu two ⟨13,D,N,K,aW⟩=z.2.more cpu (F.due two ⟨13,D,N,K,aW⟩)) ?_ ?_
    ·refine aj _ rfl (fun RI=>?_) (fun RI=>?_)
     ·have h9:decide ((F.tl cpu).2.length<8)=false:=by rw [← NZ];simp at RI;exact decide_eq_false (by show ¬ tc.ds.length<8;omega)
      refine run ?_
      refine iR 10 [0,1,2,3,4,5,6,7,8] [9] [] [10,11] [12] ?_
      refine fB ?_
      rw [← e3]
      refine iW (fun wc hG=>Le L2.ts cpu hcl (by rw [hlen];exact hs3.len) (hL3.tls hs3 (fun e he=>hG.here e (by rw [e4] at he;simp at he;subst he;simp)) (fun e he=>hG.here e aw1)) htc hto) ?_ ?_
      ·rw [hL3.p]
       obtain ⟨v,ha,h',ts',h1,h2,h3⟩:=vw (pV hs3).len
       exact ⟨_,_,v,ha,h',ts',rfl,h1,h2,h3,aF.refl _⟩
      refine gZ ?_
      rintro u hn ⟨v,ha,h',ts',rfl,g1,g2,g3,hle⟩
      refine fC ?_
      refine jU ?_
      refine rP ?_
      refine fC ?_
      simp only [DN,List.cons_append,List.nil_append,List.append_nil]
      have hv:=g1.opened
      obtain ⟨q1,c1,e1⟩:=hv
      subst e1
      refine iO (b:=M) (tb:=92) (cs:=fH L2.wv L2.sv L2.lv cpu two F) (fH L2.wv L2.sv (.slice q1 (ts'.map lC).length c1) cpu two (jE F cpu)) (hp':=hn++(aI.mk I #[.int .i64 13,.int .i64 (D:Nat),.int .i64 (N:Nat),.int .i64 (K:Nat),.int .i64 aW] 41::aI.mk g fU 77::(L2.hs++(L2.hw++L2.ht)))) ?_ (hperm:=by (exact au))
      refine aH ?_
      refine di ?_
      refine run ?_
      refine dA (⟨L2.wv,L2.sv,.slice q1 (ts'.map lC).length c1,ts',L2.hw,L2.hs,ha,h'⟩,jE F cpu) ⟨⟨hL3.w,hL3.c,hL3.q,g1,g2,by dsimp only;rw [g3,hL3.p];rfl⟩,pV hs3,by rw [FH hs3.cpu];exact Nat.zero_lt_succ 7,rfl,by unfold ja;rw [h9];rfl⟩ (h2:=by (exact cnt1 hle))
     ·have h9:decide ((F.tl cpu).2.length<8)=true:=by rw [← NZ];simp at RI;exact decide_eq_true (by show tc.ds.length<8;omega)
      refine run ?_
      exact dA (L2,F) ⟨hL3,hs3,of_decide_eq_true h9,rfl,by unfold ja;rw [h9];rfl⟩ (h2:=by rw [e3,e4];(exact ak))
    rintro ⟨L5,F5⟩ ⟨hL5,hs5,h85,hr5,hfg⟩
    dsimp only at hL5 hs5 h85 hr5 hfg ⊢
    rw [hfg]
    obtain ⟨g5,Yr,BK,FX,e35,e45,aq0,ZY,Vp,aq1,hsz5,ZZ,am0,Yc⟩:=hL5.row hs5
    have Vq:=dO hs5.te.vI
    rw [← ZY] at Vq h85
    have aq2:=ZZ 1 _ rfl
    rw [e35,e45]
    simp only [List.cons_append,List.nil_append]
    refine run ?_
    have hxl:F.r.x N<18446744073709551616:=aC.x_lt hs3.r N
    have b1:=oG (F.r.x N) 48 (n:=4) av1
    have b2:=oG (F.r.x N) 0 (n:=12) av1
    refine EK 39 38 [0,1,2,3,4,5,6,7,8,9,10,11,12,13,14,15,16,17,18,20,21,22,23,24,25,26,27,30,36,37] [(19,false),(28,false),(29,true),(31,false),(32,false),(33,false),(34,false),(35,false),(38,false)] [] ?_
    refine dh ?_
    refine xC ?_
    refine uy (fun wc hG=>rW FX.ds _ (Vp.1 wc (fun e he=>hG.here e aw1)).2 (Nat.lt_of_le_of_lt Vq.2.2 av1)) ?_
    intro v hn1 hA1
    refine aH ?_
    obtain ⟨q1,c1,x1⟩:=hA1.own.opened
    rw [List.length_map] at x1
    subst x1
    refine xC ?_
    refine uy (fun wc hG=>oW (F.r.x N) 48 4 av1 av1 hxl wc) ?_
    rintro _ hn2 rfl
    refine aH ?_
    generalize hg1:aT (F.r.x N) 48 4=z1 at b1 ⊢
    refine Ya (p:=((z1:Nat):Int)) ?_ au' au'
    refine xC ?_
    refine uy (fun wc hG=>oW (F.r.x N) 0 12 av1 av1 hxl wc) ?_
    rintro _ hn3 rfl
    refine aH ?_
    generalize hg2:aT (F.r.x N) 0 12=z2 at b2 ⊢
    refine xC ?_
    refine sV (fun hx=>og (p:=((z2:Nat):Int)) ay rfl rfl rfl au' au') ?_
    refine aH ?_
    refine xC ?_
    refine Ew (out':=#[.int .i64 aW,.int .i64 two.tag,.int .i64 (z1:Nat),.int .i64 (z2:Nat)]) ?_
    refine aH ?_
    refine xC ?_
    refine wC [.int .i64 aW,.int .i64 two.tag,.int .i64 (z1:Nat),.int .i64 (z2:Nat)] (fun Z=>?_)
    refine aH ?_
    refine Zj (c:=[.int .i64 aW,.int .i64 two.tag,.int .i64 (z1:Nat),.int .i64 (z2:Nat)]) (hp':=⟨Z,#[.int .i64 aW,.int .i64 two.tag,.int .i64 (z1:Nat),.int .i64 (z2:Nat)],121⟩::(hn3++hn2++(aI.mk I #[.int .i64 13,.int .i64 (D:Nat),.int .i64 (N:Nat),.int .i64 (K:Nat),.int .i64 aW] 41::aI.mk M (fH L5.wv L5.sv (.slice (some ⟨g5,0,none⟩) L5.ts.length Yr) cpu two F5) 92::aI.mk g5 BK 77::(L5.hs++(L5.hw++L5.ht))))) hA1 (bT (m:=4) mh rfl) (by rw [List.length_map];exact Nat.lt_of_le_of_lt Vq.2.2 av1) au ak (fun v' ha' hA2=>?_) (hit:=.inr ak)
    obtain ⟨dd,hdd⟩:∃ dd,dd=F.due two ⟨13,D,N,K,aW⟩:=⟨_,rfl⟩
    have hdv:dJ dd=[.int .i64 aW,.int .i64 two.tag,.int .i64 (z1:Nat),.int .i64 (z2:Nat)]:=by rw [hdd,← hg1,← hg2];rfl
    rw [← hdv,← List.map_singleton,← List.map_append] at hA2
    obtain ⟨q9,c9,e9⟩:=hA2.own.opened
    rw [List.length_map] at e9
    subst e9
    refine xC ?_
    refine qg (b:=g5) (tb:=77) (cs:=BK) (cs':=putAt BK (cpu * 2 + 1) [.slice q9 (FX.ds++[dd]).length c9]) (hp':=ha'++(⟨Z,#[.int .i64 aW,.int .i64 two.tag,.int .i64 (z1:Nat),.int .i64 (z2:Nat)],121⟩::(hn3++hn2++(aI.mk I #[.int .i64 13,.int .i64 (D:Nat),.int .i64 (N:Nat),.int .i64 (K:Nat),.int .i64 aW] 41::aI.mk M (fH L5.wv L5.sv (.slice (some ⟨g5,0,none⟩) L5.ts.length Yr) cpu two F5) 92::(L5.hs++(L5.hw++L5.ht)))))) ?_ (hput:=rfl) (hperm:=by (exact au))
    refine aH ?_
    refine Um ?_
    refine di ?_
    obtain ⟨o1,_,o3⟩:=Yc ⟨FX.es,FX.ds++[dd],FX.ep,FX.ec,q9,c9⟩ X0 rfl ⟨fun wc hw=>(Ib hw).elim,Vp.2⟩
    have hL6:lT wv ws ⟨L5.wv,L5.sv,.slice (some ⟨g5,0,none⟩) L5.ts.length Yr,L5.ts.set cpu ⟨FX.es,FX.ds++[dd],FX.ep,FX.ec,q9,c9⟩,L5.hw,L5.hs,[⟨g5,putAt BK (cpu * 2 + 1) [.slice q9 (FX.ds++[dd]).length c9],77⟩],ha'++L5.ht⟩ (F5.more cpu dd):=by
     refine ⟨hL5.w,hL5.c,hL5.q,o1,fun t ht=>?_,by dsimp only;rw [o3,PS.more,← ZY]⟩
     rcases List.mem_or_eq_of_mem_set ht with h2 | rfl
     ·exact (hL5.t t h2).more fun wc hw=>yZ hw
     ·exact ⟨fun wc hw=>⟨(Vp.1 wc (yZ hw)).1,hA2.own.lie (BC hw) (by rw [List.length_map,List.length_append,List.length_singleton];exact Nat.le_trans (Nat.succ_le_succ Vq.2.2) av1)⟩,Vp.2⟩
    obtain ⟨L6,Z4⟩:∃ L6,L6=(⟨L5.wv,L5.sv,.slice (some ⟨g5,0,none⟩) L5.ts.length Yr,L5.ts.set cpu ⟨FX.es,FX.ds++[dd],FX.ep,FX.ec,q9,c9⟩,L5.hw,L5.hs,[⟨g5,putAt BK (cpu * 2 + 1) [.slice q9 (FX.ds++[dd]).length c9],77⟩],ha'++L5.ht⟩:ML):=⟨_,rfl⟩
    refine aJ (aI.mk M (fH L5.wv L5.sv (.slice (some ⟨g5,0,none⟩) L5.ts.length Yr) cpu two F5) 92::([⟨g5,putAt BK (cpu * 2 + 1) [.slice q9 (FX.ds++[dd]).length c9],77⟩]++L5.hs++(L5.hw++(ha'++L5.ht)))) ak ?_
    rw [show (aI.mk M (fH L5.wv L5.sv (.slice (some ⟨g5,0,none⟩) L5.ts.length Yr) cpu two F5) 92::([⟨g5,putAt BK (cpu * 2 + 1) [.slice q9 (FX.ds++[dd]).length c9],77⟩]++L5.hs++(L5.hw++(ha'++L5.ht))))=aI.mk M (fH L6.wv L6.sv L6.lv cpu two (F5.more cpu dd)) 92::(L6.hl++L6.hs++(L6.hw++L6.ht)) by rw [Z4];rfl]
    rw [← Z4] at hL6
    rw [← hdd]
    refine run ?_
    rw [show (List.take 15 (List.drop 1 (fH L6.wv L6.sv L6.lv cpu two (F5.more cpu dd)).toList)).toArray=(dD (F5.more cpu dd).r).toArray from rfl];refine ax (fun wc hG=>je (F5.more cpu dd).r [] (iC wc 1)) ?_;refine run ?_;refine gz (fH L6.wv L6.sv L6.lv cpu two { (F5.more cpu dd) with r:=(F5.more cpu dd).r.next [] }) ?_;refine run ?_;exact fin0 ⟨rfl,L6,⟨hL6.w,hL6.c,hL6.q,hL6.l,hL6.t,hL6.p⟩,by unfold ML.pW;(exact ak)⟩
   ·rw [show nG (sW F cpu two ⟨14,D,N,K,aW⟩)=(bif F.over then jE F cpu else { jE F cpu with r:=(jE F cpu).r.next [] }) from rfl,l7 ho3]
    refine aX ?_
    obtain ⟨htc,hto⟩:=hL3.Vh hs3
    have hlen:L2.ts.length=F.ls.length:=by rw [← hL3.p,List.length_map]
    refine iR 10 [0,1,2,3,4,5,6,7,8] [9] [] [10,11] [12] ?_
    refine fB ?_
    refine iW (fun wc hG=>Le L2.ts cpu (by rw [hlen];exact hs3.cpu) (by rw [hlen];exact hs3.len) (hL3.tls hs3 (fun e he=>hG.here e aw1) (fun e he=>hG.here e aw1)) htc hto) ?_ ?_
    ·rw [hL3.p]
     obtain ⟨v,ha,h',ts',h1,h2,h3⟩:=vw (pV hs3).len
     exact ⟨_,_,v,ha,h',ts',rfl,h1,h2,h3,aF.refl _⟩
    refine gZ ?_
    rintro u hn ⟨v,ha,h',ts',rfl,g1,g2,g3,hle⟩
    refine fC ?_
    refine jU ?_
    refine rP ?_
    refine fC ?_
    simp only [DN,List.cons_append,List.nil_append,List.append_nil]
    have hv:=g1.opened
    obtain ⟨q1,c1,e1⟩:=hv
    subst e1
    refine iO (b:=M) (tb:=92) (cs:=fH L2.wv L2.sv L2.lv cpu two F) (fH L2.wv L2.sv (.slice q1 (ts'.map lC).length c1) cpu two (jE F cpu)) (hp':=hn++(aI.mk I #[.int .i64 14,.int .i64 (D:Nat),.int .i64 (N:Nat),.int .i64 (K:Nat),.int .i64 aW] 41::(L2.hl++L2.hs++(L2.hw++L2.ht)))) ?_ (hperm:=by (exact au))
    refine aH ?_
    refine di ?_
    have hL5:lT wv ws ⟨L2.wv,L2.sv,.slice q1 (ts'.map lC).length c1,ts',L2.hw,L2.hs,ha,h'⟩ (jE F cpu):=⟨hL3.w,hL3.c,hL3.q,g1,g2,by dsimp only;rw [g3,hL3.p];rfl⟩
    obtain ⟨L5,Z5⟩:∃ L5,L5=(⟨L2.wv,L2.sv,.slice q1 (ts'.map lC).length c1,ts',L2.hw,L2.hs,ha,h'⟩:ML):=⟨_,rfl⟩
    refine aJ (aI.mk M (fH L2.wv L2.sv (.slice q1 (ts'.map lC).length c1) cpu two (jE F cpu)) 92::(ha++L2.hs++(L2.hw++h'))) (cnt1 hle) ?_
    rw [show (aI.mk M (fH L2.wv L2.sv (.slice q1 (ts'.map lC).length c1) cpu two (jE F cpu)) 92::(ha++L2.hs++(L2.hw++h')))=aI.mk M (fH L5.wv L5.sv L5.lv cpu two (jE F cpu)) 92::(L5.hl++L5.hs++(L5.hw++L5.ht)) by rw [Z5]]
    rw [← Z5] at hL5
    refine run ?_
    rw [show (List.take 15 (List.drop 1 (fH L5.wv L5.sv L5.lv cpu two (jE F cpu)).toList)).toArray=(dD (jE F cpu).r).toArray from rfl];refine ax (fun wc hG=>je (jE F cpu).r [] (iC wc 1)) ?_;refine run ?_;refine gz (fH L5.wv L5.sv L5.lv cpu two { (jE F cpu) with r:=(jE F cpu).r.next [] }) ?_;refine run ?_;exact fin0 ⟨rfl,L5,⟨hL5.w,hL5.c,hL5.q,hL5.l,hL5.t,hL5.p⟩,by unfold ML.pW;(exact ak)⟩
   ·rw [show nG (sW F cpu two ⟨15,D,N,K,aW⟩)=(bif F.over then { F with kind:=3 } else { F with kind:=3,r:=F.r.next [] }) from rfl,l7 ho3]
    refine aX ?_
    refine gz (fH L2.wv L2.sv L2.lv cpu two { F with kind:=3 }) ?_ (hperm:=p1)
    refine aJ (aI.mk M (fH L2.wv L2.sv L2.lv cpu two { F with kind:=3 }) 92::(L2.hl++L2.hs++(L2.hw++L2.ht))) ak ?_
    refine run ?_
    rw [show (List.take 15 (List.drop 1 (fH L2.wv L2.sv L2.lv cpu two ({ F with kind:=3 }:PS)).toList)).toArray=(dD ({ F with kind:=3 }:PS).r).toArray from rfl];refine ax (fun wc hG=>je ({ F with kind:=3 }:PS).r [] (iC wc 1)) ?_;refine run ?_;refine gz (fH L2.wv L2.sv L2.lv cpu two { ({ F with kind:=3 }:PS) with r:=({ F with kind:=3 }:PS).r.next [] }) ?_;refine run ?_;exact fin0 ⟨rfl,L2,⟨hL3.w,hL3.c,hL3.q,hL3.l,hL3.t,hL3.p⟩,by unfold ML.pW;(exact ak)⟩
   ·rw [show nG (sW F cpu two ⟨16,D,N,K,aW⟩)=(bif F.over then { F with r:=F.r.back } else { F with r:=F.r.back }) from rfl,l7 ho3]
    refine aX ?_
    rw [show (List.take 15 (List.drop 1 (fH L2.wv L2.sv L2.lv cpu two F).toList)).toArray=(dD F.r).toArray from rfl]
    refine ax (fun wc hG=>MX F.r wc) ?_
    refine run ?_
    refine gz (fH L2.wv L2.sv L2.lv cpu two { F with r:=F.r.back }) ?_ (hperm:=p1)
    refine run ?_
    exact fin0 ⟨rfl,L2,⟨hL3.w,hL3.c,hL3.q,hL3.l,hL3.t,hL3.p⟩,by unfold ML.pW;(exact ak)⟩
   ·have hdo:sW F cpu two ⟨op,D,N,K,aW⟩=({ F with r:=F.r.kE D (Bf ⟨op,D,N,K,aW⟩ (F.r.x N) (F.r.x K)).toNat },some []):=by
     unfold sW
     rw [decide_eq_false (show ¬ op=7 by omega),decide_eq_false (show ¬ op=8 by omega),decide_eq_false (show ¬ op=9 by omega),decide_eq_false (show ¬ op=10 by omega),decide_eq_false (show ¬ op=11 by omega),decide_eq_false (show ¬ op=12 by omega),decide_eq_false (show ¬ op=13 by omega),decide_eq_false (show ¬ op=14 by omega),decide_eq_false (show ¬ op=15 by omega),decide_eq_false (show ¬ op=16 by omega)]
     rfl
    obtain ⟨A,hA⟩:=Ls (i:=⟨op,D,N,K,aW⟩) (n:=F.r.x N) (m:=F.r.x K)
    rw [hdo,hA,Int.toNat_natCast,show nG ({ F with r:=F.r.kE D A },some [])=(bif F.over then { F with r:=F.r.kE D A } else { F with r:=(F.r.kE D A).next [] }) from rfl,l7 ho3]
    refine aX ?_
    rw [decide_eq_false (show ¬ op=7 by omega)];refine aX ?_
    rw [decide_eq_false (show ¬ op=8 by omega)];refine aX ?_
    rw [decide_eq_false (show ¬ op=9 by omega)];refine aX ?_
    rw [decide_eq_false (show ¬ op=10 by omega)];refine aX ?_
    rw [decide_eq_false (show ¬ op=11 by omega)];refine aX ?_
    rw [decide_eq_false (show ¬ op=12 by omega)];refine aX ?_
    rw [decide_eq_false (show ¬ op=13 by omega)];refine aX ?_
    rw [decide_eq_false (show ¬ op=14 by omega)];refine aX ?_
    rw [decide_eq_false (show ¬ op=15 by omega)];refine aX ?_
    rw [decide_eq_false (show ¬ op=16 by omega)];refine aX ?_
    refine dN 23 22 [0,1,2,3,4,5,6,7,8,9,10,11,12,13,14,15,16,17,18,19,20,21] [22] [] ?_
    refine dh ?_
    refine kU (fun wc hx hG=>Zo ⟨op,D,N,K,aW⟩ hb.1.1 h6 (F.r.x N) (F.r.x K) (aC.x_lt hs3.r N) (aC.x_lt hs3.r K) wc) ?_
    rw [hA]
    refine dh ?_
    refine iO (b:=M) (tb:=92) (cs:=fH L2.wv L2.sv L2.lv cpu two F) (fH L2.wv L2.sv L2.lv cpu two { F with r:=F.r.kE D A }) (hp':=aI.mk I #[.int .i64 op,.int .i64 (D:Nat),.int .i64 (N:Nat),.int .i64 (K:Nat),.int .i64 aW] 41::(L2.hl++L2.hs++(L2.hw++L2.ht))) ?_ (hperm:=by (exact au)) (hput:=BJ _ _ _ _ _ _ au' _) (hlt:=Nat.ble_eq_true_of_le (show 1 + D + 1≤56 by omega))
    refine aH ?_
    refine di ?_
    refine aJ (aI.mk M (fH L2.wv L2.sv L2.lv cpu two { F with r:=F.r.kE D A }) 92::(L2.hl++L2.hs++(L2.hw++L2.ht))) ak ?_
    refine run ?_
    rw [show (List.take 15 (List.drop 1 (fH L2.wv L2.sv L2.lv cpu two ({ F with r:=F.r.kE D A }:PS)).toList)).toArray=(dD ({ F with r:=F.r.kE D A }:PS).r).toArray from rfl];refine ax (fun wc hG=>je ({ F with r:=F.r.kE D A }:PS).r [] (iC wc 1)) ?_;refine run ?_;refine gz (fH L2.wv L2.sv L2.lv cpu two { ({ F with r:=F.r.kE D A }:PS) with r:=({ F with r:=F.r.kE D A }:PS).r.next [] }) ?_;refine run ?_;exact fin0 ⟨rfl,L2,⟨hL3.w,hL3.c,hL3.q,hL3.l,hL3.t,hL3.p⟩,by unfold ML.pW;(exact ak)⟩
end
section
attribute [local irreducible] Hy St Ops DH gB iH iq fK DS fA jX
theorem RJ {h1 h2:Hp} {es:List bg} {ds:List dB} {q1 q2:Option Addr} {c1 c2:Nat} (g1:Own 114 14 (.slice q1 es.length c1) h1 (es.map bI)) (g2:Own 121 4 (.slice q2 ds.length c2) h2 (ds.map dJ)) (h8:es.length≤281474976710656) (h9:ds.length≤281474976710656):NS (h1++h2) ⟨es,ds,q1,c1,q2,c2⟩:=by
 refine ⟨fun wc hw=>⟨g1.lie (BC hw) av3,g2.lie (yZ hw) av3⟩,?_⟩
 obtain ⟨p,c,e,hle⟩:=g1.jS
 rw [List.length_map] at e hle
 cases e
 exact hle
def ai2 (ls:List (List bg × List dB)) (u:Value) (hn:Hp):Prop:=∃ ha hs,∃ ts:List dM,Own 77 2 u ha (ts.map lC)∧wJ hs ts∧ts.map dM.p=ls∧aF (ha++hs) hn
theorem sG {w:World} (ts:List dM) {lv:Value} (h:qI w lv ts) (hl:ts.length<100000) (hen:∀ t∈ts,t.es.length<100000∧t.ds.length<100000):Fn Tryz.prog 15 [lv].toArray w [] (ai2 (ts.map dM.p)):=by
 obtain ⟨q,cap,rfl,hne,_⟩:=id h.rows.opened
 refine enter Tryz.func15 ?_
 refine run ?_
 refine cO (σ:=FgS) (fun z=>[(4,.int .i64 (z.k:Int)),(3,z.v)]) (fun z=>z.ha++z.hs) (fun z=>z.k≤ts.length∧Acc 77 2 z.v z.ha (z.ts.map lC)∧wJ z.hs z.ts∧z.ts.map dM.p=(ts.take z.k).map dM.p) (fun z=>ts.length - z.k) ⟨0,_,[],[],[]⟩ ⟨Nat.zero_le _,Acc.nil _ _,(fun t ht=>absurd ht av4:wJ [] []),rfl⟩ ?_
 rintro ⟨k,ov,ha,hs,ts'⟩ m hm2 ⟨hk,hA,hO,hE⟩
 dsimp only at hm2 hk hA hO hE ⊢
 have hl':ts'.length=k:=by have:=congrArg List.length hE;simpa [Nat.min_eq_left hk] using this
 refine run ?_
 refine aj _ rfl (fun hc2=>?_) (fun hc2=>?_)
 ·have hlt:k<ts.length:=by simpa using hc2
  obtain ⟨b,o,rfl⟩:=hne aw7
  have hr2:=h.rows.row hlt
  have h1:=h.en _ (getD_mem hlt)
  have h2:=h.iv _ (getD_mem hlt)
  have h3:=hen _ (getD_mem hlt)
  have htn:=gI hlt
  generalize ts.getD k default=t at hr2 h1 h2 h3 htn
  refine run ?_
  refine gX (fun wc hG=>ve t.es t.ds _ _ (h1.good hG) (h2.good hG) au' au') ?_
  rintro _ hn ⟨v1,g1,v2,g2,rfl,hA1,hA2,hle⟩
  obtain ⟨q1,c1,x1⟩:=hA1.own.opened
  obtain ⟨q2,c2,x2⟩:=hA2.own.opened
  rw [List.length_map] at x1 x2
  subst x1 x2
  refine run ?_
  intro Z
  refine jD (c:=[.slice q1 t.es.length c1,.slice q2 t.ds.length c2]) hA (fun v' ha' hB=>?_) av3 (bT (m:=2) mh rfl) (hp':=⟨Z,#[.slice q1 t.es.length c1,.slice q2 t.ds.length c2],77⟩::(hn++hs)) (hperm:=by (exact au))
  refine run ?_
  refine bH ⟨k + 1,v',ha',(g1++g2)++hs,ts'++[⟨t.es,t.ds,q1,c1,q2,c2⟩]⟩ ⟨hlt,by dsimp only;rw [List.map_append];exact hB,?_,?_⟩ (hm:=by dsimp only;omega) (h2:=by (exact cnt1 hle))
  ·intro x hx
   rcases List.mem_append.1 hx with hx | hx
   ·exact (hO x hx).more fun wc hw=>yZ hw
   ·obtain rfl:=List.mem_singleton.1 hx
    exact (RJ hA1.own hA2.own au' au').more fun wc hw=>BC hw
  ·dsimp only
   rw [htn,List.map_append,List.map_append,hE]
   rfl
 ·have hge:k=ts.length:=by simp at hc2;omega
  subst hge
  rw [List.take_length] at hE
  refine run ?_
  exact fin1 ⟨ha,hs,ts',hA.own,hO,hE,aF.refl _⟩
theorem BL {w:World} {u v:Value} (xs ys:List dM) (h1:qI w u xs) (h2:qI w v ys) (he:xs.map dM.p=ys.map dM.p):Fn Tryz.prog 21 [u,v].toArray w [] (fun r _=>r=.bool true):=by
 have hl:xs.length=ys.length:=by simpa using congrArg List.length he
 obtain ⟨q,cap,rfl,hne,hle⟩:=h1.rows.opened
 obtain ⟨q2,cap2,rfl,hne2,_⟩:=h2.rows.opened
 refine enter Tryz.func21 ?_
 refine run ?_
 refine aj _ rfl (fun hc=>absurd hc (by simp [hl])) (fun hc=>?_)
 refine run ?_
 refine cO (σ:=Nat) (fun k=>[(5,.int .i64 (k:Int))]) (fun _=>[]) (fun k=>k≤xs.length) (fun k=>xs.length - k) 0 (Nat.zero_le _) ?_
 rintro k m hm hk
 refine run ?_
 refine aj _ rfl (fun hc=>?_) (fun hc=>?_)
 ·have hlt:k<xs.length:=by simp at hc;omega
  obtain ⟨b,o,rfl⟩:=hne av5
  obtain ⟨b2,o2,rfl⟩:=hne2 (by intro e;rw [e] at hl;simp only [List.length_nil] at hl;omega)
  have hr1:=h1.rows.row hlt
  have hr2:=h2.rows.row (show k<ys.length by omega)
  have hcc:=MR he hlt
  have p0x:=h1.en _ (getD_mem hlt)
  have q0x:=h2.en _ (getD_mem (show k<ys.length by omega))
  have p1x:=h1.iv _ (getD_mem hlt)
  have q1x:=h2.iv _ (getD_mem (show k<ys.length by omega))
  generalize xs.getD k default=a at *
  generalize ys.getD k default=c at *
  refine run ?_
  refine eU ?_
  refine cu ?_
  refine jY (fun wc hG=>Ud a c (congrArg Prod.fst hcc) (congrArg Prod.snd hcc) (p0x.good hG) (p1x.good hG) (q0x.good hG) (q1x.good hG)) ?_
  refine cu ?_
  refine run ?_
  refine aj _ rfl (fun hp=>?_) (fun hp=>?_)
  ·simp at hp
  ·refine run ?_
   exact bH (k + 1) hlt
 ·refine run ?_
  exact fin1 rfl
theorem RN {w:World} (cpu Z7:Int) (u v:Value) (s t:PS) (hc:cpu=Z7) (hst:s=t) (hu:aB w u 1 (t.seen.map dH)) (hv:aB w v 1 (t.seen.map dH)):Fn Tryz.prog 22 [.agg (kR cpu u s),.agg (kR Z7 v t)].toArray w [] (fun r _=>r=.bool true):=by
 have hu':=hu
 have hv':=hv
 obtain ⟨q,cap,rfl,_,_⟩:=hu.opened
 obtain ⟨q2,cap2,rfl,_,_⟩:=hv.opened
 refine enter Tryz.func22 ?_
 refine G5 ?_
 intro B1 B2
 refine az ?_
 generalize hz:decide ((0:Int)=0)=z0
 refine az ?_
 refine aZ (fun _ wc hG=>GU t.seen _ _ (hu'.good hG) (hv'.good hG)) ?_
 refine az ?_
 refine fin1 ?_
 subst hc hst hz
 simp [bF,nH]
theorem Vr {w:World} (cpu:Int) (u v:Value) (s:PS) (hu:aB w u 1 (s.seen.map dH)) (hv:aB w v 1 (s.seen.map dH)):Fn Tryz.prog 22 [.agg (kR cpu u s),.agg (kR cpu v s)].toArray w [] (fun r _=>r=.bool true):=RN cpu cpu u v s s rfl rfl hu hv
def RP (wv:Value) (ws:List Nat) (cpu:Int) (s:PS) (u:Value) (hn:Hp):Prop:=∃ L:ML,lT wv ws L s∧u=.tuple #[.agg #[L.wv],.agg (dD s.r).toArray,L.lv,.agg (kR cpu L.sv s)]∧aF (L.hl++L.hs++(L.hw++L.ht)) hn
def Ig (wv sv lv:Value) (cpu:Nat) (two:bQ) (s:PS):Array Value:=
 #[wv,.int .u64 (s.r.x0:Nat),.int .u64 (s.r.x1:Nat),.int .u64 (s.r.x2:Nat),.int .u64 (s.r.x3:Nat),.int .u64 (s.r.x4:Nat),.int .u64 (s.r.x5:Nat),.int .u64 (s.r.x6:Nat),.int .u64 (s.r.x7:Nat),
  .int .u64 (s.r.pc:Nat),.int .u64 (s.r.gp:Nat),.int .u64 (s.r.dm:Nat),.int .u64 (s.r.jd:Nat),.int .u64 (s.r.qw:Nat),.int .u64 (s.r.mJ:Nat),.int .u64 (s.r.far:Nat),
  lv,.int .i64 (cpu:Nat),.bool two.on,.int .i64 two.frame,.int .i64 two.tag,.int .i64 s.pk.cpu,.bool s.pk.fill,.bool s.pk.aO,.bool s.pk.walk,.int .i64 s.pk.drop,.bool s.pk.use,
  .int .i64 (cpu:Nat),.int .i64 s.kind,.int .i64 s.iZ.op,.int .i64 s.iZ.d,.int .i64 s.iZ.n,.int .i64 s.iZ.m,.int .i64 s.iZ.aW,.int .i64 s.ft.kind,.int .i64 s.ft.stage,.int .i64 s.ft.level,.bool s.ft.walk,.int .i64 s.ft.page,.int .i64 0,sv,
  .int .u64 (s.r.x0:Nat),.int .u64 (s.r.x1:Nat),.int .u64 (s.r.x2:Nat),.int .u64 (s.r.x3:Nat),.int .u64 (s.r.x4:Nat),.int .u64 (s.r.x5:Nat),.int .u64 (s.r.x6:Nat),.int .u64 (s.r.x7:Nat),.int .u64 (s.r.pc:Nat),.int .u64 (s.r.gp:Nat),.int .u64 (s.r.dm:Nat),.int .u64 (s.r.jd:Nat),.int .u64 (s.r.qw:Nat),.int .u64 (s.r.mJ:Nat),.int .u64 (s.r.far:Nat)]
theorem Vs {fn:Func} {R:Value→Hp→Prop} {l:Fm} {hp:Hp} {s0 a t b a2 t2 b2 a3 t3 b3:Nat} {cs cs2 LC:Array Value} {tb tb2 ZU:TypeId} {v:Value} (h:R (.tuple #[.agg cs,.agg cs2,v,.agg LC]) hp) (hr:fn.results=#[.cell a t,.cell a2 t2,.tmp s0,.cell a3 t3]:=by rfl) (h0:look l s0=some v:=by rfl) (hv:look l a=some (.pointer (some ⟨b,0,none⟩)):=by rfl) (hw:look l a2=some (.pointer (some ⟨b2,0,none⟩)):=by rfl) (hw3:look l a3=some (.pointer (some ⟨b3,0,none⟩)):=by rfl) (hag:mem Tb.ag t=true:=by rfl) (hm:(⟨b,cs,tb⟩:aI)∈hp:=by (first | (with_reducible apply mh) | (focus ((repeat (first | (with_reducible apply mh) | (with_reducible apply mt) | (with_reducible apply List.mem_append_right)));done)))) (hz:lk Tb.sz t=some cs.size:=by rfl) (wF:mem Tb.ag t2=true:=by rfl) (hm2:(⟨b2,cs2,tb2⟩:aI)∈hp:=by (first | (with_reducible apply mh) | (focus ((repeat (first | (with_reducible apply mh) | (with_reducible apply mt) | (with_reducible apply List.mem_append_right)));done)))) (hz2:lk Tb.sz t2=some cs2.size:=by rfl) (X8:mem Tb.ag t3=true:=by rfl) (hm3:(⟨b3,LC,ZU⟩:aI)∈hp:=by (first | (with_reducible apply mh) | (focus ((repeat (first | (with_reducible apply mh) | (with_reducible apply mt) | (with_reducible apply List.mem_append_right)));done)))) (hz3:lk Tb.sz t3=some LC.size:=by rfl):Fin Tryz.prog fn R .ret l hp:=
 ⟨.inl rfl,[.agg cs,.agg cs2,v,.agg LC],by rw [hr];exact ⟨⟨⟨b,cs,tb⟩,hm,hv,.inr ⟨ay.zH hag,ay.tH hz,rfl⟩⟩,⟨⟨b2,cs2,tb2⟩,hm2,hw,.inr ⟨ay.zH wF,ay.tH hz2,rfl⟩⟩,h0,⟨⟨b3,LC,ZU⟩,hm3,hw3,.inr ⟨ay.zH X8,ay.tH hz3,rfl⟩⟩,trivial⟩,h⟩
set_option maxHeartbeats 4000000 in
theorem N7 (ws:List Nat) (hw:tu ws) (cap:Nat) (hcc:ws.length≤cap) {p:Option Addr} {w:World} (ts:List dM) (r:aC) (hr:r.Ok) (C:Nat) (two:bQ) (pk:vg) {lv:Value} (hm:aB w (.slice p ws.length cap) 1 (ws.map uV)) (hT:qI w lv ts) (hl:ts.length<100000) (hmay:qN ws.length (ts.map dM.p) C two=true):
  Fn Tryz.prog 19 [.agg #[.slice p ws.length cap],.agg (dD r).toArray,lv,.int .i64 (C:Nat),.agg (iK two).toArray,.agg (mM pk).toArray].toArray w [] (RP (.slice p ws.length cap) ws C (o9 (Lu ws (ts.map dM.p) r pk) C two)):=by
 have hT':=hT
 obtain ⟨ql,cl,rfl,hne,_⟩:=hT.rows.opened
 have am1:=hmay
 simp only [qN,Bool.and_eq_true,decide_eq_true_eq] at hmay
 obtain ⟨⟨⟨⟨⟨m1,m2⟩,m3⟩,m4⟩,m5⟩,m6⟩:=hmay
 have hall:∀ t∈ts,bK t.es t.ds=true∧lQ ws.length t.es=true:=fun t ht=>by
  have h3:=List.all_eq_true.1 m6 t.p (List.mem_map.2 ⟨t,ht,rfl⟩)
  simpa only [Bool.and_eq_true] using h3
 refine enter Tryz.func19 ?_
 refine G5 ?_
 intro B1 B2 B3 B4 B5 B6 B7
 obtain ⟨S0,hS0⟩:∃ S0,S0=Lu ws (ts.map dM.p) r pk:=⟨_,rfl⟩
 refine dN 12 11 [0,1,2,4,5,6,7,8] [3,9,10,11] [] ?_
 refine dh ?_
 refine uy (fun wc hG=>sG ts (hT'.good hG) hl (fun t ht=>by have:=dO (hall t ht).1;omega)) ?_
 rintro v hn ⟨ha,hs,ts',hA,hO,hE,hle⟩
 have hl':ts'.length=ts.length:=by simpa using congrArg List.length hE
 obtain ⟨oq,oc,eo⟩:=hA.opened
 rw [List.length_map] at eo
 subst eo
 refine Ew (out:=fH (.slice p ws.length cap) (.slice none 0 0) (.slice oq ts'.length oc) C two (Lu ws (ts.map dM.p) r pk)) (out':=fH (.slice p ws.length cap) (.slice none 0 0) (.slice oq ts'.length oc) C two (Lu ws (ts.map dM.p) r pk)) ?_ (hf:=by kernel_rfl) (hn:=rfl)
 rw [← hS0]
 refine Zv (fun M=>?_)
 refine sV (fun hx=>eY rfl) ?_
 refine aH ?_
 refine di ?_
 show Ops _ _ _ _ _ _ _ (aI.mk M (fH (.slice p ws.length cap) (.slice none 0 0) (.slice oq ts'.length oc) C two S0) 92::(hn++aI.mk B7 (kR 0 (.slice none 0 0) mP) 46::aI.mk B6 ((dD kM).toArray) 30::aI.mk B5 (#[.slice none 0 0]) 24::aI.mk B4 (mM pk).toArray 51::aI.mk B3 (iK two).toArray 33::aI.mk B2 (dD r).toArray 30::aI.mk B1 #[.slice p ws.length cap] 24::[])) _
 refine aJ (aI.mk M (fH (.slice p ws.length cap) (.slice none 0 0) (.slice oq ts'.length oc) C two S0) 92::((ha++[]++([]++hs))++aI.mk B7 (kR 0 (.slice none 0 0) mP) 46::aI.mk B6 ((dD kM).toArray) 30::aI.mk B5 (#[.slice none 0 0]) 24::aI.mk B4 (mM pk).toArray 51::aI.mk B3 (iK two).toArray 33::aI.mk B2 (dD r).toArray 30::aI.mk B1 #[.slice p ws.length cap] 24::[])) (cnt1 hle) ?_
 have hPs:fE S0 C two:=by
  rw [hS0]
  refine ⟨hw,m1,by show C<(ts.map dM.p).length;omega,by show (ts.map dM.p).length<_;rw [List.length_map];exact hl,fun t ht=>?_,⟨m4,m5⟩,hr⟩
  have h3:=List.all_eq_true.1 m6 t ht
  simp only [Bool.and_eq_true] at h3
  exact RG h3.1 h3.2
 have hML:lT (.slice p ws.length cap) ws ⟨.slice p ws.length cap,.slice none 0 0,.slice oq ts'.length oc,ts',[],[],ha,hs⟩ S0:=by
  rw [hS0]
  exact ⟨.inl ⟨rfl,rfl⟩,⟨_,_,rfl,hcc⟩,Own.nil _ _,hA,hO,hE⟩
 have hov:S0.over=false:=by rw [hS0];rfl
 have hsn:S0.seen.length=0:=by rw [hS0];rfl
 refine run ?_
 refine dK (aI.mk M (fH (.slice p ws.length cap) (.slice none 0 0) (.slice oq ts'.length oc) C two S0) 92::(ha++[]++([]++hs))) (aI.mk B7 (kR 0 (.slice none 0 0) mP) 46::aI.mk B6 ((dD kM).toArray) 30::aI.mk B5 (#[.slice none 0 0]) 24::aI.mk B4 (mM pk).toArray 51::aI.mk B3 (iK two).toArray 33::aI.mk B2 (dD r).toArray 30::aI.mk B1 #[.slice p ws.length cap] 24::[]) (fun wc' hG=>Yb (.slice p ws.length cap) ws _ M C two S0 hML hPs au' hov ((dP.old hm).into hG) hG.dG) (fun v hn2 hv=>?_) au
 obtain ⟨rfl,L2,hL2,hle2⟩:=hv
 generalize o9 S0 C two=Z at hL2 hle2 ⊢
 unfold ML.pW at hle2
 obtain ⟨wv3,sv3,lv3,FU,hw3,hs3,hl3,ht3⟩:=L2
 obtain ⟨wO,wP,ew,ai0⟩:=hL2.c
 obtain ⟨zn,zo,es⟩:=hL2.q.opened
 obtain ⟨FV,FW,el⟩:=hL2.l.opened
 dsimp only at ew es el hle2 ⊢
 subst ew es el
 refine aJ (aI.mk M (fH (.slice wO Z.ws.length wP) (.slice zn (Z.seen.map dH).length zo) (.slice FV (FU.map lC).length FW) C two Z) 92::((hl3++hs3++(hw3++ht3))++aI.mk B7 (kR 0 (.slice none 0 0) mP) 46::aI.mk B6 ((dD kM).toArray) 30::aI.mk B5 (#[.slice none 0 0]) 24::aI.mk B4 (mM pk).toArray 51::aI.mk B3 (iK two).toArray 33::aI.mk B2 (dD r).toArray 30::aI.mk B1 #[.slice p ws.length cap] 24::[])) (cnt1 hle2) ?_
 refine run ?_
 rw [show (List.take 15 (List.drop 1 (fH (.slice wO Z.ws.length wP) (.slice zn (Z.seen.map dH).length zo) (.slice FV (FU.map lC).length FW) C two Z).toList)).toArray=(dD Z.r).toArray from rfl]
 refine gz (Ig (.slice wO Z.ws.length wP) (.slice zn (Z.seen.map dH).length zo) (.slice FV (FU.map lC).length FW) C two Z) ?_
 refine run ?_
 refine iw 14 ?_
 refine dN 20 16 [0,1,2,3,4,5,6,7,8,9,10,11,12,13,14,15] [16,17,18,19] [aI.mk M (Ig (.slice wO Z.ws.length wP) (.slice zn (Z.seen.map dH).length zo) (.slice FV (FU.map lC).length FW) C two Z) 92] ?_
 refine dh ?_
 rw [show (List.take 29 (List.drop 27 (Ig (.slice wO Z.ws.length wP) (.slice zn (Z.seen.map dH).length zo) (.slice FV (FU.map lC).length FW) C two Z).toList)).toArray=kR C (.slice zn (Z.seen.map dH).length zo) Z from rfl,show (List.take 15 (List.drop 1 (Ig (.slice wO Z.ws.length wP) (.slice zn (Z.seen.map dH).length zo) (.slice FV (FU.map lC).length FW) C two Z).toList)).toArray=(dD Z.r).toArray from rfl,show (List.take 1 (Ig (.slice wO Z.ws.length wP) (.slice zn (Z.seen.map dH).length zo) (.slice FV (FU.map lC).length FW) C two Z).toList).toArray=#[.slice wO Z.ws.length wP] from rfl]
 refine qg (b:=B5) (tb:=24) (cs:=#[.slice none 0 0]) (cs':=#[.slice wO Z.ws.length wP]) (hp':=aI.mk M (Ig (.slice wO Z.ws.length wP) (.slice zn (Z.seen.map dH).length zo) (.slice FV (FU.map lC).length FW) C two Z) 92::(aI.mk B7 (kR 0 (.slice none 0 0) mP) 46::aI.mk B6 (dD kM).toArray 30::[]++((hl3++hs3++(hw3++ht3))++[aI.mk B4 (mM pk).toArray 51,aI.mk B3 (iK two).toArray 33,aI.mk B2 (dD r).toArray 30,aI.mk B1 #[.slice p ws.length cap] 24]))) ?_ (hperm:=by (exact au))
 refine qg (b:=B6) (tb:=30) (cs:=(dD kM).toArray) (cs':=(dD Z.r).toArray) (hp':=aI.mk M (Ig (.slice wO Z.ws.length wP) (.slice zn (Z.seen.map dH).length zo) (.slice FV (FU.map lC).length FW) C two Z) 92::(aI.mk B7 (kR 0 (.slice none 0 0) mP) 46::aI.mk B5 #[.slice wO Z.ws.length wP] 24::[]++((hl3++hs3++(hw3++ht3))++[aI.mk B4 (mM pk).toArray 51,aI.mk B3 (iK two).toArray 33,aI.mk B2 (dD r).toArray 30,aI.mk B1 #[.slice p ws.length cap] 24]))) ?_ (hperm:=by (exact au))
 refine sV (fun hx=>eY rfl) ?_
 refine iO (b:=B7) (tb:=46) (cs:=kR 0 (.slice none 0 0) mP) (kR C (.slice zn (Z.seen.map dH).length zo) Z) (hp':=aI.mk M (Ig (.slice wO Z.ws.length wP) (.slice zn (Z.seen.map dH).length zo) (.slice FV (FU.map lC).length FW) C two Z) 92::(aI.mk B6 (dD Z.r).toArray 30::aI.mk B5 #[.slice wO Z.ws.length wP] 24::[]++((hl3++hs3++(hw3++ht3))++[aI.mk B4 (mM pk).toArray 51,aI.mk B3 (iK two).toArray 33,aI.mk B2 (dD r).toArray 30,aI.mk B1 #[.slice p ws.length cap] 24]))) ?_ (hperm:=by (exact au))
 refine aH ?_
 refine di ?_
 refine aJ (aI.mk B7 (kR C (.slice zn (Z.seen.map dH).length zo) Z) 46::aI.mk B6 (dD Z.r).toArray 30::aI.mk B5 #[.slice wO Z.ws.length wP] 24::(hl3++hs3++(hw3++ht3))) ak ?_
 refine run ?_
 refine Vs (cs:=#[.slice wO Z.ws.length wP]) (cs2:=(dD Z.r).toArray) (LC:=kR C (.slice zn (Z.seen.map dH).length zo) Z) ?_
 exact ⟨_,hL2,rfl,by (exact ak)⟩
end
section
attribute [local irreducible] Hy St Ops DH gB iH iq fK DS fA jX
theorem Own.Z8 {α:Type} {f:α→List Value} {sz:Nat} (hf:∀ a,(f a).length=sz∧(f a).all (·.oneCell')=true) (h0:0<sz) {e:Nat} {v:Value} {h:Hp} {xs:List α} (hA:Own e sz v h (xs.map f)) {k:Nat} (hk:k<xs.length):∃ g cap cur,v=.slice (some ⟨g,0,none⟩) xs.length cap∧h=[⟨g,cur,e⟩]∧k * sz + sz≤cur.size ∧
  ∀ z:α,Own e sz v [⟨g,putAt cur (k * sz) (f z),e⟩] ((xs.set k z).map f):=by
 obtain ⟨g,cap,cur,rfl,rfl,hr⟩:=hA.row (n:=xs.length) av4 au'
 have hall:∀ c∈xs.map f,c.length=sz:=fun c hc=>by
  obtain ⟨a,_,rfl⟩:=List.mem_map.1 hc
  exact (hf a).1
 have hi:(xs.map f)[k]?=some (f xs[k]):=by
  rw [List.getElem?_map,List.getElem?_eq_getElem hk];rfl
 have hsz:=hr.size
 have hle:=hr.le
 have hks:k * sz + sz≤cur.size:=by
  have:(k + 1) * sz≤cap * sz:=Nat.mul_le_mul_right _ au'
  rw [Nat.add_mul,Nat.one_mul] at this
  omega
 refine ⟨g,cap,cur,rfl,rfl,hks,fun z=>⟨fun c hc=>?_,.inr ⟨g,cap,_,by simp,rfl,?_⟩⟩⟩
 ·obtain ⟨a,_,rfl⟩:=List.mem_map.1 hc
  exact hf a
 ·have h2:=hr.put hall hi (k:=0) (vs:=f z) (by simp [(hf z).1])
  have e2:((xs.set k z).map f).length=xs.length:=by simp
  rw [e2,List.map_set]
  have e3:List.take 0 (f xs[k])++f z++List.drop (0 + (f z).length) (f xs[k])=f z:=by
   rw [List.take_zero,List.nil_append,List.drop_of_length_le (by rw [(hf z).1,(hf _).1];omega),List.append_nil]
  rw [e3] at h2
  exact h2
theorem JO {w:World} {v u:Value} {he hd:Hp} (es:List bg) (ds:List dB) (h1:Own 114 14 v he (es.map bI)) (h2:Own 121 4 u hd (ds.map dJ)) (hN:eP (he++hd) w) (hl:es.length<100000) (hl2:ds.length<100000):Fn Tryz.prog 51 [.agg #[v,u]].toArray w ((he++hd).map (·.b)) (fun r hn=>r=.tuple #[]):=by
 obtain ⟨q,cap,ev⟩:=h1.opened
 rw [List.length_map] at ev
 subst ev
 obtain ⟨q2,cap2,wM⟩:=h2.opened
 rw [List.length_map] at wM
 subst wM
 refine eF _ hN Tryz.func51 ?_
 refine run ?_
 intro B
 refine run ?_
 refine cO (σ:=Nat × Hp × List bg) (fun s=>[(2,.int .i64 (s.1:Int))]) (fun s=>⟨B,#[.slice q es.length cap,.slice q2 ds.length cap2],77⟩::(s.2.1++hd)) (fun s=>s.1≤es.length∧s.2.2.length=es.length∧Own 114 14 (.slice q es.length cap) s.2.1 (s.2.2.map bI)) (fun s=>es.length - s.1) (0,he,es) ⟨Nat.zero_le _,rfl,h1⟩ ?_
 rintro ⟨k,h,ys⟩ m hm ⟨hk,hyl,hO⟩
 dsimp only at hm hk hyl hO ⊢
 refine run ?_
 refine aj _ rfl (fun hc=>?_) (fun hc=>?_)
 ·have hlt:k<es.length:=by simp at hc;omega
  obtain ⟨g,cap',cur,eg,rfl,hsz,hset⟩:=hO.Z8 KX av1 (k:=k) au'
  rw [hyl] at eg
  cases eg
  simp only [List.cons_append,List.nil_append]
  refine run ?_
  exact bH (k + 1,[⟨g,putAt cur (k * 14) (bI ⟨-9,0,0,false,0,0,0,0,false,false,false,false,false,0⟩),114⟩],ys.set k ⟨-9,0,0,false,0,0,0,0,false,false,false,false,false,0⟩) (hm:=by dsimp only;omega) ⟨hlt,by rw [List.length_set];exact hyl,hset _⟩ (h2:=by simp only [putAt,bI];(exact ak))
 refine run ?_
 refine cO (σ:=Nat × Hp × List dB) (fun s=>[(3,.int .i64 (s.1:Int))]) (fun s=>⟨B,#[.slice q es.length cap,.slice q2 ds.length cap2],77⟩::s.2.1) (fun s=>s.1≤ds.length∧s.2.2.length=ds.length∧Own 121 4 (.slice q2 ds.length cap2) s.2.1 (s.2.2.map dJ)) (fun s=>ds.length - s.1) (0,hd,ds) ⟨Nat.zero_le _,rfl,h2⟩ (hh:=by (exact ak)) ?_
 rintro ⟨k2,h2',ys2⟩ m2 hm2 ⟨hk2,Yd,hO2⟩
 dsimp only at hm2 hk2 Yd hO2 ⊢
 refine run ?_
 refine aj _ rfl (fun hc=>?_) (fun hc=>?_)
 ·have hlt:k2<ds.length:=by simp at hc;omega
  obtain ⟨g,cap',cur,eg,rfl,hsz,hset⟩:=hO2.Z8 KW av1 (k:=k2) au'
  rw [Yd] at eg
  cases eg
  refine run ?_
  exact bH (k2 + 1,[⟨g,putAt cur (k2 * 4) (dJ ⟨-9,0,0,0⟩),121⟩],ys2.set k2 ⟨-9,0,0,0⟩) (hm:=by dsimp only;omega) ⟨hlt,by rw [List.length_set];exact Yd,hset _⟩ (h2:=by simp only [putAt,dJ];(exact ak))
 refine run ?_
 exact fin0 rfl
structure Ye (w:World) (wv gv ev dv pv:Value) (ws:List Nat) (Yt:List Int) (es:List bg) (ds:List dB) (ps:List vg):Prop where
 uZ:tu ws
 sw:aB w wv 1 (ws.map uV)
 N8:∃ q c,wv=.slice q ws.length c∧ws.length≤c
 sg:aB w gv 1 (Yt.map dH)
 se:aB w ev 14 (es.map bI)
 cap:∃ q c,ev=.slice q es.length c∧es.length≤c
 sd:aB w dv 4 (ds.map dJ)
 sp:aB w pv 6 (ps.map mM)
 wl:ws.length≤281474976710656
 gl:Yt.length≤281474976710656
 el:es.length≤281474976710656
 dl:ds.length≤281474976710656
 pl:ps.length≤281474976710656
theorem Ye.good {w w':World} {hp:Hp} {wv gv ev dv pv:Value} {ws:List Nat} {Yt:List Int} {es:List bg} {ds:List dB} {ps:List vg} (h:Ye w wv gv ev dv pv ws Yt es ds ps) (hG:Good w [] hp w'):Ye w' wv gv ev dv pv ws Yt es ds ps:=⟨h.uZ,h.sw.good hG,h.N8,h.sg.good hG,h.se.good hG,h.cap,h.sd.good hG,h.sp.good hG,h.wl,h.gl,h.el,h.dl,h.pl⟩
section
variable {w : World} {wv gv ev dv pv : Value} {ws : List Nat} {Yt : List Int} {es : List bg} {ds : List dB} {ps : List vg} {one two : bQ} {fr ac : Int}
theorem Vt (n m cn cm:Nat) (q q2:Option Addr) (w:World) (hn:n≤281474976710656) (hm:m≤281474976710656):Fn Tryz.prog 34 [.agg #[.slice q n cn,.slice q2 m cm]].toArray w [] (fun r _=>r=.int .i64 ((n:Int) + m)):=by
 refine enter Tryz.func34 ?_
 refine run ?_
 intro B
 refine run ?_
 exact fin1 rfl
end
end
section
attribute [local irreducible] Hy St Ops DH gB iH iq fK DS fA jX
theorem Own.Z9 {e:Nat} {n g cap:Nat} {cur:Array Value} {xs:List Nat} (hA:Own e 1 (.slice (some ⟨g,0,none⟩) n cap) [⟨g,cur,e⟩] (xs.map uV)) {k:Nat} (hk:k<xs.length):nth cur.toList k=some (.int .u64 (xs.getD k 0:Int)):=by
 obtain ⟨g',cap',cur',e1,e2,hr⟩:=hA.row (n:=xs.length) av4 au'
 injection e2 with e2
 injection e2 with _ e2
 subst e2
 have hall:∀ c∈xs.map uV,c.length=1:=fun c hc=>by obtain ⟨x,_,rfl⟩:=List.mem_map.1 hc;rfl
 have hi:(xs.map uV)[k]?=some (uV (xs.getD k 0)):=by
  rw [List.getElem?_map,List.getD_eq_getElem?_getD,List.getElem?_eq_getElem hk];rfl
 have h1:=hr.nth hall hi (k:=0) rfl
 rwa [Nat.mul_one,Nat.add_zero] at h1
theorem FN {w:World} {v:Value} {ha:Hp} (xs:List Nat) (h64:tu xs) (hA:Own 25 1 v ha (xs.map uV)) (hN:eP ha w) (hl:xs.length<100000):Fn Tryz.prog 23 [v].toArray w (ha.map (·.b)) (fun u hn=>u=.tuple #[]):=by
 obtain ⟨q,cap,ev⟩:=hA.opened
 rw [List.length_map] at ev
 subst ev
 refine eF _ hN Tryz.func23 ?_
 refine run ?_
 refine cO (σ:=Nat × Hp × List Nat) (fun s=>[(2,.int .i64 (s.1:Int))]) (fun s=>s.2.1) (fun s=>s.1≤xs.length∧s.2.2.length=xs.length∧tu s.2.2∧Own 25 1 (.slice q xs.length cap) s.2.1 (s.2.2.map uV)) (fun s=>xs.length - s.1) (0,ha,xs) ⟨Nat.zero_le _,rfl,h64,hA⟩ ?_
 rintro ⟨k,h,ys⟩ m hm ⟨hk,hyl,CB,hO⟩
 dsimp only at hm hk hyl CB hO ⊢
 refine run ?_
 refine aj _ rfl (fun hc=>?_) (fun hc=>?_)
 ·have hlt:k<xs.length:=by simp at hc;omega
  obtain ⟨g,cap',cur,eg,rfl,hsz,hset⟩:=hO.TU (k:=k) au'
  rw [hyl] at eg
  cases eg
  have hn:=hO.Z9 (k:=k) au'
  refine run ?_
  refine eH av2 (Jo rfl rfl (ys.getD k 0) 21845 rfl rfl (CB.at k) av1) ?_
  refine run ?_
  exact bH (k + 1,[⟨g,cur.setIfInBounds k (.int .u64 ((ys.getD k 0 ^^^ 21845:Nat):Int)),25⟩],ys.set k (ys.getD k 0 ^^^ 21845)) (hm:=by dsimp only;omega) ⟨hlt,by rw [List.length_set];exact hyl,CB.set (Nat.xor_lt_two_pow (n:=64) (CB.at k) av1) _,by rw [← hyl];exact hset _⟩ (h2:=by (exact ak))
 ·refine run ?_
  intro T
  refine xI (c:=uV 5) [⟨T,#[.int .u64 5],25⟩] hO (fun v' ha' hA'=>?_) av3 (bT (m:=1) mh rfl) au
  refine run ?_
  exact fin0 rfl
theorem jq.get:∀ {ts:List dM} {h:Hp} {k:Nat},jq (ts.drop k) h→k<ts.length→∃ he hd hr,Fj (ts.getD k default) he hd∧jq (ts.drop (k + 1)) hr∧aF (he++hd++hr) h
 | [],_,_,_,hk=>absurd hk av4
 | t::ts,h,0,hw,_=>hw
 | t::ts,h,k + 1,hw,hk=>jq.get (ts:=ts) (k:=k) hw (by simpa using hk)
def tl0:dM:=⟨[],[],none,0,none,0⟩
theorem Ih {w:World} {v:Value} {ha hs:Hp} (ts:List dM) (hA:Own 77 2 v ha (ts.map lC)) (hO:jq ts hs) (hN:eP (ha++hs) w) (hl:ts.length<100000):Fn Tryz.prog 24 [v].toArray w ((ha++hs).map (·.b)) (fun u hn=>u=.tuple #[]):=by
 obtain ⟨q,cap,ev⟩:=hA.opened
 rw [List.length_map] at ev
 subst ev
 refine eF _ hN Tryz.func24 ?_
 refine run ?_
 refine cO (σ:=Nat × Hp × Hp × List dM) (fun s=>[(2,.int .i64 (s.1:Int))]) (fun s=>s.2.1++s.2.2.1) (fun s=>s.1≤ts.length∧s.2.2.2.length=ts.length∧Own 77 2 (.slice q ts.length cap) s.2.1 (s.2.2.2.map lC)∧jq (s.2.2.2.drop s.1) s.2.2.1) (fun s=>ts.length - s.1) (0,ha,hs,ts) ⟨Nat.zero_le _,rfl,hA,hO⟩ ?_
 rintro ⟨k,h,g,ys⟩ m hm ⟨hk,hyl,hB,hW⟩
 dsimp only at hm hk hyl hB hW ⊢
 refine run ?_
 refine aj _ rfl (fun hc=>?_) (fun hc=>?_)
 ·have hlt:k<ts.length:=by simp at hc;omega
  obtain ⟨b,cap',cur,eg,rfl,hsz,qM,hput⟩:=hB.NT (k:=k) au'
  rw [hyl] at eg
  cases eg
  obtain ⟨he,hd,hr,⟨o1,o2,o3,o4⟩,hW2,hle⟩:=jq.get hW au'
  have hld:=yl (qM 0 _ rfl) (qM 1 _ rfl)
  have hS:=hput 0 [.slice none 0 0,.slice none 0 0] tl0 av4 rfl ⟨rfl,rfl⟩
  generalize ys.getD k default=t at hld o1 o2 o3 o4
  refine OZ (aI.mk b cur 77::((he++hd)++hr)) (cnt1 hle) ?_
  refine run ?_
  refine dK (he++hd) (aI.mk b cur 77::hr) (fun wc hG=>JO t.es t.ds o1 o2 hG.dG au' au') (fun v hn hv=>?_) au
  subst hv
  refine aJ (aI.mk b cur 77::hr) ak ?_
  refine run ?_
  exact bH (k + 1,[⟨b,putAt cur (k * 2) [.slice none 0 0,.slice none 0 0],77⟩],hr,ys.set k tl0) (hm:=by dsimp only;omega) ⟨hlt,by rw [List.length_set];exact hyl,by rw [← hyl];exact hS,by rw [List.drop_set_of_lt au'];exact hW2⟩ (h2:=by simp only [putAt];(exact ak))
 ·refine run ?_
  exact fin0 rfl
structure lW (w:World) (wv lv pv:Value) (ws:List Nat) (ts:List dM) (ps:List vg) (r:aC):Prop where
 uZ:tu ws
 r:r.Ok
 sw:aB w wv 1 (ws.map uV)
 N8:∃ q c,wv=.slice q ws.length c∧ws.length≤c
 tl:qI w lv ts
 aa0:∀ t∈ts,t.es.length≤t.ec
 sp:aB w pv 6 (ps.map mM)
 wl:ws.length≤281474976710656
 ll:ts.length≤281474976710656
 el:∀ t∈ts,t.es.length≤281474976710656∧t.ds.length≤281474976710656
 pl:ps.length≤281474976710656
theorem lW.good {w w':World} {hp:Hp} {wv lv pv:Value} {ws:List Nat} {ts:List dM} {ps:List vg} {r:aC} (h:lW w wv lv pv ws ts ps r) (hG:Good w [] hp w'):lW w' wv lv pv ws ts ps r:=⟨h.uZ,h.r,h.sw.good hG,h.N8,h.tl.good hG,h.aa0,h.sp.good hG,h.wl,h.ll,h.el,h.pl⟩
def lU (wv lv pv:Value) (r:aC) (cpu:Int) (two:bQ):Array Value:=#[wv,.int .u64 (r.x0:Nat),.int .u64 (r.x1:Nat),.int .u64 (r.x2:Nat),.int .u64 (r.x3:Nat),.int .u64 (r.x4:Nat),.int .u64 (r.x5:Nat),.int .u64 (r.x6:Nat),.int .u64 (r.x7:Nat),.int .u64 (r.pc:Nat),.int .u64 (r.gp:Nat),.int .u64 (r.dm:Nat),.int .u64 (r.jd:Nat),.int .u64 (r.qw:Nat),.int .u64 (r.mJ:Nat),.int .u64 (r.far:Nat),lv,.int .i64 cpu,.bool two.on,.int .i64 two.frame,.int .i64 two.tag,pv]
theorem FO (n:Int) (w:World):Fn Tryz.prog 18 [.int .i64 n].toArray w [] (fun u _=>u=.int .i64 n):=by
 refine enter Tryz.func18 ?_
 refine run ?_
 exact fin1 rfl
theorem DX {w:World} {wv lv pv:Value} {ws:List Nat} {ts:List dM} {ps:List vg} {r:aC} (cpu:Int) (two:bQ) (h:lW w wv lv pv ws ts ps r):Fn Tryz.prog 13 [.agg (lU wv lv pv r cpu two)].toArray w [] (fun u _=>∃ b,u=.bool b∧(b=false→ws.length + ps.length + ts.length≤3000∧∀ t∈ts,t.es.length + t.ds.length≤3000)):=by
 obtain ⟨q1,c1,rfl,_⟩:=h.N8
 obtain ⟨q2,c2,rfl,hne,_⟩:=h.tl.rows.opened
 obtain ⟨q3,c3,rfl,_,_⟩:=h.sp.opened
 have h1:=h.wl
 have h2:=h.ll
 have h3:=h.pl
 refine enter Tryz.func13 ?_
 refine run ?_
 intro B
 refine run ?_
 refine cO (σ:=Nat × Int) (fun z=>[(4,.int .i64 (z.1:Int)),(3,.int .i64 z.2)]) (fun _=>[⟨B,#[.slice q1 ws.length c1,.int .u64 (r.x0:Nat),.int .u64 (r.x1:Nat),.int .u64 (r.x2:Nat),.int .u64 (r.x3:Nat),.int .u64 (r.x4:Nat),.int .u64 (r.x5:Nat),.int .u64 (r.x6:Nat),.int .u64 (r.x7:Nat),.int .u64 (r.pc:Nat),.int .u64 (r.gp:Nat),.int .u64 (r.dm:Nat),.int .u64 (r.jd:Nat),.int .u64 (r.qw:Nat),.int .u64 (r.mJ:Nat),.int .u64 (r.far:Nat),.slice q2 ts.length c2,.int .i64 cpu,.bool two.on,.int .i64 two.frame,.int .i64 two.tag,.slice q3 ps.length c3],36⟩]) (fun z=>z.1≤ts.length∧(ws.length:Int) + ps.length + ts.length≤z.2∧z.2≤2251799813685248∧∀ t∈ts.take z.1,(ws.length:Int) + ps.length + ts.length + t.es.length + t.ds.length≤z.2) (fun z=>ts.length - z.1) (0,(ws.length:Int) + ps.length + ts.length) ⟨Nat.zero_le _,Int.le_refl _,by dsimp only;omega,fun t ht=>absurd ht av4⟩ ?_
 rintro ⟨k,z⟩ m hm ⟨hk,hz,hz2,hall⟩
 dsimp only at hm hk hz hz2 hall ⊢
 refine az ?_
 refine aj _ rfl (fun hc=>?_) (fun hc=>?_)
 ·have hlt:k<ts.length∧z<1048576:=by simp at hc;omega
  obtain ⟨b,o,rfl⟩:=hne aw7
  have hr2:=h.tl.rows.row hlt.1
  have hel:=h.el _ (getD_mem hlt.1)
  have htn:=gI hlt.1
  generalize ts.getD k default=t at hr2 hel htn
  refine run ?_
  refine ax (fun wc hG=>Vt t.es.length t.ds.length t.ec t.dc t.ep t.dp wc hel.1 hel.2) ?_
  refine run ?_
  refine bH (k + 1,z + ((t.es.length:Int) + t.ds.length)) (hm:=by dsimp only;omega) ⟨hlt.1,by dsimp only;omega,by dsimp only;omega,fun x hx=>?_⟩
  dsimp only at hx ⊢
  rw [htn] at hx
  rcases List.mem_append.1 hx with hx | hx
  ·have:=hall x hx;omega
  ·obtain rfl:=List.mem_singleton.1 hx;omega
 ·refine run ?_
  refine fin1 ⟨_,rfl,fun hb=>?_⟩
  have hb':z≤3000:=by simpa using hb
  have hge:k=ts.length:=by simp at hc;omega
  rw [hge,List.take_length] at hall
  exact ⟨by omega,fun t ht=>by have:=hall t ht;omega⟩
theorem Ii {α:Type} (p q:α→Bool):∀ l:List α,(l.all fun x=>p x && q x)=(l.all p && l.all q)
 | []=>rfl
 | x::l=>by
  simp only [List.all_cons,Ii p q l]
  cases p x<;>cases q x<;>cases l.all p<;>cases l.all q<;>rfl
theorem Vu (n:Nat) (ts:List dM) (cpu:Int) (two:bQ):qN n (ts.map dM.p) cpu two=(!(((!dQ n || !ts.all fun t=>bK t.es t.ds) || !(decide (0≤cpu) && decide (cpu≤(ts.length:Int) - 1))) || !Cf ⟨false,0,0⟩ two) && ts.all fun t=>lQ n t.es):=by
 unfold qN
 rw [List.length_map,List.all_map]
 have h1:(ts.all ((fun t:List bg × List dB=>bK t.1 t.2 && lQ n t.1) ∘ dM.p))=((ts.all fun t=>bK t.es t.ds) && ts.all fun t=>lQ n t.es):=Ii _ _ _
 have h2:decide (cpu≤(ts.length:Int) - 1)=decide (cpu<(ts.length:Int)):=by rw [Bool.eq_iff_iff];simp;omega
 rw [h1,h2]
 have h3:Cf ⟨false,0,0⟩ two=(two.may && two.on):=by unfold Cf;rfl
 rw [h3]
 cases dQ n<;>cases (ts.all fun t=>bK t.es t.ds)<;>cases decide (0≤cpu)<;>cases decide (cpu<(ts.length:Int))<;>cases two.on<;>cases two.may<;>rfl
theorem LH (ws:List Nat) (hn:ws.length<1000000) (ts:List dM) (hl:ts.length<100000) (cpu:Int) (two:bQ) {w:World} {mv lv:Value} (hm:∃ q c,mv=.slice q ws.length c∧ws.length≤c) (hT:qI w lv ts):Fn Tryz.prog 17 [.agg #[mv],lv,.int .i64 cpu,.agg (iK two).toArray].toArray w [] (fun u _=>u=.bool (qN ws.length (ts.map dM.p) cpu two)):=by
 obtain ⟨q,cap,rfl,_⟩:=hm
 have hT':=hT
 obtain ⟨q2,c2,rfl,hne,_⟩:=hT.rows.opened
 refine enter Tryz.func17 ?_
 refine run ?_
 intro B1 B2
 refine az ?_
 refine ax (fun wc hG=>Qe ws.length cap q wc) ?_
 refine az ?_
 refine aZ (fun _ wc hG=>Uc ts _ (hT'.good hG)) ?_
 refine az ?_
 refine aZ (fun _ wc hG=>uG cpu _ wc) ?_
 refine az ?_
 refine aZ (fun _ wc hG=>Zx ⟨false,0,0⟩ two wc) ?_
 refine az ?_
 rw [Vu]
 generalize (((!dQ ws.length || !ts.all fun t=>bK t.es t.ds) || !(decide (0≤cpu) && decide (cpu≤(ts.length:Int) - 1))) || !Cf ⟨false,0,0⟩ two)=G
 refine aj _ rfl (fun hc=>?_) (fun hc=>?_)
 ·rw [hc]
  refine run ?_
  exact fin1 rfl
 rw [hc]
 refine run ?_
 refine cO (σ:=Nat) (fun k=>[(9,.int .i64 (k:Int))]) (fun _=>[⟨B2,(iK two).toArray,33⟩,⟨B1,#[.slice q ws.length cap],24⟩]) (fun k=>k≤ts.length∧(ts.take k).all (fun t=>lQ ws.length t.es)=true) (fun k=>ts.length - k) 0 ⟨Nat.zero_le _,rfl⟩ ?_
 rintro k m hm ⟨hk,hA⟩
 refine run ?_
 refine aj _ rfl (fun hc2=>?_) (fun hc2=>?_)
 ·have hlt:k<ts.length:=by simp at hc2;omega
  obtain ⟨b,o,rfl⟩:=hne aw7
  have hr2:=hT'.rows.row hlt
  have hen:=hT'.en _ (getD_mem hlt)
  have htn:=gI hlt
  have hmem:=getD_mem hlt
  generalize ts.getD k default=t at hr2 hen htn hmem
  refine run ?_
  refine eU ?_
  refine cu ?_
  refine jY (fun wc hG=>XI ws.length cap au' q t.es (u:=t.dv) (hen.good hG) ⟨_,_,_,rfl⟩) ?_
  refine cu ?_
  refine run ?_
  refine aj _ rfl (fun hc3=>?_) (fun hc3=>?_)
  ·have hf:(ts.all fun t=>lQ ws.length t.es)=false:=by
    rw [List.all_eq_false]
    exact ⟨t,hmem,by simpa using hc3⟩
   rw [hf]
   refine run ?_
   exact fin1 rfl
  ·refine run ?_
   exact bH (k + 1) ⟨hlt,by rw [htn,List.all_append,hA];simpa using hc3⟩
 ·have hge:k=ts.length:=by simp at hc2;omega
  rw [hge,List.take_length] at hA
  rw [hA]
  refine run ?_
  exact fin1 rfl
end
section
open Go.ChangeShapes Go.WideShapes Go.ChangeAt Go.RowKit
theorem nZ {v:Value} (h:okW (.i .u64) v=true):∃ a:Nat,v=.int .u64 (a:Int)∧a<18446744073709551616:=by
 cases v<;>simp only [okW,Bool.and_eq_true,decide_eq_true_eq,Bool.false_eq_true] at h
 obtain ⟨rfl,h⟩:=h
 rename_i n
 simp only [Lit.wf,Bool.and_eq_true,decide_eq_true_eq] at h
 have h0:0≤n:=Int.le_trans av1 h.1
 have h1:n≤18446744073709551615:=Int.le_trans h.2 av1
 exact ⟨n.toNat,by rw [Int.toNat_of_nonneg h0],by omega⟩
theorem RQ {cs:List Value} (h:jM [.i .i64,.i .i64,.i .i64,.b,.i .i64,.i .i64,.i .i64,.i .i64,.b,.b,.b,.b,.b,.i .i64] cs=true):∃ e:bg,cs=bI e∧True:=by
 obtain ⟨_,_,rfl,h0,r0⟩:=aK h
 obtain ⟨_,_,rfl,h1,r1⟩:=aK r0
 obtain ⟨_,_,rfl,h2,r2⟩:=aK r1
 obtain ⟨_,_,rfl,h3,r3⟩:=aK r2
 obtain ⟨_,_,rfl,h4,r4⟩:=aK r3
 obtain ⟨_,_,rfl,h5,r5⟩:=aK r4
 obtain ⟨_,_,rfl,h6,r6⟩:=aK r5
 obtain ⟨_,_,rfl,h7,r7⟩:=aK r6
 obtain ⟨_,_,rfl,h8,r8⟩:=aK r7
 obtain ⟨_,_,rfl,h9,r9⟩:=aK r8
 obtain ⟨_,_,rfl,h10,r10⟩:=aK r9
 obtain ⟨_,_,rfl,h11,r11⟩:=aK r10
 obtain ⟨_,_,rfl,h12,r12⟩:=aK r11
 obtain ⟨_,_,rfl,h13,r13⟩:=aK r12
 obtain ⟨a0,rfl,_⟩:=nS h0
 obtain ⟨a1,rfl,_⟩:=nS h1
 obtain ⟨a2,rfl,_⟩:=nS h2
 obtain ⟨a3,rfl⟩:=um h3
 obtain ⟨a4,rfl,_⟩:=nS h4
 obtain ⟨a5,rfl,_⟩:=nS h5
 obtain ⟨a6,rfl,_⟩:=nS h6
 obtain ⟨a7,rfl,_⟩:=nS h7
 obtain ⟨a8,rfl⟩:=um h8
 obtain ⟨a9,rfl⟩:=um h9
 obtain ⟨a10,rfl⟩:=um h10
 obtain ⟨a11,rfl⟩:=um h11
 obtain ⟨a12,rfl⟩:=um h12
 obtain ⟨Zc,rfl,_⟩:=nS h13
 obtain rfl:=oH r13
 exact ⟨⟨a0,a1,a2,a3,a4,a5,a6,a7,a8,a9,a10,a11,a12,Zc⟩,rfl,trivial⟩
theorem RS {cs:List Value} (h:jM [.i .i64,.i .i64,.i .i64,.i .i64] cs=true):∃ e:dB,cs=dJ e∧True:=by
 obtain ⟨_,_,rfl,h0,r0⟩:=aK h
 obtain ⟨_,_,rfl,h1,r1⟩:=aK r0
 obtain ⟨_,_,rfl,h2,r2⟩:=aK r1
 obtain ⟨_,_,rfl,h3,r3⟩:=aK r2
 obtain ⟨a0,rfl,_⟩:=nS h0
 obtain ⟨a1,rfl,_⟩:=nS h1
 obtain ⟨a2,rfl,_⟩:=nS h2
 obtain ⟨a3,rfl,_⟩:=nS h3
 obtain rfl:=oH r3
 exact ⟨⟨a0,a1,a2,a3⟩,rfl,trivial⟩
def aC.Fits (r:aC):Prop:=r.x0<18446744073709551616∧r.x1<18446744073709551616∧r.x2<18446744073709551616∧r.x3<18446744073709551616∧r.x4<18446744073709551616∧r.x5<18446744073709551616∧r.x6<18446744073709551616∧r.x7<18446744073709551616∧r.pc<18446744073709551616∧r.gp<18446744073709551616∧r.dm<18446744073709551616∧r.jd<18446744073709551616∧r.qw<18446744073709551616∧r.mJ<18446744073709551616∧r.far<18446744073709551616
theorem Vw {cs:List Value} (h:jM [.i .u64,.i .u64,.i .u64,.i .u64,.i .u64,.i .u64,.i .u64,.i .u64,.i .u64,.i .u64,.i .u64,.i .u64,.i .u64,.i .u64,.i .u64] cs=true):∃ r:aC,cs=dD r∧r.Fits:=by
 obtain ⟨_,_,rfl,h0,r0⟩:=aK h
 obtain ⟨_,_,rfl,h1,r1⟩:=aK r0
 obtain ⟨_,_,rfl,h2,r2⟩:=aK r1
 obtain ⟨_,_,rfl,h3,r3⟩:=aK r2
 obtain ⟨_,_,rfl,h4,r4⟩:=aK r3
 obtain ⟨_,_,rfl,h5,r5⟩:=aK r4
 obtain ⟨_,_,rfl,h6,r6⟩:=aK r5
 obtain ⟨_,_,rfl,h7,r7⟩:=aK r6
 obtain ⟨_,_,rfl,h8,r8⟩:=aK r7
 obtain ⟨_,_,rfl,h9,r9⟩:=aK r8
 obtain ⟨_,_,rfl,h10,r10⟩:=aK r9
 obtain ⟨_,_,rfl,h11,r11⟩:=aK r10
 obtain ⟨_,_,rfl,h12,r12⟩:=aK r11
 obtain ⟨_,_,rfl,h13,r13⟩:=aK r12
 obtain ⟨_,_,rfl,Su,r14⟩:=aK r13
 obtain ⟨a0,rfl,b0⟩:=nZ h0
 obtain ⟨a1,rfl,b1⟩:=nZ h1
 obtain ⟨a2,rfl,b2⟩:=nZ h2
 obtain ⟨a3,rfl,b3⟩:=nZ h3
 obtain ⟨a4,rfl,b4⟩:=nZ h4
 obtain ⟨a5,rfl,b5⟩:=nZ h5
 obtain ⟨a6,rfl,b6⟩:=nZ h6
 obtain ⟨a7,rfl,b7⟩:=nZ h7
 obtain ⟨a8,rfl,b8⟩:=nZ h8
 obtain ⟨a9,rfl,b9⟩:=nZ h9
 obtain ⟨a10,rfl,b10⟩:=nZ h10
 obtain ⟨a11,rfl,b11⟩:=nZ h11
 obtain ⟨a12,rfl,b12⟩:=nZ h12
 obtain ⟨Zc,rfl,b13⟩:=nZ h13
 obtain ⟨a14,rfl,b14⟩:=nZ Su
 obtain rfl:=oH r14
 exact ⟨⟨a0,a1,a2,a3,a4,a5,a6,a7,a8,a9,a10,a11,a12,Zc,a14⟩,rfl,b0,b1,b2,b3,b4,b5,b6,b7,b8,b9,b10,b11,b12,b13,b14⟩
section
variable {H : Type} {enc : TypeId × Value → H} {w : World} {base : Nat} {spare : Nat → Bool} {held : Bool}
theorem JP {fuel:Nat} {cs:List Value} {x:DataW H × List MemPlace} (h:DataW.trod enc Tryz.prog w base spare held fuel 22 cs=some x) (hz:BZ Tryz.prog 22 x.1):∃ v,∃ xs:List Nat,cs=[v]∧aB w v 1 (xs.map uV)∧(∀ a∈xs,a<18446744073709551616)∧xs.length≤reachBytes:=
 rE (ks:=[.i .u64]) Tryz.underlying22 aw6 aw6 av1 aw6 (fun cs h=>by
  obtain ⟨_,_,rfl,h1,h⟩:=aK h
  obtain rfl:=oH h
  obtain ⟨a,rfl,ha⟩:=nZ h1
  exact ⟨a,rfl,ha⟩) h hz
theorem Ij {fuel:Nat} {t e:TypeId} {p:Option Addr} {n c:Nat} {x:DataW H × List MemPlace} (ht:Tryz.prog.underlying t=some (.slice e)) (h:DataW.trod enc Tryz.prog w base spare held fuel t [.slice p n c]=some x):n≤c:=by
 rcases Go.Deep.open_slice ht h with ⟨hc,_⟩ | ⟨a,len,cap,m,k,D,Pl,hc,hb,hl,hm,hmm,hxx,hx⟩
 ·injection hc with hc
  injection hc with _ h1 h2
  omega
 ·injection hc with hc
  injection hc with _ h1 h2
  omega
theorem open_entries {fuel:Nat} {cs:List Value} {x:DataW H × List MemPlace} (h:DataW.trod enc Tryz.prog w base spare held fuel 74 cs=some x) (hz:BZ Tryz.prog 74 x.1):∃ v,∃ xs:List bg,cs=[v]∧aB w v 14 (xs.map bI)∧(∀ a∈xs,True)∧xs.length≤reachBytes:=
 rE (f:=bI) (q:=fun _=>True) (ks:=[.i .i64,.i .i64,.i .i64,.b,.i .i64,.i .i64,.i .i64,.i .i64,.b,.b,.b,.b,.b,.i .i64]) Tryz.underlying74 aw6 (ay.tH (t:=114) (s:=14) rfl) av1 aw6 (fun cs hc=>RQ hc) h hz
theorem Ik {fuel:Nat} {cs:List Value} {x:DataW H × List MemPlace} (h:DataW.trod enc Tryz.prog w base spare held fuel 75 cs=some x) (hz:BZ Tryz.prog 75 x.1):∃ v,∃ xs:List dB,cs=[v]∧aB w v 4 (xs.map dJ)∧(∀ a∈xs,True)∧xs.length≤reachBytes:=
 rE (f:=dJ) (q:=fun _=>True) (ks:=[.i .i64,.i .i64,.i .i64,.i .i64]) Tryz.underlying75 aw6 (ay.tH (t:=121) (s:=4) rfl) av1 aw6 (fun cs hc=>RS hc) h hz
theorem RU {fuel:Nat} {cs:List Value} {x:DataW H × List MemPlace} (h:DataW.trod enc Tryz.prog w base spare held fuel 77 cs=some x) (hz:BZ Tryz.prog 77 x.1):∃ t:dM,cs=lC t∧(aB w t.ev 14 (t.es.map bI)∧aB w t.dv 4 (t.ds.map dJ)∧t.es.length≤t.ec∧t.es.length≤reachBytes∧t.ds.length≤reachBytes):=by
 obtain ⟨hl,n,hf⟩:=uk Tryz.underlying77 h hz
 rw [jO (show fZ Tryz.prog 77=some 2 from ay.tH rfl)] at hl
 match cs,hl with
 | [c0,c1],_=>
  have c1s:Tryz.prog.cellsOf 74=1:=by kernel_rfl
  have c2s:Tryz.prog.cellsOf 75=1:=by kernel_rfl
  obtain ⟨_,h0,z0⟩:=hf 0 _ rfl
  obtain ⟨_,h1,z1⟩:=hf 1 _ rfl
  simp only [List.getElem_toArray,List.getElem_cons_zero,List.getElem_cons_succ,c1s,c2s,List.drop_zero,List.drop_succ_cons,List.take_succ_cons,List.take_zero] at h0 h1 z0 z1
  obtain ⟨v0,es,e0,s0,_,l0⟩:=open_entries h0 z0
  obtain ⟨v1,ds,e1,s1,_,l1⟩:=Ik h1 z1
  cases e0;cases e1
  obtain ⟨p0,k0,rfl,_,_⟩:=s0.opened
  obtain ⟨p1,k1,rfl,_,_⟩:=s1.opened
  exact ⟨⟨es,ds,p0,k0,p1,k1⟩,rfl,s0,s1,Ij Tryz.underlying74 h0,l0,l1⟩
end
end
section
open Go.ChangeShapes Go.WideShapes Go.ChangeAt Go.RowKit
theorem Vx {cs:List Value} (h:jM [.i .i64,.b,.b,.b,.i .i64,.b] cs=true):∃ e:vg,cs=mM e∧True:=by
 obtain ⟨_,_,rfl,h0,r0⟩:=aK h
 obtain ⟨_,_,rfl,h1,r1⟩:=aK r0
 obtain ⟨_,_,rfl,h2,r2⟩:=aK r1
 obtain ⟨_,_,rfl,h3,r3⟩:=aK r2
 obtain ⟨_,_,rfl,h4,r4⟩:=aK r3
 obtain ⟨_,_,rfl,h5,r5⟩:=aK r4
 obtain ⟨a0,rfl,_⟩:=nS h0
 obtain ⟨a1,rfl⟩:=um h1
 obtain ⟨a2,rfl⟩:=um h2
 obtain ⟨a3,rfl⟩:=um h3
 obtain ⟨a4,rfl,_⟩:=nS h4
 obtain ⟨a5,rfl⟩:=um h5
 obtain rfl:=oH r5
 exact ⟨⟨a0,a1,a2,a3,a4,a5⟩,rfl,trivial⟩
theorem Vy {cs:List Value} (h:jM [.b,.i .i64,.i .i64] cs=true):∃ e:bQ,cs=iK e:=by
 obtain ⟨_,_,rfl,h0,r0⟩:=aK h
 obtain ⟨_,_,rfl,h1,r1⟩:=aK r0
 obtain ⟨_,_,rfl,h2,r2⟩:=aK r1
 obtain ⟨a0,rfl⟩:=um h0
 obtain ⟨a1,rfl,_⟩:=nS h1
 obtain ⟨a2,rfl,_⟩:=nS h2
 obtain rfl:=oH r2
 exact ⟨⟨a0,a1,a2⟩,rfl⟩
section
variable {H : Type} {enc : TypeId × Value → H} {w : World} {base : Nat} {spare : Nat → Bool} {held : Bool}
theorem JQ {fuel:Nat} {cs:List Value} {x:DataW H × List MemPlace} (h:DataW.trod enc Tryz.prog w base spare held fuel 34 cs=some x) (hz:BZ Tryz.prog 34 x.1):∃ v,∃ xs:List vg,cs=[v]∧aB w v 6 (xs.map mM)∧(∀ a∈xs,True)∧xs.length≤reachBytes:=
 rE (f:=mM) (q:=fun _=>True) (ks:=[.i .i64,.b,.b,.b,.i .i64,.b]) Tryz.underlying34 aw6 (ay.tH (t:=51) (s:=6) rfl) av1 aw6 (fun cs hc=>Vx hc) h hz
theorem N9 {fuel:Nat} {cs:List Value} {x:DataW H × List MemPlace} (h:DataW.trod enc Tryz.prog w base spare held fuel 24 cs=some x) (hz:BZ Tryz.prog 24 x.1):∃ v,∃ ws:List Nat,cs=[v]∧tu ws∧aB w v 1 (ws.map uV)∧(∃ q c,v=.slice q ws.length c∧ws.length≤c)∧ws.length≤reachBytes:=by
 obtain ⟨hl,n,hf⟩:=uk Tryz.underlying24 h hz
 rw [jO (show fZ Tryz.prog 24=some 1 from ay.tH rfl)] at hl
 match cs,hl with
 | [c0],_=>
  have s0:Tryz.prog.cellsOf 22=1:=by kernel_rfl
  obtain ⟨_,h0,z0⟩:=hf 0 _ rfl
  simp only [List.getElem_toArray,List.getElem_cons_zero,List.getElem_cons_succ,s0,List.drop_zero,List.drop_succ_cons,List.take_succ_cons,List.take_zero] at h0 z0
  obtain ⟨v,ws,e0,s0,w0,l0⟩:=JP h0 z0
  cases e0
  obtain ⟨p0,k0,rfl,_,_⟩:=s0.opened
  exact ⟨_,ws,rfl,w0,s0,⟨_,_,rfl,Ij Tryz.underlying22 h0⟩,l0⟩
theorem Oa {fuel:Nat} {cs:List Value} {x:DataW H × List MemPlace} (h:DataW.trod enc Tryz.prog w base spare held fuel 31 cs=some x) (hz:BZ Tryz.prog 31 x.1):∃ v,∃ ts:List dM,cs=[v]∧qI w v ts∧(∀ t∈ts,t.es.length≤t.ec∧t.es.length≤reachBytes∧t.ds.length≤reachBytes)∧ts.length≤reachBytes:=by
 obtain ⟨p,xs,cap,rfl,hl,hr⟩:=CX (α:=dM) (R:=fun cs t=>cs=lC t∧(aB w t.ev 14 (t.es.map bI)∧aB w t.dv 4 (t.ds.map dJ)∧t.es.length≤t.ec∧t.es.length≤reachBytes∧t.ds.length≤reachBytes)) Tryz.underlying31 (ay.tH (t:=77) (s:=2) rfl) av1 aw6 (fun n cs x hx hz=>RU hx hz) h hz
 obtain ⟨h1,h2⟩:=CY (f:=lC) (q:=fun t=>aB w t.ev 14 (t.es.map bI)∧aB w t.dv 4 (t.ds.map dJ)∧t.es.length≤t.ec∧t.es.length≤reachBytes∧t.ds.length≤reachBytes) hl hr
 exact ⟨_,xs,rfl,⟨h1,fun t ht=>(h2 t ht).1,fun t ht=>(h2 t ht).2.1⟩,fun t ht=>(h2 t ht).2.2,hl⟩
theorem aC.Fits.ok {r:aC} (h:r.Fits):r.Ok:=by
 obtain ⟨h0,h1,h2,h3,h4,h5,h6,h7,h8,h9,h10,h11,h12,h13,Su⟩:=h
 exact ⟨h0,h1,h2,h3,h4,h5,h6,h7,h8,h9,h10,h11,h12,h13,Su⟩
theorem iT {fuel:Nat} {cs:List Value} {x:DataW H × List MemPlace} (h:DataW.trod enc Tryz.prog w base spare held fuel 36 cs=some x) (hz:BZ Tryz.prog 36 x.1):∃ wv lv pv ws ts ps r cpu two,cs=(lU wv lv pv r cpu two).toList∧lW w wv lv pv ws ts ps r:=by
 obtain ⟨hl,n,hf⟩:=uk Tryz.underlying36 h hz
 rw [jO (show fZ Tryz.prog 36=some 22 from ay.tH rfl)] at hl
 match cs,hl with
 | [c0,c1,c2,c3,c4,c5,c6,c7,c8,c9,c10,c11,c12,c13,c14,c15,c16,c17,c18,c19,c20,c21],_=>
  have s0:Tryz.prog.cellsOf 24=1:=by kernel_rfl
  have s1:Tryz.prog.cellsOf 30=15:=by kernel_rfl
  have s2:Tryz.prog.cellsOf 31=1:=by kernel_rfl
  have s3:Tryz.prog.cellsOf 3=1:=by kernel_rfl
  have s4:Tryz.prog.cellsOf 33=3:=by kernel_rfl
  have s5:Tryz.prog.cellsOf 34=1:=by kernel_rfl
  obtain ⟨_,h0,z0⟩:=hf 0 _ rfl
  obtain ⟨_,h1,z1⟩:=hf 1 _ rfl
  obtain ⟨_,h2,z2⟩:=hf 2 _ rfl
  obtain ⟨_,h3,z3⟩:=hf 3 _ rfl
  obtain ⟨_,h4,z4⟩:=hf 4 _ rfl
  obtain ⟨_,h5,z5⟩:=hf 5 _ rfl
  simp only [List.getElem_toArray,List.getElem_cons_zero,List.getElem_cons_succ,s0,s1,s2,s3,s4,s5,List.drop_zero,List.drop_succ_cons,List.take_succ_cons,List.take_zero] at h0 z0 h1 z1 h2 z2 h3 z3 h4 z4 h5 z5
  obtain ⟨wv,ws,e0,w0,m0,k0,l0⟩:=N9 h0 z0
  obtain ⟨r,e1,r1⟩:=Vw (uj 8 30 [.i .u64,.i .u64,.i .u64,.i .u64,.i .u64,.i .u64,.i .u64,.i .u64,.i .u64,.i .u64,.i .u64,.i .u64,.i .u64,.i .u64,.i .u64] aw6 aw6 _ _ _ h1)
  obtain ⟨lv,ts,e2,t2,b2,l2⟩:=Oa h2 z2
  obtain ⟨k3,e3,_⟩:=DataW.trod_int Tryz.underlying3 h3
  obtain ⟨two,e4⟩:=Vy (uj 8 33 [.b,.i .i64,.i .i64] aw6 aw6 _ _ _ h4)
  obtain ⟨pv,ps,e5,m5,_,l5⟩:=JQ h5 z5
  cases e0;cases e1;cases e2;cases e3;cases e4;cases e5
  exact ⟨_,_,_,ws,ts,ps,r,k3,two,rfl,w0,r1.ok,m0,k0,t2,fun t ht=>(b2 t ht).1,m5,Nat.le_trans l0 av1,Nat.le_trans l2 av1,fun t ht=>⟨Nat.le_trans (b2 t ht).2.1 av1,Nat.le_trans (b2 t ht).2.2 av1⟩,Nat.le_trans l5 av1⟩
end
end
section
attribute [local irreducible] Hy St Ops DH gB iH iq fK DS fA jX
def RV (ws:List Nat) (i:Nat):Nat→List Nat
 | 0=>ws
 | k + 1=>(RV ws i k).set ((3 + i) * 8 + k) (((8 * i + k) <<< 12) ||| 1219)
def BM (ws:List Nat):Nat→List Nat
 | 0=>ws
 | i + 1=>RV ((BM ws i).set (16 + i) (((3 + i) <<< 12) ||| 3)) i 8
def y7 (n:Nat):List Nat:=BM ((((List.replicate (n * 8) 0).set 0 4099).set 8 8195).set 16 12291) 8
theorem BN (ws:List Nat) (i:Nat):∀ k,(RV ws i k).length=ws.length
 | 0=>rfl
 | k + 1=>by rw [RV,List.length_set,BN ws i k]
theorem DY (ws:List Nat):∀ i,(BM ws i).length=ws.length
 | 0=>rfl
 | i + 1=>by rw [BM,BN,List.length_set,DY ws i]
theorem JR (b m:Nat) (hm:m≤65536):Own 25 1 (.slice (some ⟨b,0,none⟩) m m) [⟨b,madeCells (Value.int .u64 0).cells (m * 1),25⟩] ((List.replicate m 0).map uV):=by
 rw [show madeCells (Value.int .u64 0).cells (m * 1)=((List.replicate m [Value.int .u64 0]).flatten).toArray from CZ [.int .u64 0] m 1 rfl av1]
 exact rJ b m _ (by rw [List.map_replicate];rfl) rfl (yj _) av4 av4 ay'
theorem Vz (n:Nat) (h1:11≤n) (h2:n≤64) (w:World):Fn Tryz.prog 30 [.int .i64 (n:Nat)].toArray w [] (fun u hn=>∃ v h,u=.agg #[v]∧Own 25 1 v h ((y7 n).map uV)∧aF h hn):=by
 refine enter Tryz.func30 ?_
 refine run ?_
 intro B
 refine run ?_
 rw [show (n:Int) * 8=((n * 8:Nat):Int) by omega]
 refine make (m:=n * 8) (fun M=>?_) au'
 have hO0:=JR M (n * 8) au'
 obtain ⟨JS,hc0⟩:∃ c,c=madeCells (Value.int .u64 0).cells (n * 8 * 1):=⟨_,rfl⟩
 rw [← hc0] at hO0 ⊢
 refine run ?_
 intro X
 obtain ⟨s1,_,_,sO⟩:=hO0.Qg (k:=0) (by rw [List.length_replicate];omega)
 have sO:=sO 4099
 obtain ⟨s2,_,_,hO2⟩:=sO.Qg (k:=8) (by rw [List.length_set,List.length_replicate];omega)
 have hO2:=hO2 8195
 obtain ⟨s3,_,_,hO3⟩:=hO2.Qg (k:=16) (by rw [List.length_set,List.length_set,List.length_replicate];omega)
 have hO3:=hO3 12291
 refine dN 12 7 [0,1,2,3,4,5,6,8,10] [7,9,11] [⟨X,#[.slice (some ⟨M,0,none⟩) (n * 8) (n * 8)],24⟩] ?_
 refine dh ?_
 refine qg (b:=M) (tb:=25) (cs:=JS) (cs':=JS.setIfInBounds 0 (.int .u64 (4099:Nat))) (hp':=[⟨X,#[.slice (some ⟨M,0,none⟩) (n * 8) (n * 8)],24⟩,⟨B,#[.slice none 0 0],24⟩]) ?_ (hput:=rfl) (hperm:=p1)
 refine qg (b:=M) (tb:=25) (cs:=JS.setIfInBounds 0 (.int .u64 (4099:Nat))) (cs':=(JS.setIfInBounds 0 (.int .u64 (4099:Nat))).setIfInBounds 8 (.int .u64 (8195:Nat))) (hp':=[⟨X,#[.slice (some ⟨M,0,none⟩) (n * 8) (n * 8)],24⟩,⟨B,#[.slice none 0 0],24⟩]) ?_ (hput:=rfl) (hperm:=p0)
 refine qg (b:=M) (tb:=25) (cs:=(JS.setIfInBounds 0 (.int .u64 (4099:Nat))).setIfInBounds 8 (.int .u64 (8195:Nat))) (cs':=((JS.setIfInBounds 0 (.int .u64 (4099:Nat))).setIfInBounds 8 (.int .u64 (8195:Nat))).setIfInBounds 16 (.int .u64 (12291:Nat))) (hp':=[⟨X,#[.slice (some ⟨M,0,none⟩) (n * 8) (n * 8)],24⟩,⟨B,#[.slice none 0 0],24⟩]) ?_ (hput:=rfl) (hperm:=p0)
 refine aH ?_
 refine di ?_
 have hl0:((((List.replicate (n * 8) 0).set 0 4099).set 8 8195).set 16 12291).length=n * 8:=by rw [List.length_set,List.length_set,List.length_set,List.length_replicate]
 obtain ⟨W0,hW0⟩:∃ W0,W0=(((List.replicate (n * 8) 0).set 0 4099).set 8 8195).set 16 12291:=⟨_,rfl⟩
 unfold y7
 rw [← hW0] at hO3 hl0 ⊢
 generalize ((JS.setIfInBounds 0 (.int .u64 (4099:Nat))).setIfInBounds 8 (.int .u64 (8195:Nat))).setIfInBounds 16 (.int .u64 (12291:Nat))=ai4 at hO3 ⊢
 clear hO0 sO hO2 s1 s2 s3 hc0
 refine run ?_
 refine cO (σ:=Nat × Array Value) (fun s=>[(4,.int .i64 (s.1:Int))]) (fun s=>⟨M,s.2,25⟩::[⟨X,#[.slice (some ⟨M,0,none⟩) (n * 8) (n * 8)],24⟩,⟨B,#[.slice none 0 0],24⟩]) (fun s=>s.1≤8∧Own 25 1 (.slice (some ⟨M,0,none⟩) (n * 8) (n * 8)) [⟨M,s.2,25⟩] ((BM W0 s.1).map uV)) (fun s=>8 - s.1) (0,ai4) ⟨Nat.zero_le _,hO3⟩ ?_
 rintro ⟨i,cur⟩ m hm ⟨hi,hO⟩
 dsimp only at hm hi hO ⊢
 refine run ?_
 refine aj _ rfl (fun hc=>?_) (fun hc=>?_)
 ·have hlt:i<8:=by simp at hc;omega
  have hlW:=DY W0 i
  refine run ?_
  rw [show (3:Int) + (i:Int)=((3 + i:Nat):Int) by omega,show (16:Int) + (i:Int)=((16 + i:Nat):Int) by omega]
  refine eH av2 (mF rfl rfl (3 + i) 12 rfl rfl av1) ?_
  rw [show (3 + i) <<< 12 % 18446744073709551616=(3 + i) <<< 12 from Nat.mod_eq_of_lt av']
  refine run ?_
  refine eH av2 (uu rfl rfl ((3 + i) <<< 12) 3 rfl rfl av' av1) ?_
  obtain ⟨s1,_,_,sO⟩:=hO.Qg (k:=16 + i) (by rw [hlW,hl0];omega)
  have sO:=sO (((3 + i) <<< 12) ||| 3)
  refine run ?_
  obtain ⟨Wi,hWi⟩:∃ Wi,Wi=(BM W0 i).set (16 + i) (((3 + i) <<< 12) ||| 3):=⟨_,rfl⟩
  rw [← hWi] at sO
  have ai6:Wi.length=n * 8:=by rw [hWi,List.length_set,hlW,hl0]
  refine cO (σ:=Nat × Array Value) (fun s=>[(5,.int .i64 (s.1:Int))]) (fun s=>⟨M,s.2,25⟩::[⟨X,#[.slice (some ⟨M,0,none⟩) (n * 8) (n * 8)],24⟩,⟨B,#[.slice none 0 0],24⟩]) (fun s=>s.1≤8∧Own 25 1 (.slice (some ⟨M,0,none⟩) (n * 8) (n * 8)) [⟨M,s.2,25⟩] ((RV Wi i s.1).map uV)) (fun s=>8 - s.1) (0,_) ⟨Nat.zero_le _,sO⟩ ?_
  rintro ⟨k,ai7⟩ m2 hm2 ⟨hk,hO2⟩
  dsimp only at hm2 hk hO2 ⊢
  have hl2:=BN Wi i k
  refine run ?_
  refine aj _ rfl (fun hc2=>?_) (fun hc2=>?_)
  ·have hlt2:k<8:=by simp at hc2;omega
   obtain ⟨s2,_,_,hO3⟩:=hO2.Qg (k:=(3 + i) * 8 + k) (by rw [hl2,ai6];omega)
   have hO3:=hO3 (((8 * i + k) <<< 12) ||| 1219)
   refine run ?_
   rw [show (8:Int) * (i:Int) + (k:Int)=((8 * i + k:Nat):Int) by omega,show ((3:Int) + (i:Int)) * 8 + (k:Int)=(((3 + i) * 8 + k:Nat):Int) by omega]
   refine eH av2 (mF rfl rfl (8 * i + k) 12 rfl rfl av1) ?_
   rw [show (8 * i + k) <<< 12 % 18446744073709551616=(8 * i + k) <<< 12 from Nat.mod_eq_of_lt av']
   refine run ?_
   refine eH av2 (uu rfl rfl ((8 * i + k) <<< 12) 1219 rfl rfl av' av1) ?_
   refine run ?_
   exact bH (k + 1,_) ⟨hlt2,hO3⟩
  ·have hge:k=8:=by simp at hc2;omega
   subst hge
   refine run ?_
   exact bH (i + 1,ai7) ⟨hlt,by rw [BM,← hWi];exact hO2⟩
 ·have hge:i=8:=by simp at hc;omega
  subst hge
  refine run ?_
  exact gK (cs:=#[.slice (some ⟨M,0,none⟩) (n * 8) (n * 8)]) ⟨_,_,rfl,hO,by (exact ak)⟩
theorem VA (ws:List Nat) (at_ size:Nat) (h:yh ws at_ size) (p:Option Addr) (cap:Nat) (w:World):Fn Tryz.prog 53 [.agg #[.slice p ws.length cap],.int .i64 (at_:Nat),.int .i64 (size:Nat)].toArray w [] (fun u _=>u=.int .i64 0):=by
 obtain ⟨h1,h2,h3,h4,h5,h6⟩:=h
 have hg:(!decide ((size:Int)=1) && !decide ((size:Int)=2) && !decide ((size:Int)=4) && !decide ((size:Int)=8))=false:=by
  rcases h5 with rfl | rfl | rfl | rfl<;>rfl
 refine enter Tryz.func53 ?_
 refine run ?_
 intro B
 refine az ?_
 rw [hg]
 refine aX ?_
 refine aj _ rfl (fun hc=>absurd hc aw0) (fun _=>?_)
 refine run ?_
 refine eH av2 (fP rfl rfl at_ size rfl rfl au') ?_
 rw [h6]
 refine aX ?_
 exact fin1 rfl
def kQ (ws:List Nat) (f:Nat) (l:List bG):Nat→List Nat
 | 0=>ws
 | k + 1=>gJ (kQ ws f l k) (f * 64 + 4 * k) 4 (l.getD k default).wd
theorem DZ (ws:List Nat) (f:Nat) (l:List bG):∀ k,(kQ ws f l k).length=ws.length
 | 0=>rfl
 | k + 1=>by rw [kQ,gJ,List.length_set,DZ ws f l k]
theorem BO {ws:List Nat} (h:tu ws) (f:Nat) (l:List bG):∀ k,tu (kQ ws f l k)
 | 0=>h
 | k + 1=>DL (BO h f l k)
theorem Yf (ws:List Nat) (hw:tu ws) (hm:dQ ws.length=true) (f:Nat) (l:List bG) (h0:0<l.length) (ar1:l.length≤200) (hmay:∀ x∈l,x.may=true) (hin:f * 64 + 4 * l.length≤8 * ws.length) {p:Option Addr} {cap:Nat} {iv:Value} {w:World} (hs:aB w (.slice p ws.length cap) 1 (ws.map uV)) (hl:aB w iv 5 (l.map Iu)):
  Fn Tryz.prog 29 [.agg #[.slice p ws.length cap],.int .i64 (f:Nat),iv].toArray w [] (fun u hn=>∃ v h,u=.agg #[v]∧Own 25 1 v h ((kQ ws f l l.length).map uV)∧aF h hn):=by
 obtain ⟨q,c,rfl,hne,_⟩:=id hl.opened
 have BV:=bD hm
 refine enter Tryz.func29 ?_
 refine run ?_
 intro B
 refine run ?_
 intro R
 refine run ?_
 refine cO (σ:=Nat × Value × Hp) (fun s=>[(7,.int .i64 (s.1:Int))]) (fun s=>⟨R,#[.slice none 0 0],24⟩::⟨B,#[s.2.1],24⟩::s.2.2) (fun s=>s.1≤l.length∧((s.1=0∧s.2.1=.slice p ws.length cap)∨Own 25 1 s.2.1 s.2.2 ((kQ ws f l s.1).map uV))) (fun s=>l.length - s.1) (0,.slice p ws.length cap,[]) ⟨Nat.zero_le _,.inl ⟨rfl,rfl⟩⟩ ?_
 rintro ⟨k,v,h⟩ m hm2 ⟨hk,hO⟩
 dsimp only at hm2 hk hO ⊢
 have hlk:=DZ ws f l k
 have hwk:=BO hw f l k
 obtain ⟨q2,c2,hv⟩:∃ q2 c2,v=.slice q2 (kQ ws f l k).length c2:=by
  rcases hO with ⟨rfl,rfl⟩ | hO
  ·exact ⟨_,_,rfl⟩
  ·obtain ⟨q2,c2,e⟩:=hO.opened
   rw [List.length_map] at e
   exact ⟨q2,c2,e⟩
 subst hv
 have hrd:∀ wc hp,Good w [] hp wc→(∀ e∈h,e∈hp)→aB wc (.slice q2 (kQ ws f l k).length c2) 1 ((kQ ws f l k).map uV):=fun wc hp hG hin=>by
  rcases hO with ⟨rfl,e⟩ | hO
  ·rw [e];exact hs.good hG
  ·exact hO.lie (fun e he=>hG.here e (hin e he)) av3
 refine az ?_
 refine aj _ rfl (fun hc=>?_) (fun hc=>?_)
 ·have hlt:k<l.length:=by simp at hc;omega
  obtain ⟨b,o,rfl⟩:=hne aw7
  have hr2:=hl.row hlt
  have hx:=hmay _ (getD_mem hlt)
  have hpl:yh (kQ ws f l k) (f * 64 + 4 * k) 4:=⟨hwk,by rw [hlk];simp only [dQ,Bool.and_eq_true,decide_eq_true_eq] at hm;omega,by rw [hlk];omega,by rw [hlk];omega,.inr (.inr (.inl rfl)),by omega⟩
  have hck:kQ ws f l (k + 1)=gJ (kQ ws f l k) (f * 64 + 4 * k) 4 (l.getD k default).wd:=rfl
  generalize l.getD k default=x at hr2 hx hck
  have hF:=bG.Aa hx
  have hwl:=bG.QG hF
  refine az ?_
  refine ax (fun wc hG=>KH x wc) ?_
  rw [hx]
  refine az ?_
  have e64:((f:Int) * 64 + 4 * (k:Int))=((f * 64 + 4 * k:Nat):Int):=by omega
  rw [e64]
  refine aZ (fun _ wc hG=>VA (kQ ws f l k) (f * 64 + 4 * k) 4 hpl _ _ wc) ?_
  refine az ?_
  refine aj _ rfl (fun _=>?_) (fun hc=>absurd hc av4)
  refine run ?_
  refine iR 13 [0,1,2,3,4,5,6,7,8,9,10,11] [12] [] [] [13] ?_
  refine fB ?_
  refine AZ (fun wc hx hG=>yV x hF wc) ?_
  refine jC av2 (fun hx=>zK (p:=((x.wd:Nat):Int)) ay rfl rfl rfl au' au') ?_
  refine fB ?_
  rw [e64]
  refine iW (fun wc hG=>H6 (kQ ws f l k) (f * 64 + 4 * k) 4 x.wd hpl (by unfold gq;omega) (hrd wc _ hG (fun e he=>by simp [he]))) ?_ ?_
  ·obtain ⟨a1,b1,o1⟩:=fF (e:=25) (xs:=(gJ (kQ ws f l k) (f * 64 + 4 * k) 4 x.wd).map uV) (yj _) (by rw [List.length_map,gJ,List.length_set,hlk];omega)
   exact ⟨_,_,a1,b1,rfl,o1,aF.refl _⟩
  refine gZ ?_
  rintro u hn ⟨v',h',rfl,g1,hle3⟩
  refine fC ?_
  refine fC ?_
  simp only [DN,List.cons_append,List.nil_append,List.append_nil]
  obtain ⟨q1,c1,e1⟩:=g1.opened
  rw [List.length_map] at e1
  subst e1
  refine qg (b:=B) (tb:=24) (cs:=#[.slice q2 (kQ ws f l k).length c2]) (cs':=#[.slice q1 (gJ (kQ ws f l k) (f * 64 + 4 * k) 4 x.wd).length c1]) (hp':=hn++(⟨R,#[.slice none 0 0],24⟩::h)) ?_ (hput:=rfl) (hperm:=by (exact au))
  refine aH ?_
  refine di ?_
  refine aJ (⟨R,#[.slice none 0 0],24⟩::⟨B,#[.slice q1 (gJ (kQ ws f l k) (f * 64 + 4 * k) 4 x.wd).length c1],24⟩::h') (cnt1 hle3) ?_
  refine run ?_
  rw [← hck]
  exact bH (k + 1,.slice q1 (kQ ws f l (k + 1)).length c1,h') ⟨hlt,.inr (by rw [hck];exact g1)⟩ (h2:=by (exact ak))
 ·have hge:k=l.length:=by simp at hc;omega
  subst hge
  have hO':=hO.resolve_left au'
  refine run ?_
  exact gK (cs:=#[.slice q2 (kQ ws f l l.length).length c2]) ⟨_,h,rfl,hO',by (exact ak)⟩
end
section
def EoD (P:Program) (n:Nat) (w0:World) (mu:List Nat) (all:Array Oper) (ds:List (Nat × Nat)) (l:Fm) (hp:Hp) (bC:Fm) (kd:Nat→Kd) (val:Ch→Nat→Value) (k i:Nat) (o:Oper) (R:RT):Prop:=
 wL P n w0 mu all (aA ds bC o.after.toList++l) hp o R∨∃ m Rm,m<k∧kd m=.e Rm∧(∀ c,val c m=(c m).1)∧Region.waitsFor .any all i m=true∧∀ v hn,Rm v hn→wL P n w0 mu all (aA ds ((m,v)::bC) o.after.toList++l) (hn++hp) o R
def vK (P:Program) (n:Nat) (w0:World) (mu:List Nat) (all:Array Oper) (ds:List (Nat × Nat)) (l:Fm) (hp:Hp) (iv:Fm) (X:List (Nat × RT)→Prop):List Nat→List (Nat × RT)→Prop
 | [],Rs=>X Rs
 | i::E,Rs=>∃ o R,all[i]?=some o∧(wL P n w0 mu all (aA ds iv o.after.toList++l) hp o R∨∃ m Rm,lk Rs m=some Rm∧Region.waitsFor .any all i m=true∧∀ v hn,Rm v hn→wL P n w0 mu all (aA ds ((m,v)::iv) o.after.toList++l) (hn++hp) o R)∧(∃ v hn,R v hn)∧vK P n w0 mu all ds l hp iv X E ((i,R)::Rs)
theorem RX {kd:Nat→Kd} {c:Ch} {listed:Array Bool} {m:Nat} (he:qO (kd m)=true) (hl:listed.getD m false=true):∀ k,m<k→∃ hx,(iY kd c listed k).Perm (hx++(c m).2):=by
 intro k
 induction k with
 | zero=>intro h;omega
 | succ k ih=>
  intro h
  simp only [iY]
  by_cases hmk:m=k
  ·subst hmk
   refine ⟨iY kd c listed m,?_⟩
   rw [show kH kd c listed m=(c m).2 by unfold kH;rw [he,hl];rfl]
   exact List.perm_append_comm
  ·obtain ⟨hx,hp⟩:=ih au'
   exact ⟨kH kd c listed k++hx,by rw [List.append_assoc];exact hp.append_left _⟩
section
variable {P : Program} {n : Nat} {w0 : World} {mu : List Nat} {l : Fm} {hp : Hp} {all : Array Oper} {ds : List (Nat × Nat)}
theorem RY {iv:Fm} {X:List (Nat × RT)→Prop}:∀ (E:List Nat) (Rs:List (Nat × RT)),E.Nodup→(∀ i∈E,lk Rs i=none)→vK P n w0 mu all ds l hp iv X E Rs →
  (∀ i R,(i,R)∈Rs→lk Rs i=some R∧∃ o,all[i]?=some o∧(wL P n w0 mu all (aA ds iv o.after.toList++l) hp o R∨∃ m Rm,lk Rs m=some Rm∧Region.waitsFor .any all i m=true∧∀ v hn,Rm v hn→wL P n w0 mu all (aA ds ((m,v)::iv) o.after.toList++l) (hn++hp) o R)∧∃ v hn,R v hn) →
  ∃ RE,X RE∧(∀ i,(∃ R,lk RE i=some R)↔i∈E∨∃ R,lk Rs i=some R)∧∀ i R,(i,R)∈RE→lk RE i=some R∧∃ o,all[i]?=some o∧(wL P n w0 mu all (aA ds iv o.after.toList++l) hp o R∨∃ m Rm,lk RE m=some Rm∧Region.waitsFor .any all i m=true∧∀ v hn,Rm v hn→wL P n w0 mu all (aA ds ((m,v)::iv) o.after.toList++l) (hn++hp) o R)∧∃ v hn,R v hn:=by
 intro E
 induction E with
 | nil=>intro Rs _ _ h hs;exact ⟨Rs,h,fun i=>by simp,hs⟩
 | cons i E ih=>
  rintro Rs hnd hno ⟨o,R,ho,hy,yG,h⟩ hs
  rw [List.nodup_cons] at hnd
  have hi:=hno i (List.mem_cons_self ..)
  have hmo:∀ m Rm,lk Rs m=some Rm→lk ((i,R)::Rs) m=some Rm:=fun m Rm hm=>by
   rw [bM,if_neg (by rintro rfl;rw [hi] at hm;cases hm)];exact hm
  obtain ⟨RE,hX,hk,hs2⟩:=ih ((i,R)::Rs) hnd.2 (fun j hj=>by rw [bM,if_neg ay3];exact hno j (List.mem_cons_of_mem _ hj)) h (fun j R' hj=>by
   rcases List.mem_cons.1 hj with hj | hj
   ·cases hj
    refine ⟨by rw [bM,if_pos rfl],o,ho,?_,yG⟩
    rcases hy with hy | ⟨m,Rm,h1,h2⟩
    ·exact .inl hy
    ·exact .inr ⟨m,Rm,hmo m Rm h1,h2⟩
   ·obtain ⟨h1,o',h2,hy',h3⟩:=hs j R' hj
    refine ⟨hmo j R' h1,o',h2,?_,h3⟩
    rcases hy' with hy | ⟨m,Rm,h1,h2⟩
    ·exact .inl hy
    ·exact .inr ⟨m,Rm,hmo m Rm h1,h2⟩)
  refine ⟨RE,hX,fun j=>?_,hs2⟩
  rw [hk,List.mem_cons,bM]
  by_cases hij:i=j
  ·subst hij;simp
  ·rw [if_neg hij]
   constructor
   ·rintro (h | h)
    ·exact .inl (.inr h)
    ·exact .inr h
   ·rintro ((h | h) | h)
    ·exact absurd h.symm hij
    ·exact .inl h
    ·exact .inr h
theorem Ob {iv:Fm} {X Y:List (Nat × RT)→Prop}:∀ (E:List Nat) (Rs:List (Nat × RT)) (Ir:∀ zQ,zQ.map (·.1)=E.reverse++Rs.map (·.1)→X zQ→Y zQ),vK P n w0 mu all ds l hp iv X E Rs→vK P n w0 mu all ds l hp iv Y E Rs:=by
 intro E
 induction E with
 | nil=>intro Rs Ir h;exact Ir Rs av4 h
 | cons i E ih=>
  rintro Rs Ir ⟨o,R,h1,h2,h3,h4⟩
  exact ⟨o,R,h1,h2,h3,ih _ (fun zQ e=>Ir zQ (by rw [e];simp)) h4⟩
end
section
variable {P : Program} {n : Nat} {w0 : World} {mu : List Nat} {l : Fm} {hp : Hp} {Q : Exit → Fm → Hp → Prop} {all : Array Oper} {kd : Nat → Kd} {val : Ch → Nat → Value} {k : Nat}
theorem JU {ds:List (Nat × Nat)} (hds:∀ k d,lk ds k=some d→aQ all k=some d) {g:Nat} {Q':Exit→Act→World→Prop} (hk:k≤all.size) (hd:vz all k n=true) (hf:bu l (dstsOf all k)=true) (hback:lH all=true)
  (hS:∀ i o v,i<k→all[i]?=some o→kd i=.s v→(∀ c,val c i=v)∧∃ bC,(∀ j u,look bC j=some u→j<k∧∀ c,val c j=u)∧∀ hx,pz P n w0 mu all (aA ds bC o.after.toList++l) (hx++hp) o v)
  (hE:∀ i o R,i<k→all[i]?=some o→kd i=.e R→(∀ c,val c i=(c i).1)∧∃ bC,(∀ j u,look bC j=some u→j<k∧∀ c,val c j=u)∧EoD P n w0 mu all ds l hp bC kd val k i o R)
  (hD:∀ c,Valid kd k c→∀ i o,i<k→all[i]?=some o→kd i=.d→∃ bC,(∀ j u,look bC j=some u→j<k∧val c j=u)∧zh P n w0 mu (aA ds bC o.after.toList++l) hp o (val c i))
  (htail:∀ f c listed,leftOf k listed=f→HeadInv .any all k listed→(∀ i,i<k→qO (kd i)=true→listed.getD i true=true)→∀ a w,sS n w0 mu all l hp kd val k c listed a w→wpAny P .any all Q' (f + g) listed a w)
  (jW:∀ listed,HeadInv .any all k listed→∀ i,i<k→qO (kd i)=true→listed.getD i true=false→∀ t,k≤t→t ∉ Region.ready .any all listed):
  ∀ f c listed a w,leftOf k listed=f→HeadInv .any all k listed→sS n w0 mu all l hp kd val k c listed a w→wpAny P .any all Q' (f + g) listed a w:=by
 intro f
 induction f with
 | zero=>
  intro c listed a w hlf inv hm
  refine htail 0 c listed hlf inv (fun i hi _=>?_) a w hm
  cases hc:listed.getD i true with
  | true=>rfl
  | false=>
   exfalso
   have:i∈(List.range k).filter fun i=>!listed.getD i true:=List.mem_filter.2 ⟨List.mem_range.2 hi,by simp only [hc,Bool.not_false]⟩
   have h2:=List.length_pos_of_mem this
   unfold leftOf at hlf
   omega
 | succ f ih=>
  intro c listed a w hlf inv hm
  by_cases lN:∀ i,i<k→qO (kd i)=true→listed.getD i true=true
  ·exact htail (f + 1) c listed hlf inv lN a w hm
  obtain ⟨i0,jF,Xb,hi0⟩:∃ i,i<k∧qO (kd i)=true∧listed.getD i true=false:=by
   refine Classical.byContradiction fun hno=>lN fun i hi he=>?_
   cases hc:listed.getD i true with
   | true=>rfl
   | false=>exact absurd ⟨i,hi,he,hc⟩ hno
  rw [show f + 1 + g=(f + g) + 1 by omega]
  refine ⟨fun hnil=>?_,fun i hi=>?_⟩
  ·exfalso
   obtain ⟨i,⟨hik,hil⟩,hmin⟩:=exists_least (p:=fun i=>i<k∧listed.getD i true=false) ⟨i0,jF,hi0⟩
   have hr:i∈Region.ready .any all listed:=by
    rw [mem_ready]
    have hs:i<all.size:=by omega
    refine ⟨hil,all[i],by simp [hs],fun e he hb=>?_⟩
    have hb2:=List.all_eq_true.1 hback i (List.mem_range.2 hs)
    simp only [Array.getElem?_eq_getElem hs] at hb2
    have hb3:=(Array.all_eq_true_iff_forall_mem.1 hb2) e he
    simp only [hb,Bool.not_true,Bool.false_or,Nat.blt_eq] at hb3
    cases hc:listed.getD e.on false with
    | true=>rfl
    | false=>
     have h5:=hmin e.on ⟨by omega,getD_in av7 hc⟩
     omega
   rw [hnil] at hr;cases hr
  ·have hik:i<k:=by
    rcases Nat.lt_or_ge i k with h | h
    ·exact h
    ·exact absurd hi (jW listed inv i0 jF Xb hi0 i h)
   obtain ⟨hun,o,ho,hall⟩:=mem_ready.1 hi
   have hsz:i<listed.size:=by rw [inv.size];omega
   have hself:∀ j,j<k→listed.getD j false=true→qO (kd j)=true→c j=c j:=fun _ _ _ _=>rfl
   have hgo:∀ c2 a' w',sS n w0 mu all l hp kd val k c2 (listed.setIfInBounds i true) a' w'→wpAny P .any all Q' (f + g) (listed.setIfInBounds i true) a' w':=fun c2 a' w' h=>
    ih c2 _ _ _ ax0 (inv.set hi hik) h
   have uf:Good w0 mu hp w:=hm.good.sub (List.sublist_append_right _ _)
   unfold wpOp
   simp only [ho]
   cases hkd:kd i with
   | s v=>
    obtain ⟨pq,bC,hiv,hy⟩:=hS i o v hik ho hkd
    have hkn:=dF (i:=i) hds hm hm.valid hself (fun j u hu=>⟨(hiv j u hu).1,(hiv j u hu).2 c⟩) hall
    have hE0:qO (kd i)=false:=by rw [hkd];rfl
    have hnext:∀ w',Good w0 mu (iY kd c listed k++hp) w'→wpAny P .any all Q' (f + g) (listed.setIfInBounds i true) (a.put o.dst v) w':=fun w' hG'=>
     hgo c _ _ (iJ hm ho hik hun hsz hd hf hm.valid (fun _ _=>rfl) aA5 (fun c' _ _=>pq c'))
    have h3:=hy (iY kd c listed k)
    unfold pz at h3
    cases hg:o.guard with
    | none=>
     rw [hg] at h3
     rw [if_pos aw2]
     exact .inl (h3 a w hkn hm.good _ _ hnext)
    | some jw=>
     obtain ⟨j,want⟩:=jw
     rw [hg] at h3
     obtain ⟨dj,c0,b,u,hj,hb,hdj,hy,hvv⟩:=h3
     have hw:=gY hkn hg hj hb hdj
     cases hc:(c0 && jg b want) with
     | true=>
      rw [hc] at hw hvv
      rw [if_pos hw]
      rw [Bool.and_eq_true] at hc
      rw [show v=u from hvv] at hnext
      exact .inl (hy hc.1 hc.2 a w hkn hm.good _ _ hnext)
     | false=>
      rw [hc] at hw hvv
      rw [if_neg ax7]
      rw [show v=undef from hvv] at hnext
      exact hnext w hm.good
   | e R=>
    obtain ⟨pq,bC,hiv,hed⟩:=hE i o R hik ho hkd
    have hwl:∀ t,Region.waitsFor .any all i t=true→listed.getD t false=true:=fun t ht=>by
     obtain ⟨oj,h6,e,he,hb,heq⟩:=Region.waitsFor_spec ht
     rw [ho] at h6;cases h6
     rw [← heq]
     exact hall e he hb
    obtain ⟨hg,hy⟩:Region.wanted o (yielded all a.tmps)=true∧∀ (K:Act→World→Prop) (Q:Exit→Act→World→Prop),(∀ v hn w',R v hn→Good w0 mu (hn++(iY kd c listed k++hp)) w'→K (a.put o.dst v) w')→o.wp P a w K Q:=by
     rcases hed with ⟨hg,hy⟩ | ⟨m,Rm,hmk,hkm,hvm,hwm,hy⟩
     ·have hkn:=dF (i:=i) hds hm hm.valid hself (fun j u hu=>⟨(hiv j u hu).1,(hiv j u hu).2 c⟩) hall
      exact ⟨hg _ hkn,fun K Q h=>hy a w _ hkn hm.good K Q h⟩
     ·have hRm:=hm.valid m hmk Rm hkm
      obtain ⟨hg,hy⟩:=hy _ _ hRm
      have hkn:=dF (bC:=(m,(c m).1)::bC) (i:=i) hds hm hm.valid hself (fun j u hu=>by
       rw [eu,bM] at hu
       by_cases hmj:m=j
       ·subst hmj
        rw [if_pos rfl] at hu
        cases hu
        exact ⟨hmk,hvm c⟩
       ·rw [if_neg hmj,← eu] at hu
        exact ⟨(hiv j u hu).1,(hiv j u hu).2 c⟩) hall
      obtain ⟨hx,hpx⟩:=RX (kd:=kd) (c:=c) (listed:=listed) (m:=m) (by rw [hkm];rfl) (hwl m hwm) k hmk
      refine ⟨hg _ hkn,fun K Q h=>hy a w hx hkn (hm.good.perm (by rw [← List.append_assoc];exact (hpx.append_right _).symm)) K Q fun v hn w' hR hG'=>h v hn w' hR (hG'.perm (List.Perm.append_left _ (by rw [← List.append_assoc];exact hpx.append_right _)))⟩
    rw [if_pos hg]
    refine .inl (hy _ _ fun v hn w' hR hG'=>?_)
    refine hgo (fun t=>if t=i then (v,hn) else c t) _ _ (iJ hm ho hik hun hsz hd hf ?_ (fun j hj=>by simp [hj]) ?_ ?_)
    ·intro j hj R' hR'
     by_cases hji:j=i
     ·subst hji
      rw [hkd] at hR'
      cases hR'
      simpa using hR
     ·simp only [hji,if_false]
      exact hm.valid j hj R' hR'
    ·refine hG'.perm ?_
     rw [← List.append_assoc]
     exact (xw az5 hun hsz k hik).symm.append_right _
    ·intro c' hc' hag
     rw [pq c',hag i hik (by simp [hsz]) az5]
     simp
   | d=>
    obtain ⟨bC,hiv,hg,hy⟩:=hD c hm.valid i o hik ho hkd
    have hE0:qO (kd i)=false:=by rw [hkd];rfl
    have hkn:=dF (i:=i) hds hm hm.valid hself hiv hall
    have hrun:=hy a w hkn uf
    rw [if_pos aw2]
    refine .inl ?_
    unfold Oper.wp
    rw [hrun]
    refine hgo c _ _ (iJ hm ho hik hun hsz hd hf hm.valid (fun _ _=>rfl) az9 (fun c' hc' hag=>?_))
    obtain ⟨jl,qV,hg2,hy2⟩:=hD c' hc' i o hik ho hkd
    have hag':∀ j,j<k→listed.getD j false=true→qO (kd j)=true→c' j=c j:=fun j hj hl he=>hag j hj (getD_set_true hl) he
    have hrun2:=hy2 a w (dF (i:=i) hds hm hc' hag' qV hall) uf
    rw [hrun] at hrun2
    simp only [Result.ok.injEq,Next.value.injEq,and_true] at hrun2
    exact hrun2.symm
end
section
variable {P : Program} {n : Nat} {w0 : World} {mu : List Nat} {l : Fm} {hp : Hp} {Q : Exit → Fm → Hp → Prop} {ds : List (Nat × Nat)}
theorem JV {ops:List Oper} (k:Nat) (S E D D2 C:List Nat) (hB:mW ops.toArray n k S E D D2 C=true) (hf:bu l (dstsOf ops.toArray ops.toArray.size)=true) (hf1:bu l (dstsOf ops.toArray k)=true) (hsp:splitB k S E D=true) (hds:bP ops 0=ds)
  (h:iH P n w0 mu ops.toArray ds l hp (fun aG=>vK P n w0 mu ops.toArray ds l hp aG (fun Rs=>∀ c,zx c Rs→fK P n w0 mu ops.toArray ds l [] (fun Gx=>fK P n w0 mu ops.toArray ds l [] (fun jl=>fA P n w0 mu ops.toArray ds l [] jl (fun aN hc=>Ops P n w0 mu ops.toArray [] (aY ds (aN++jl)++l) hc Q) C [] (sZ E c k++hp)) D2 Gx) D (sJ c Rs++aG)) E []) S []):lq P n w0 mu ops.toArray l hp Q:=by
 intro a w hk hG
 simp only [splitB,Bool.and_eq_true,decide_eq_true_eq] at hsp
 obtain ⟨⟨⟨_,hnd⟩,hlt⟩,hcov⟩:=hsp
 have hlt':∀ i∈S++E++D,i<k:=fun i hi=>by have:=List.all_eq_true.1 hlt i hi;simpa using this
 have lu:∀ i,i<k→i∈S∨i∈E∨i∈D:=fun i hi=>by
  have:=bV (List.all_eq_true.1 hcov i (List.mem_range.2 hi))
  simpa [or_assoc] using this
 rw [List.append_assoc,List.nodup_append] at hnd
 obtain ⟨wz,ug,O5⟩:=hnd
 rw [List.nodup_append] at ug
 obtain ⟨yH,Ej,WE⟩:=ug
 obtain ⟨aG,h2,Gj,nP,hsS⟩:=zN S [] wz (fun _ _=>rfl) (fun _ _ h=>by cases h) h (fun i v hv=>by cases hv)
 obtain ⟨Rs,h3,nR,hsE⟩:=RY E [] yH (fun _ _=>rfl) h2 (fun i R hR=>by cases hR)
 simp only [lk,reduceCtorEq,exists_false,or_false] at nP nR
 have yx:∀ i R,lk Rs i=some R→lk aG i=none:=fun i R hR=>by
  cases hv:lk aG i with
  | none=>rfl
  | some v=>exact absurd rfl (O5 i ((nP i).1 ⟨v,hv⟩) i (List.mem_append_left _ ((nR i).1 ⟨R,hR⟩)))
 let kd:Nat→Kd:=fun i=>match lk Rs i with | some R=>.e R | none=>match lk aG i with | some v=>.s v | none=>.d
 have jB:∀ i R,kd i=.e R↔lk Rs i=some R:=fun i R=>by
  show (match lk Rs i with | some R=>Kd.e R | none=>match lk aG i with | some v=>.s v | none=>.d)=_↔_
  cases lk Rs i with
  | some R'=>simp
  | none=>cases lk aG i<;>simp
 have zy:∀ i v,kd i=.s v→lk Rs i=none∧lk aG i=some v:=fun i v=>by
  show (match lk Rs i with | some R=>Kd.e R | none=>match lk aG i with | some v=>.s v | none=>.d)=_→_
  cases lk Rs i with
  | some R'=>simp
  | none=>cases lk aG i<;>simp
 have I4:∀ i,kd i=.d→lk Rs i=none∧lk aG i=none:=fun i=>by
  show (match lk Rs i with | some R=>Kd.e R | none=>match lk aG i with | some v=>.s v | none=>.d)=_→_
  cases lk Rs i with
  | some R'=>simp
  | none=>cases lk aG i<;>simp
 have Ap:∀ i R,lk Rs i=some R→(i,R)∈Rs:=fun i R h=>iP h
 have hvalid:∀ c,Valid kd k c→zx c Rs:=fun c hc=>xx Rs fun p hp=>by
  obtain ⟨i,R⟩:=p
  have h1:=(hsE i R hp).1
  exact hc i (hlt' i (List.mem_append_left _ (List.mem_append_right _ ((nR i).1 ⟨R,h1⟩)))) R ((jB i R).2 h1)
 have hex:∀ c,Valid kd k c→∃ tq,fK P n w0 mu ops.toArray ds l [] (fun jl=>fA P n w0 mu ops.toArray ds l [] jl (fun aN hc=>Ops P n w0 mu ops.toArray [] (aY ds (aN++jl)++l) hc Q) C [] (sZ E c k++hp)) D2 tq∧Uq tq∧lG (sJ c Rs++aG) tq∧(∀ i,(∃ v,lk tq i=some v)↔i∈D∨∃ v,lk (sJ c Rs++aG) i=some v)∧∀ i v,lk tq i=some v→lk (sJ c Rs++aG) i=some v∨∃ o bC,ops.toArray[i]?=some o∧lG bC tq∧zh P n w0 mu (aA ds bC o.after.toList++l) [] o v:=fun c hc=>
  qW D (sJ c Rs++aG) Ej (fun i hi=>by
   rw [dw]
   have e1:lk Rs i=none:=by
    cases hR:lk Rs i with
    | none=>rfl
    | some R=>exact absurd rfl (WE i ((nR i).1 ⟨R,hR⟩) i hi)
   rw [e1]
   cases hv:lk aG i with
   | none=>rfl
   | some v=>exact absurd rfl (O5 i ((nP i).1 ⟨v,hv⟩) i (List.mem_append_right _ hi))) (fun i v hv=>by
   rw [dw]
   rcases List.mem_append.1 hv with hv | hv
   ·obtain ⟨rfl,R,hR⟩:=uQ Rs hv
    rw [(hsE i R hR).1]
   ·have h1:=Gj i v hv
    cases hR:lk Rs i with
    | none=>exact h1
    | some R=>rw [yx i R hR] at h1;cases h1) (fun _ _ h=>h) (h3 c (hvalid c hc)) (fun i v hv=>.inl hv)
 have hch:∃ F:Ch→Fm,∀ c,Valid kd k c→fK P n w0 mu ops.toArray ds l [] (fun jl=>fA P n w0 mu ops.toArray ds l [] jl (fun aN hc=>Ops P n w0 mu ops.toArray [] (aY ds (aN++jl)++l) hc Q) C [] (sZ E c k++hp)) D2 (F c)∧Uq (F c)∧lG (sJ c Rs++aG) (F c)∧(∀ i,(∃ v,lk (F c) i=some v)↔i∈D∨∃ v,lk (sJ c Rs++aG) i=some v)∧∀ i v,lk (F c) i=some v→lk (sJ c Rs++aG) i=some v∨∃ o bC,ops.toArray[i]?=some o∧lG bC (F c)∧zh P n w0 mu (aA ds bC o.after.toList++l) [] o v:=by
  classical
  refine ⟨fun c=>if hc:Valid kd k c then Classical.choose (hex c hc) else [],fun c hc=>?_⟩
  simp only [hc,dif_pos]
  exact Classical.choose_spec (hex c hc)
 obtain ⟨F,hF⟩:=hch
 let val:Ch→Nat→Value:=fun c i=>match kd i with | .s v=>v | .e _=>(c i).1 | .d=>(lk (F c) i).getD undef
 have oN:∀ c,Valid kd k c→∀ i v,lk (F c) i=some v→val c i=v:=fun c hc i v hv=>by
  obtain ⟨_,_,hmo,_,_⟩:=hF c hc
  show (match kd i with | .s v=>v | .e _=>(c i).1 | .d=>(lk (F c) i).getD undef)=v
  cases hkd:kd i with
  | s u=>
   obtain ⟨e1,e2⟩:=zy i u hkd
   have:=hmo i u aA6
   rw [hv] at this;cases this;rfl
  | e R=>
   have e1:=(jB i R).1 hkd
   have:=hmo i (c i).1 (by rw [dw,e1])
   rw [hv] at this;cases this;rfl
  | d=>rw [hv];rfl
 have qE:∀ c,Valid kd k c→∀ i,i<k→∃ v,lk (F c) i=some v:=fun c hc i hi=>by
  obtain ⟨_,_,_,hkk,_⟩:=hF c hc
  rw [hkk i]
  rcases lu i hi with h | h | h
  ·obtain ⟨v,hv⟩:=(nP i).2 h
   right
   rw [dw]
   cases lk Rs i with
   | some R=>exact ⟨_,rfl⟩
   | none=>exact ⟨v,hv⟩
  ·obtain ⟨R,hR⟩:=(nR i).2 h
   right
   rw [dw,hR]
   exact ⟨_,rfl⟩
  ·exact .inl h
 have jK:∀ i v,lk aG i=some v→i<k∧∀ c,val c i=v:=fun i v hv=>by
  refine ⟨hlt' i (List.mem_append_left _ (List.mem_append_left _ ((nP i).1 ⟨v,hv⟩))),fun c=>?_⟩
  show (match kd i with | .s v=>v | .e _=>(c i).1 | .d=>(lk (F c) i).getD undef)=v
  have:kd i=.s v:=by
   show (match lk Rs i with | some R=>Kd.e R | none=>match lk aG i with | some v=>.s v | none=>.d)=_
   cases hR:lk Rs i with
   | some R=>rw [yx i R hR] at hv;cases hv
   | none=>rw [hv]
  rw [this]
 cases C with
 | nil=>simp [mW] at hB
 | cons t0 C'=>
 simp only [mW,Bool.and_eq_true,decide_eq_true_eq] at hB
 obtain ⟨⟨⟨⟨⟨⟨⟨⟨⟨⟨hks,hd⟩,Y4⟩,hback⟩,pI⟩,dU⟩,hSt⟩,hEt⟩,hge⟩,qf⟩,hwt⟩:=hB
 simp only [nJ,Bool.and_eq_true,decide_eq_true_eq] at pI
 obtain ⟨⟨PV,PW⟩,Gy⟩:=pI
 have AQ:∀ j,j∈D2++t0::C'→k≤j:=fun j hj=>by have:=List.all_eq_true.1 hge j hj;simpa using this
 have jR:∀ i d,lk ds i=some d→aQ ops.toArray i=some d:=fun i d h=>by rw [← hds] at h;have:=(jb ops 0 i d h).2;simpa [aQ] using this
 have yG:∃ c0:Ch,Valid kd k c0:=by
  have h1:∀ i,∃ x:Value × Hp,∀ R,kd i=.e R→R x.1 x.2:=fun i=>by
   cases hR:lk Rs i with
   | none=>exact ⟨(undef,[]),fun R h=>by rw [(jB i R).1 h] at hR;cases hR⟩
   | some R=>
    obtain ⟨_,o,_,_,v,hn,hv⟩:=hsE i R (Ap i R hR)
    exact ⟨(v,hn),fun R' h=>by rw [(jB i R').1 h] at hR;cases hR;exact hv⟩
  exact ⟨fun i=>Classical.choose (h1 i),fun i hi R hR=>Classical.choose_spec (h1 i) R hR⟩
 obtain ⟨c0,hc0⟩:=yG
 have inv0:HeadInv .any ops.toArray k (Array.replicate ops.toArray.size false):=
  ⟨by simp,fun j oj _ hl=>av6,fun t _ ht=>getD_in ay4 (getD_replicate_false _ _)⟩
 have hleft:leftOf k (Array.replicate ops.toArray.size false)=k:=by
  unfold leftOf
  rw [List.filter_eq_self.2]
  ·simp
  ·intro i hi
   have hi':i<k:=by simpa using hi
   have:(Array.replicate ops.toArray.size false).getD i true=false:=getD_in ay5 (getD_replicate_false _ _)
   simp only [this,Bool.not_false]
 have I5:∀ m,iY kd c0 (Array.replicate ops.toArray.size false) m=[]:=by
  intro m
  induction m with
  | zero=>rfl
  | succ m ih=>simp only [iY,ih,kH,getD_replicate_false,Bool.and_false,cond_false,List.append_nil]
 have sU:∀ i,i<k→qO (kd i)=mem E i:=fun i hi=>by
  cases hkd:kd i with
  | e R=>rw [mem_of ((nR i).1 ⟨R,(jB i R).1 hkd⟩)];rfl
  | s v=>
   cases hmm:mem E i with
   | false=>rfl
   | true=>obtain ⟨R,hR⟩:=(nR i).2 (bV hmm);rw [(jB i R).2 hR] at hkd;cases hkd
  | d=>
   cases hmm:mem E i with
   | false=>rfl
   | true=>obtain ⟨R,hR⟩:=(nR i).2 (bV hmm);rw [(jB i R).2 hR] at hkd;cases hkd
 have key:=JU jR (P:=P) (n:=n) (w0:=w0) (mu:=mu) (l:=l) (hp:=hp) (all:=ops.toArray) (kd:=kd) (val:=val) (k:=k) (g:=ops.toArray.size - k) (Q':=QQ n w0 mu Q) hks hd hf1 hback
  (fun i o v hi ho hkd=>by
   obtain ⟨e1,e2⟩:=zy i v hkd
   obtain ⟨o',bC,h1,h2,h3⟩:=hsS i v e2
   rw [ho] at h1;cases h1
   exact ⟨(jK i v e2).2,bC,fun j u hu=>jK j u (h2 j u aw4),h3⟩)
  (fun i o R hi ho hkd=>by
   have e1:=(jB i R).1 hkd
   obtain ⟨_,o',h1,h2,_⟩:=hsE i R (Ap i R e1)
   rw [ho] at h1;cases h1
   have hve:∀ i R,kd i=.e R→∀ c,val c i=(c i).1:=fun i R hkd c=>by
    show (match kd i with | .s v=>v | .e _=>(c i).1 | .d=>(lk (F c) i).getD undef)=_
    rw [hkd]
   refine ⟨hve i R hkd,aG,fun j u hu=>jK j u aw4,?_⟩
   rcases h2 with h2 | ⟨m,Rm,hlm,hwm,h2⟩
   ·exact .inl h2
   ·exact .inr ⟨m,Rm,hlt' m (List.mem_append_left _ (List.mem_append_right _ ((nR m).1 ⟨Rm,hlm⟩))),(jB m Rm).2 hlm,hve m Rm ((jB m Rm).2 hlm),hwm,h2⟩)
  (fun c hcv i o hi ho hkd=>by
   obtain ⟨e1,e2⟩:=I4 i hkd
   obtain ⟨v,hv⟩:=qE c hcv i hi
   obtain ⟨_,_,_,_,hsp⟩:=hF c hcv
   rw [oN c hcv i v hv]
   rcases hsp i v hv with h0 | ⟨o',bC,h1,h2,h3⟩
   ·rw [dw,e1] at h0;rw [e2] at h0;cases h0
   ·rw [ho] at h1;cases h1
    refine ⟨bC,fun j u hu=>?_,Gw h3⟩
    have hj:=h2 j u aw4
    refine ⟨?_,oN c hcv j u hj⟩
    obtain ⟨_,_,_,hkk,_⟩:=hF c hcv
    rcases (hkk j).1 ⟨u,hj⟩ with h | ⟨v',h⟩
    ·exact hlt' j (List.mem_append_right _ h)
    ·rw [dw] at h
     cases hR:lk Rs j with
     | some R=>exact hlt' j (List.mem_append_left _ (List.mem_append_right _ ((nR j).1 ⟨R,hR⟩)))
     | none=>rw [hR] at h;exact (jK j v' h).1)
  (fun f c listed hlf inv lN a w hmid=>?_)
  (fun listed inv i hi hie hun t ht=>?_)
  k c0 _ a { w with drawn:=w.drawn + 1 } hleft inv0 ⟨hk.size,hk.defers,hk.has,hc0,by rw [I5];exact hG.drawn _,fun i _ hl=>av6⟩
 ·have e:k + (ops.toArray.size - k)=ops.toArray.size:=by omega
  rw [e] at key
  exact key
 ·obtain ⟨hX,WG,hmo,hkk,hsp1⟩:=hF c hmid.valid
  have PX:∀ i v,lk (F c) i=some v→i<k:=fun i v hv=>by
   rcases (hkk i).1 ⟨v,hv⟩ with h | ⟨v',h⟩
   ·exact hlt' i (List.mem_append_right _ h)
   ·rw [dw] at h
    cases hR:lk Rs i with
    | some R=>exact hlt' i (List.mem_append_left _ (List.mem_append_right _ ((nR i).1 ⟨R,hR⟩)))
    | none=>rw [hR] at h;exact (jK i v' h).1
  have zi:=PV
  rw [List.nodup_append,List.nodup_append] at zi
  obtain ⟨⟨_,Gz,Y5⟩,yR,Y6⟩:=zi
  obtain ⟨jl,hY,hu2,xJ,AU,hsp2⟩:=qW (base:=F c) D2 (F c) Gz (fun i hi=>by
   cases hv:lk (F c) i with
   | none=>rfl
   | some v=>
    have h1:=PX i v hv
    have h2:=AQ i (List.mem_append_left _ hi)
    omega) WG (fun _ _ h=>h) hX (fun i v hv=>.inl hv)
  have uA:∀ j,k≤j→j<ops.toArray.size→listed.getD j true=false:=fun j h1 h2=>inv.tail j h1 h2
  have uB:∀ i∈(S++E++D++D2)++t0::C',i<ops.toArray.size:=fun i hi=>by have:=List.all_eq_true.1 PW i hi;simpa using this
  have qV:∀ i v,lk jl i=some v→i<ops.toArray.size:=fun i v hv=>by
   rcases (AU i).1 ⟨v,hv⟩ with h | ⟨v',h⟩
   ·exact uB i (List.mem_append_left _ (List.mem_append_right _ h))
   ·have:=PX i v' h;omega
  have invK:HeadInv .any ops.toArray ops.toArray.size listed:=⟨inv.size,inv.closed,fun t h1 h2=>by omega⟩
  have PY:leftOf ops.toArray.size listed=f + (ops.toArray.size - k):=by rw [uz hks uA,hlf]
  have hbe:∀ m,m≤k→iY kd c listed m=sZ E c m:=by
   intro m
   induction m with
   | zero=>intro _;rfl
   | succ m ih=>
    intro hm
    simp only [iY,sZ,kH]
    rw [ih au',sU m au']
    cases hme:mem E m with
    | false=>rfl
    | true=>
     have h1:=lN m au' aA4
     have h2:listed.getD m false=true:=by
      cases hcc:listed.getD m false with
      | true=>rfl
      | false=>rw [getD_in av7 hcc] at h1;cases h1
     rw [h2];rfl
  have hgood:Good w0 mu (sZ E c k++hp) w:=by rw [← hbe k (Nat.le_refl _)];exact hmid.good
  have GG:nK n w0 mu ops.toArray l jl [] (sZ E c k++hp) listed a w:=by
   refine ⟨hmid.size,hmid.defers,hmid.has,hgood,fun i v hv hl d hdd=>?_,fun i v hv=>by cases hv⟩
   have hik:i<k:=by
    rcases Nat.lt_or_ge i k with h | h
    ·exact h
    ·have h1:=uA i h (qV i v hv)
     rw [getD_both h1] at hl;cases hl
   obtain ⟨v',hv'⟩:=qE c hmid.valid i hik
   have h1:=xJ i v' hv'
   rw [hv] at h1;cases h1
   rw [hmid.done i hik hl c hmid.valid (fun _ _ _ _=>rfl) d hdd]
   exact oN c hmid.valid i v hv'
  have PZ:=wE jR (P:=P) (n:=n) (w0:=w0) (mu:=mu) (l:=l) (hp:=hp) (h0:=[]) (all:=ops.toArray) (aG:=jl) (k:=ops.toArray.size) (t0:=t0) (g:=0) (Q':=QQ n w0 mu Q) (X:=fun aN hc=>Ops P n w0 mu ops.toArray [] (aY ds (aN++jl)++l) hc Q) (dn:=mem E) (Nat.le_refl _) Y4 hf hback (bU fun b=>by simp [mg])
   (fun i hi hdn=>by
    have:=List.all_eq_true.1 qf i (List.mem_range.2 hi)
    rw [hdn] at this
    simp only [Option.isSome_none,Bool.false_or,Bool.or_eq_true] at this
    rcases this with h | h
    ·exact .inl (Nat.eq_of_beq_eq_true h)
    ·exact .inr h)
   (fun i v hv=>⟨qV i v hv,fun hne=>?_⟩)
   (fun aN h listed inv hall hX a w hmid hEk=>?_)
   (fun listed inv i hi hun t ht hr=>by
    obtain ⟨_,o,ho,_⟩:=mem_ready.1 hr
    have:=(Array.getElem?_eq_some_iff.1 ho).1
    omega)
   (f + (ops.toArray.size - k)) (t0::C') [] (sZ E c k++hp) listed a w PY invK (fun i hi=>lN i (hlt' i (List.mem_append_left _ (List.mem_append_right _ (bV hi)))) aw') GG (fun i v hv=>by cases hv)
   (fun i hi=>⟨uB i (List.mem_append_right _ hi),uA i (AQ i (List.mem_append_right _ hi)) (uB i (List.mem_append_right _ hi)),?_⟩) yR dU (fun i hi hl=>?_) (bU fun b=>by simp [mg]) (fun _=>aF.right _ _) hY
  ·exact PZ
  ·rcases hsp2 i v hv with h0 | ⟨o,bC,h1,h2,h3⟩
   ·rcases hsp1 i v h0 with h0 | ⟨o,bC,h1,h2,h3⟩
    ·rw [dw] at h0
     cases hR:lk Rs i with
     | some R=>
      rw [mem_of ((nR i).1 ⟨R,hR⟩)] at hne;cases hne
     | none=>
      rw [hR] at h0
      obtain ⟨o,bC,h1,h2,h3⟩:=hsS i v h0
      refine ⟨o,bC,h1,fun j u hu=>?_,fun hx=>?_⟩
      ·refine xJ j u (hmo j u ?_)
       have h4:=h2 j u hu
       rw [dw]
       cases hR2:lk Rs j with
       | some R2=>rw [yx j R2 hR2] at h4;cases h4
       | none=>exact h4
      ·rw [List.all_eq_true.1 hSt i ((nP i).1 ⟨v,h0⟩)]
       exact h3 hx
    ·exact ⟨o,bC,h1,fun j u hu=>xJ j u (h2 j u hu),fun hx=>AP h3⟩
   ·exact ⟨o,bC,h1,h2,fun hx=>AP h3⟩
  ·have mG:Knows n (aY ds (aN++jl)++l) a:=by
    refine ⟨hmid.size,hmid.defers,fun t v ht=>?_⟩
    rcases dW ht with ht | ⟨_,ht⟩
    ·obtain ⟨j,h1,h2⟩:=ig (gm ht)
     rcases List.mem_append.1 h1 with h1 | h1
     ·exact (hmid.jZ j v h1).2 t (jR _ _ h2)
     ·have hj:=hu2 j v h1
      have hjk:=qV j v hj
      refine hmid.nU j v hj ?_ t (jR _ _ h2)
      have h5:=hall j hjk
      cases hcc:listed.getD j false with
      | true=>rfl
      | false=>rw [getD_in av7 hcc] at h5;cases h5
    ·exact hmid.has t v ht
   refine ⟨?_,hX a w mG hmid.good⟩
   rw [List.eq_nil_iff_forall_not_mem]
   intro i hi
   obtain ⟨hun,o,ho,_⟩:=mem_ready.1 hi
   rw [hall i (Array.getElem?_eq_some_iff.1 ho).1] at hun;cases hun
  ·cases hv:lk jl i with
   | none=>rfl
   | some v=>
    exfalso
    have h2:=AQ i (List.mem_append_right _ hi)
    rcases (AU i).1 ⟨v,hv⟩ with h | ⟨v',h⟩
    ·exact Y6 i (List.mem_append_right _ h) i hi rfl
    ·have:=PX i v' h;omega
  ·have h1:=bV (List.all_eq_true.1 Gy i (List.mem_range.2 hi))
   rcases List.mem_append.1 h1 with h1 | h1
   ·left
    rcases List.mem_append.1 h1 with h1 | h1
    ·obtain ⟨v,hv⟩:=qE c hmid.valid i (hlt' i h1)
     exact ⟨v,xJ i v hv⟩
    ·exact (AU i).2 (.inl h1)
   ·exact .inr h1
 ·intro hr
  obtain ⟨_,o,ho,hall⟩:=mem_ready.1 hr
  have hts:t<ops.toArray.size:=(Array.getElem?_eq_some_iff.1 ho).1
  have hwl:∀ j,Region.waitsFor .any ops.toArray t j=true→listed.getD j false=true:=fun j hj=>by
   obtain ⟨oj,h6,e,he,hb,heq⟩:=Region.waitsFor_spec hj
   rw [ho] at h6;cases h6
   rw [← heq];exact hall e he hb
  have h1:=List.all_eq_true.1 hwt t (List.mem_range.2 hts)
  simp only [Bool.or_eq_true] at h1
  rcases h1 with (h1 | h1) | h1
  ·have:t<k:=by simpa using h1
   omega
  ·have h2:=hwl i (List.all_eq_true.1 h1 i (bV (by rw [← sU i hi];exact hie)))
   rw [getD_both hun] at h2;cases h2
  ·obtain ⟨j,hj,h2⟩:=List.any_eq_true.1 h1
   rw [Bool.and_eq_true] at h2
   have h3:=hwl j h2.2
   rw [getD_both (inv.tail j (by simpa using h2.1) (List.mem_range.1 hj))] at h3;cases h3
theorem Oc {ops:List Oper} (k:Nat) (S E D D2 C:List Nat) (hB:mW ops.toArray n k S E D D2 C=true) (hf:bu l (dstsOf ops.toArray ops.toArray.size)=true) (hf1:bu l (dstsOf ops.toArray k)=true) (hsp:splitB k S E D=true) (hds:bP ops 0=ds)
  (h:iH P n w0 mu ops.toArray ds l hp (fun aG=>vK P n w0 mu ops.toArray ds l hp aG (fun Rs=>DN (fun iv bl=>fK P n w0 mu ops.toArray ds l [] (fun Gx=>fK P n w0 mu ops.toArray ds l [] (fun jl=>fA P n w0 mu ops.toArray ds l [] jl (fun aN hc=>Ops P n w0 mu ops.toArray [] (aY ds (aN++jl)++l) hc Q) C [] (bl++hp)) D2 Gx) D (iv++aG)) Rs) E []) S []):lq P n w0 mu ops.toArray l hp Q:=by
 refine JV k S E D D2 C hB hf hf1 hsp hds (xy (fun aG h2=>Ob E [] (fun Rs e h3 c hc=>?_) h2) S [] h)
 have:=O7 Rs _ c h3 hc
 have he:sZ E c k=Iq c (Rs.map (·.1)):=by
  simp only [splitB,Bool.and_eq_true,decide_eq_true_eq] at hsp
  rw [zO,← hsp.1.1.1,e];simp
 rw [he]
 exact this
end
section
variable {n : Nat} {w0 : World} {mu : List Nat} {l : Fm} {hp : Hp} {Q : Exit → Fm → Hp → Prop} {ds : List (Nat × Nat)}
theorem Yg {id:Nat} {ops:List Oper} (k:Nat) (S E D D2 C:List Nat) (h:iH Tryz.prog n w0 mu ops.toArray ds l hp (fun aG=>vK Tryz.prog n w0 mu ops.toArray ds l hp aG (fun Rs=>DN (fun iv bl=>fK Tryz.prog n w0 mu ops.toArray ds l [] (fun Gx=>fK Tryz.prog n w0 mu ops.toArray ds l [] (fun jl=>fA Tryz.prog n w0 mu ops.toArray ds l [] jl (fun aN hc=>Ops Tryz.prog n w0 mu ops.toArray [] (aY ds (aN++jl)++l) hc Q) C [] (bl++hp)) D2 Gx) D (iv++aG)) Rs) E []) S [])
  (hds:bP ops 0=ds:=by (simp only [bP,Nat.reduceAdd,Nat.zero_add];rfl)) (hm:Tryz.prog.follows .mixedOrders=true:=by kernel_rfl) (hB:mW ops.toArray n k S E D D2 C=true:=by decide +kernel) (hf:bu l (dstsOf ops.toArray ops.toArray.size)=true:=by rfl) (hf1:bu l (dstsOf ops.toArray k)=true:=by rfl) (hsp:splitB k S E D=true:=by decide +kernel):St Tryz.prog n w0 mu (.region id ops.toArray true) l hp Q:=
 qX hm (Oc k S E D D2 C hB hf hf1 hsp hds h)
end
section
variable {n : Nat} {w0 : World} {mu : List Nat} {l : Fm} {hp : Hp} {all : Array Oper} {iv : Fm} {i : Nat} {ds : List (Nat × Nat)} {Z : List (Nat × RT) → Prop} {E : List Nat} {Rs : List (Nat × RT)}
theorem mE (h:iq Tryz.prog n w0 mu all ds l hp iv (fun zQ=>vK Tryz.prog n w0 mu all ds l hp iv Z E zQ) [i] Rs):vK Tryz.prog n w0 mu all ds l hp iv Z (i::E) Rs:=by
 obtain ⟨o,R,h1,h2,h3,h4⟩:=h
 exact ⟨o,R,h1,.inl h2,h3,h4⟩
theorem mOn (m:Nat) {Rm R:RT} (he:∀ v hn,Rm v hn→iq Tryz.prog n w0 mu all ds l (hn++hp) ((m,v)::iv) (fun zQ=>zQ=[(i,R)]) [i] []) (hex:∃ v hn,Rm v hn) (h:vK Tryz.prog n w0 mu all ds l hp iv Z E ((i,R)::Rs)) (hm:lk Rs m=some Rm:=by rfl) (hw:Region.waitsFor .any all i m=true:=by decide +kernel):vK Tryz.prog n w0 mu all ds l hp iv Z (i::E) Rs:=by
 obtain ⟨v,hn,hv⟩:=hex
 obtain ⟨o,R',h1,h2,h3,h4⟩:=he v hn hv
 cases h4
 refine ⟨o,R,h1,.inr ⟨m,Rm,hm,hw,fun v hn hv=>?_⟩,h3,h⟩
 obtain ⟨o2,R2,g1,g2,g3,g4⟩:=he v hn hv
 cases g4
 rw [h1] at g1
 cases g1
 exact g2
theorem ai8 (h:Z Rs):vK Tryz.prog n w0 mu all ds l hp iv Z [] Rs:=h
end
end
section
set_option maxRecDepth 200000
def VB:bG:=⟨1,3,0,0,-7⟩
def Iw:List Nat:=kQ (y7 24) 20 [VB] 1
def Yh:aC:=⟨0,0,0,0,0,0,0,0,1280,0,0,0,0,0,0⟩
def wkS:PS:=o9 (Lu Iw [([],[])] Yh ⟨0,false,false,false,-1,false⟩) 0 ⟨true,0,0⟩
theorem RZ:qN Iw.length [([],[])] 0 ⟨true,0,0⟩=true:=by decide +kernel
theorem ai9:(wkS.r.x3,wkS.r.pc,wkS.ls.length,wkS.kind)=(18446744073709551609,1284,1,0):=by decide +kernel
end
section
set_option maxRecDepth 200000
attribute [local irreducible] Hy St Ops DH gB iH iq fK DS fA jX
theorem Il:tu (y7 24):=by unfold tu;decide +kernel
theorem Io:(y7 24).length=192:=by decide +kernel
theorem D5:Iw.length=192:=by decide +kernel
theorem aa2:∃ S:PS,o9 (Lu Iw [([],[])] Yh ⟨0,false,false,false,-1,false⟩) 0 ⟨true,0,0⟩=S∧S.r.x3=18446744073709551609∧S.r.pc=1284∧S.ls.length=1∧S.kind=0:=by
 have h:=ai9
 simp only [Prod.mk.injEq] at h
 exact ⟨wkS,rfl,h.1,h.2.1,h.2.2.1,h.2.2.2⟩
def Ip (cpu:Int) (s:PS) (u:Value):Prop:=∃ p n c q k p2 n2 c2,u=.tuple #[.agg #[.slice p n c],.agg (dD s.r).toArray,.slice q s.ls.length k,.agg (kR cpu (.slice p2 n2 c2) s),.int .i64 0]
theorem RF.keep {cpu:Int} {s:PS} {u:Value} {hn:Hp} (h:RF cpu s u hn):Ip cpu s u:=by
 obtain ⟨L,h1,rfl,_⟩:=h
 obtain ⟨a,b,e1⟩:=h1.w.opened
 obtain ⟨a2,b2,e2⟩:=h1.l.opened
 obtain ⟨a3,b3,e3⟩:=h1.q.opened
 unfold Ip
 rw [e1,e2,e3,show s.ls.length=L.ts.length by rw [← h1.p,List.length_map],List.length_map,List.length_map,List.length_map]
 exact ⟨a,_,b,a2,b2,a3,_,b3,rfl⟩
theorem Yi:Yh.Ok:=by constructor<;>(unfold gq;decide)
theorem Si {S:PS} (hS:o9 (Lu Iw [([],[])] Yh ⟨0,false,false,false,-1,false⟩) 0 ⟨true,0,0⟩=S) {c:Nat} (hcc:Iw.length≤c) {p:Option Addr} {lv:Value} {w:World} (hm:aB w (.slice p Iw.length c) 1 (Iw.map uV)) (hl:aB w lv 2 [lC default]):
  Fn Tryz.prog 16 [.agg #[.slice p Iw.length c],.agg (dD Yh).toArray,lv,.int .i64 0,.agg (iK ⟨true,0,0⟩).toArray,.agg (mM ⟨0,false,false,false,-1,false⟩).toArray].toArray w [] (fun u _=>Ip 0 S u):=by
 have hno:∀ sz e,aB w (.slice none 0 0) sz []:=fun sz e=>(Own.nil e sz).lie (fun b hb=>by cases hb) av1
 refine (FM Iw (BO Il 20 [VB] 1) (by rw [D5];decide) c hcc [default] Yh Yi 0 ⟨true,0,0⟩ ⟨0,false,false,false,-1,false⟩ hm ⟨hl,fun t ht=>?_,fun t ht=>?_⟩ (fun t ht=>?_) av1).mono (fun u hn hu=>?_)
 ·obtain rfl:=List.mem_singleton.1 ht;exact hno 14 0
 ·obtain rfl:=List.mem_singleton.1 ht;exact hno 4 0
 ·obtain rfl:=List.mem_singleton.1 ht;exact Nat.le_refl 0
 ·rw [show qN Iw.length ([default].map dM.p) 0 ⟨true,0,0⟩=true from RZ,cond_true] at hu
  have:=hu.keep
  rw [show o9 (Lu Iw ([default].map dM.p) Yh ⟨0,false,false,false,-1,false⟩) (0:Int).toNat ⟨true,0,0⟩=S from hS] at this
  exact this
def Iy:List Value:=[.int .i64 0,.int .i64 0,.int .i64 0,.int .i64 0,.int .i64 0,.int .i64 0,.int .i64 0,.int .i64 0,.int .i64 0,.int .i64 0,.bool false,.int .i64 0,.int .i64 0,.slice none 0 0,.int .u64 0,.int .u64 0,.int .u64 0,.int .u64 0,.int .u64 0,.int .u64 0,.int .u64 0,.int .u64 0,.int .u64 0,.int .u64 0,.int .u64 0,.int .u64 0,.int .u64 0,.int .u64 0,.int .u64 0]
def JW:List Value:=[.int .u64 0,.int .u64 0,.int .u64 0,.int .u64 0,.int .u64 0,.int .u64 0,.int .u64 0,.int .u64 0,.int .u64 0,.int .u64 0,.int .u64 0,.int .u64 0,.int .u64 0,.int .u64 0,.int .u64 0]
theorem D6 (w:World):Fn Tryz.prog 25 [].toArray w [] (fun u _=>u=.bool true):=by
 refine enter Tryz.func25 ?_
 refine run ?_
 refine gX (fun wc hG=>Vz 24 av1 av1 wc) ?_
 rintro _ hn1 ⟨v1,h1,rfl,hA1,hle1⟩
 obtain ⟨q1,c1,x1⟩:=hA1.opened
 rw [List.length_map] at x1
 subst x1
 refine aJ h1 (cnt1 hle1) ?_
 refine run ?_
 intro I
 refine gX (fun wc hG=>Yf (y7 24) Il ax1 20 [VB] av1 av1 av1 (by rw [Io];decide) (hA1.lie (fun e he=>hG.here e aw1) (by rw [List.length_map,Io];decide)) (dL (xs:=[Iu VB]) (hG.here _ mh) (fun c hc=>by simp at hc;rcases hc with rfl | rfl<;>rfl) av4)) ?_
 rintro _ hn2 ⟨v2,h2,rfl,hA2,hle2⟩
 replace hA2:Own 25 1 v2 h2 (Iw.map uV):=hA2
 obtain ⟨q2,c2,x2⟩:=hA2.jS
 rw [List.length_map] at x2
 obtain ⟨x2,hcc⟩:=x2
 subst x2
 refine aJ h2 (cnt1 hle2) ?_
 refine run ?_
 intro M
 obtain ⟨S,hS,hS3,hSp,hSl,WV⟩:=aa2
 refine Yg 15 [0,1,3,4] [2,5,12,13,14] [6,7,8,9,10,11] [17,19] [15,16,18] ?_
 refine fB ?_
 refine mE ?_
 refine YS (m:=1) (sz:=2) (z:=.agg #[.slice none 0 0,.slice none 0 0]) ?_ au' (hcs:=by exact CZ [.slice none 0 0,.slice none 0 0] 1 2 rfl au')
 refine gZ ?_
 refine mOn 2 (R:=fun u _=>Ip 0 S u) ?_ ?_ ?_
 ·rintro v hn ⟨b,rfl,rfl⟩
  refine iW (R:=fun u _=>Ip 0 S u) (fun wc hG=>Si hS hcc (hA2.lie (fun e he=>hG.here e aw1) (by rw [List.length_map,D5];decide)) (dL (xs:=[lC default]) (hG.here _ mh) (fun c hc=>by simp at hc;rcases hc with rfl | rfl<;>rfl) av4)) ⟨_,[],none,0,0,none,0,none,0,0,rfl⟩ ?_
  exact gZ rfl
 ·exact ⟨_,_,0,rfl,rfl⟩
 refine mE ?_
 refine dR ?_
 refine gZ ?_
 refine mE ?_
 refine dR (cs:=JW) ?_
 refine gZ ?_
 refine mE ?_
 refine dR (cs:=Iy) ?_
 refine gZ ?_
 refine ai8 ?_
 rintro _ _ ⟨b5,rfl,rfl⟩ _ _ ⟨b3,rfl,rfl⟩ _ _ ⟨b2,rfl,rfl⟩ u hn3 ⟨p3,n3,c3,q4,k4,p5,n5,c5,rfl⟩ _ hnb ⟨b,rfl,_⟩
 rw [hSl]
 refine ni ?_
 refine aS ?_
 refine aS ?_
 refine aS ?_
 refine aS ?_
 refine aS ?_
 refine fC ?_
 refine iE ?_
 refine iE ?_
 refine fC ?_
 simp only [DN,List.cons_append,List.nil_append,List.append_nil]
 refine qg (b:=b2) (tb:=24) (cs:=#[.slice none 0 0]) (cs':=#[.slice p3 n3 c3]) (hp':=⟨b5,Iy.toArray,46⟩::⟨b3,JW.toArray,30⟩::(hn3++(hnb++(⟨M,#[.slice q2 Iw.length c2],24⟩::h2)))) ?_ (hput:=rfl) (hperm:=by (exact au))
 refine iO (b:=b3) (tb:=30) (cs:=JW.toArray) (vs:=dD S.r) (pq:=rfl) (dD S.r).toArray (hp':=⟨b5,Iy.toArray,46⟩::⟨b2,#[.slice p3 n3 c3],24⟩::(hn3++(hnb++(⟨M,#[.slice q2 Iw.length c2],24⟩::h2)))) ?_ (hperm:=by (exact au))
 refine iO (b:=b5) (tb:=46) (cs:=Iy.toArray) (vs:=(kR 0 (.slice p5 n5 c5) S).toList) (pq:=rfl) (kR 0 (.slice p5 n5 c5) S) (hp':=⟨b3,(dD S.r).toArray,30⟩::⟨b2,#[.slice p3 n3 c3],24⟩::(hn3++(hnb++(⟨M,#[.slice q2 Iw.length c2],24⟩::h2)))) ?_ (hperm:=by (exact au))
 refine aH ?_
 refine di ?_
 refine run ?_
 refine ax (fun wc hG=>FO 0 wc) ?_
 refine az ?_
 rw [hS3]
 refine az ?_
 rw [hSp]
 refine az ?_
 rw [WV]
 exact fin1 rfl
end
section
set_option maxRecDepth 200000
def aC.nums (r:aC):List Nat:=[r.x0,r.x1,r.x2,r.x3,r.x4,r.x5,r.x6,r.x7,r.pc,r.gp,r.dm,r.jd,r.qw,r.mJ,r.far]
end
section
attribute [local irreducible] Hy St Ops DH gB iH iq fK DS fA jX vK
theorem jf {hl ht:Hp} {ts:List dM} {lv:Value} {wc:World} (o2:Own 77 2 lv hl (ts.map lC)) (o3:wJ ht ts) (hH:Here (hl++ht) wc) (hn:ts.length<100000):qI wc lv ts:=
 ⟨o2.lie (fun e he=>hH e aw1) av3,fun t hm=>((o3 t hm).1 wc (fun e he=>hH e aw1)).1,fun t hm=>((o3 t hm).1 wc (fun e he=>hH e aw1)).2⟩
theorem VC {ws:List Nat} {ls:List (List bg × List dB)} {r:aC} {cpu:Int} {two:bQ} (pk:vg) (h64:tu ws) (hr:r.Ok) (hl:ls.length<100000) (h:qN ws.length ls cpu two=true):fE (Lu ws ls r pk) cpu.toNat two∧cpu=(cpu.toNat:Int):=by
 simp only [qN,Bool.and_eq_true,decide_eq_true_eq] at h
 obtain ⟨⟨⟨⟨⟨m1,m2⟩,m3⟩,m4⟩,m5⟩,m6⟩:=h
 refine ⟨⟨h64,m1,by show cpu.toNat<ls.length;omega,hl,fun t ht=>?_,⟨m4,m5⟩,hr⟩,by omega⟩
 have h3:=List.all_eq_true.1 m6 t ht
 simp only [Bool.and_eq_true] at h3
 exact RG h3.1 h3.2
theorem D7 {s:PS} {cpu:Nat} {two:bQ} (c:Int) (h:fE s cpu two) (hq:s.seen.length≤100):∃ u hn,RF c s u hn:=by
 have hm:=bD h.mem
 obtain ⟨a1,b1,o1⟩:=fF (e:=25) (xs:=s.ws.map uV) (yj _) av3
 obtain ⟨a2,b2,o2⟩:=fF (e:=3) (sz:=1) (xs:=s.seen.map dH) (fun c hc=>by obtain ⟨x,_,rfl⟩:=List.mem_map.1 hc;exact ⟨rfl,rfl⟩) av3
 obtain ⟨v,ha,hs,ts,o3,o4,o5⟩:=BG (ls:=s.ls) h.len (fun t ht=>(dO (h.es t ht).vI).2)
 exact ⟨_,_,⟨a1,a2,v,ts,b1,b2,ha,hs⟩,⟨o1,o2,o3,o4,o5⟩,rfl,aF.refl _⟩
theorem JX {s:PS} {cpu:Nat} {two:bQ} (c:Int) (wv:Value) (ws:List Nat) (h:fE s cpu two) (hq:s.seen.length≤100):∃ u hn,RP wv ws c s u hn:=by
 obtain ⟨_,_,L,hL,_,_⟩:=D7 c h hq
 obtain ⟨p,k,e,hk⟩:=hL.w.jS
 rw [List.length_map] at e hk
 exact ⟨_,_,L,⟨.inr hL.w,⟨p,k,e,hk⟩,hL.q,hL.l,hL.t.i,hL.p⟩,rfl,aF.refl _⟩
structure ExS where
 k:Nat
 ws:List Nat
 r:aC
 ts:List dM
 wv:Value
 hw:Hp
 lv:Value
 hl:Hp
 ht:Hp
structure ExI (s:ExS):Prop where
 k:s.k≤25
 uZ:tu s.ws
 r:s.r.Ok
 wl:s.ws.length≤3000
 ll:s.ts.length<100000
 el:∀ t∈s.ts,t.es.length + t.ds.length≤3000
 w:Own 25 1 s.wv s.hw (s.ws.map uV)
 l:Own 77 2 s.lv s.hl (s.ts.map lC)
 t:wJ s.ht s.ts
set_option maxHeartbeats 4000000 in
theorem BP {w:World} {wv lv pv:Value} {ws:List Nat} {ts:List dM} {ps:List vg} {r:aC} (cpu:Int) (two:bQ) (h:lW w wv lv pv ws ts ps r):Fn Tryz.prog 3 [.agg (lU wv lv pv r cpu two)].toArray w [] (fun u _=>u=.bool true):=by
 have h':=h
 obtain ⟨q1,c1,rfl,hwc⟩:=h.N8
 obtain ⟨q2,c2,rfl,hne2,_⟩:=h.tl.rows.opened
 obtain ⟨q3,c3,rfl,Rl,_⟩:=h.sp.opened
 refine enter Tryz.func3 ?_
 refine run ?_
 intro B
 refine aJ [⟨B,lU (.slice q1 ws.length c1) (.slice q2 ts.length c2) (.slice q3 ps.length c3) r cpu two,36⟩] (aF.refl _) ?_
 refine Gs (fun wc hG=>DX cpu two (h'.good hG)) ?_
 rintro _ ⟨hb,rfl,hsm⟩
 refine run ?_
 refine aj _ rfl (fun hc=>?_) (fun hc=>?_)
 ·refine run ?_
  exact fin1 rfl
 obtain ⟨hsum,hes⟩:=hsm hc
 refine run ?_
 refine oV 12 10 [0,1,3,4,5,6] [2,7,8,9] [10,11] [⟨B,lU (.slice q1 ws.length c1) (.slice q2 ts.length c2) (.slice q3 ps.length c3) r cpu two,36⟩] ?_
 refine dh ?_
 rw [show (List.take 15 (List.drop 1 (lU (.slice q1 ws.length c1) (.slice q2 ts.length c2) (.slice q3 ps.length c3) r cpu two).toList)).toArray=(dD r).toArray from rfl]
 refine iW (fun wc hG=>qH ws _ (h'.sw.good hG) au') ?_ ?_
 ·obtain ⟨a1,b1,o1⟩:=fF (e:=25) (xs:=ws.map uV) (yj _) av3
  exact ⟨_,_,a1,b1,rfl,o1,aF.refl _⟩
 refine iW (fun wc hG=>sG ts (h'.tl.good hG) au' (fun t ht=>by have:=hes t ht;omega)) ?_ ?_
 ·obtain ⟨v,ha,hs,ts',o1,o2,o3⟩:=vw (ls:=ts.map dM.p) av3
  exact ⟨v,_,ha,hs,ts',o1,o2,o3,aF.refl _⟩
 refine dR ?_
 refine dR (cs:=JW) ?_
 refine gZ ?_
 rintro _ _ ⟨Rb,rfl,rfl⟩ _ _ ⟨Mb,rfl,rfl⟩ lv0 hn2 ⟨hl0,ht0,ts0,o2,o3,o4,hle2⟩ _ hn1 ⟨wv0,hw0,rfl,o1,hle1⟩
 obtain ⟨qa,ca,xa,hca⟩:=o1.jS
 obtain ⟨qb,cb,xb⟩:=o2.opened
 rw [List.length_map] at xa xb hca
 subst xa xb
 simp only [DN,List.cons_append,List.nil_append,List.append_nil]
 refine qg (b:=Mb) (tb:=24) (cs:=#[.slice none 0 0]) (cs':=#[.slice qa ws.length ca]) (hp':=⟨Rb,JW.toArray,30⟩::(hn2++(hn1++[⟨B,lU (.slice q1 ws.length c1) (.slice q2 ts.length c2) (.slice q3 ps.length c3) r cpu two,36⟩]))) ?_ (hput:=rfl) (hperm:=by (exact au))
 refine iO (b:=Rb) (tb:=30) (cs:=JW.toArray) (vs:=dD r) (pq:=rfl) (dD r).toArray (hp':=⟨Mb,#[.slice qa ws.length ca],24⟩::(hn2++(hn1++[⟨B,lU (.slice q1 ws.length c1) (.slice q2 ts.length c2) (.slice q3 ps.length c3) r cpu two,36⟩]))) ?_ (hperm:=by (exact au))
 refine aH ?_
 refine di ?_
 refine run ?_
 have aa3:∀ t∈ts0,t.es.length + t.ds.length≤3000:=fun t ht=>by
  have h1:t.p∈ts.map dM.p:=by rw [← o4];exact List.mem_map.2 ⟨t,ht,rfl⟩
  obtain ⟨t',h2,h3⟩:=List.mem_map.1 h1
  have h4:=hes t' h2
  have h5:t'.es=t.es∧t'.ds=t.ds:=by simpa [dM.p] using h3
  rw [h5.1,h5.2] at h4;exact h4
 have aj0:ts0.length=ts.length:=by simpa using congrArg List.length o4
 refine cO (σ:=ExS) (fun s=>[(6,.int .i64 (s.k:Int)),(5,s.lv)]) (fun s=>⟨Rb,(dD s.r).toArray,30⟩::⟨Mb,#[s.wv],24⟩::((s.hw++s.hl++s.ht)++[⟨B,lU (.slice q1 ws.length c1) (.slice q2 ts.length c2) (.slice q3 ps.length c3) r cpu two,36⟩])) ExI (fun s=>25 - s.k) ⟨0,ws,r,ts0,.slice qa ws.length ca,hw0,.slice qb ts0.length cb,hl0,ht0⟩ ⟨Nat.zero_le _,h.uZ,h.r,by dsimp only;omega,by dsimp only;omega,aa3,o1,o2,o3⟩ ?_ (hh:=by dsimp only;(refine bU fun a=>?_;have:=aF.cnt hle1 a;have:=aF.cnt hle2 a;simp only [dZ,bJ,kK] at *;omega))
 clear o1 o2 o3 o4 hle1 hle2 aa3 aj0 hca
 rintro ⟨k,wk,rk,tk,wv,hw,lv,hl,ht⟩ m hm hI
 obtain ⟨hk,hw64,hrk,hwl,hll,hel,o1,o2,o3⟩:=hI
 dsimp only at hm hk hw64 hrk hwl hll hel o1 o2 o3 ⊢
 obtain ⟨qa,ca,xa,hca⟩:=o1.jS
 obtain ⟨qb,cb,xb⟩:=o2.opened
 rw [List.length_map] at xa xb hca
 subst xa xb
 refine az ?_
 refine aj _ rfl (fun hc1=>?_) (fun hc1=>?_)
 ·have hlt:k<ps.length∧k<25:=by simp at hc1;omega
  obtain ⟨b3,zq,rfl⟩:=Rl aw7
  have hr3:=h.sp.row hlt.1
  generalize ps.getD k default=pk at hr3
  refine run ?_
  refine gX (fun wc hG=>qH wk _ (o1.lie (fun e he=>hG.here e aw1) av3) au') ?_
  rintro _ hn1 ⟨av,ha,rfl,p1',hle1⟩
  obtain ⟨qc,cc,xc,hcc⟩:=p1'.jS
  rw [List.length_map] at xc hcc
  subst xc
  refine run ?_
  refine gX (fun wc hG=>sG tk (jf o2 o3 (fun e he=>hG.here e av9) hll) au' (fun t ht=>by have:=hel t ht;omega)) ?_
  rintro bv hn2 ⟨hb2,ht2,tb,p2',Sv,p4',hle2⟩
  obtain ⟨qd,cd,xd⟩:=p2'.opened
  rw [List.length_map] at xd
  subst xd
  refine aJ (⟨Rb,(dD rk).toArray,30⟩::⟨Mb,#[.slice qa wk.length ca],24⟩::((hw++hl++ht)++(ha++hb2++ht2)++[⟨B,lU (.slice q1 ws.length c1) (.slice q2 ts.length c2) (.slice (some ⟨b3,zq,none⟩) ps.length c3) r cpu two,36⟩])) (by (refine bU fun a=>?_;have:=aF.cnt hle1 a;have:=aF.cnt hle2 a;simp only [dZ,bJ,kK] at *;omega)) ?_
  refine run ?_
  intro A
  have htb:tb.length=tk.length:=by simpa using congrArg List.length p4'
  cases Yu:qN wk.length (tk.map dM.p) cpu two with
  | false=>
   refine iR 22 [0,1,2,3,4,5,6,7,8,9,10,11] [12,19,20,21] [13,14,15,16,17,18] [24,26] [22,23,25] ?_
   refine fB ?_
   rw [show (List.take 3 (List.drop 18 (lU (.slice q1 ws.length c1) (.slice q2 ts.length c2) (.slice (some ⟨b3,zq,none⟩) ps.length c3) r cpu two).toList)).toArray=(iK two).toArray from rfl]
   refine iW (R:=fun u _=>X6 u) (fun wc hG=>?_) ⟨_,[],rfl⟩ ?_
   ·refine (FM wk hw64 au' cc hcc tb rk hrk cpu two pk (p1'.lie (fun e he=>hG.here e aw1) av3) (jf p2' Sv (fun e he=>hG.here e av9) au') (fun t ht=>(Sv t ht).2) au').mono (fun u hn hu=>?_)
    rw [p4',Yu,cond_false] at hu
    exact hu
   refine dR ?_
   refine dR (cs:=JW) ?_
   refine dR (cs:=Iy) ?_
   refine gZ ?_
   rintro _ _ ⟨O,rfl,rfl⟩ _ _ ⟨X,rfl,rfl⟩ _ _ ⟨Nb,rfl,rfl⟩ _ hn3 rfl
   refine ni ?_
   refine aS ?_
   refine aS ?_
   refine aS ?_
   refine aS ?_
   refine aS ?_
   refine fC ?_
   refine iE ?_
   refine iE ?_
   refine fC ?_
   simp only [DN,List.cons_append,List.nil_append,List.append_nil]
   refine qg (b:=Nb) (tb:=24) (cs:=#[.slice none 0 0]) (cs':=#[.slice none 0 0]) (hp':=⟨O,Iy.toArray,46⟩::⟨X,JW.toArray,30⟩::(hn3++(⟨A,#[.slice qc wk.length cc],24⟩::⟨Rb,(dD rk).toArray,30⟩::⟨Mb,#[.slice qa wk.length ca],24⟩::((hw++hl++ht)++(ha++hb2++ht2)++[⟨B,lU (.slice q1 ws.length c1) (.slice q2 ts.length c2) (.slice (some ⟨b3,zq,none⟩) ps.length c3) r cpu two,36⟩])))) ?_ (hput:=rfl) (hperm:=by (exact au))
   refine iO (b:=X) (tb:=30) (cs:=JW.toArray) (vs:=dD kM) (pq:=rfl) (dD kM).toArray (hp':=⟨O,Iy.toArray,46⟩::⟨Nb,#[.slice none 0 0],24⟩::(hn3++(⟨A,#[.slice qc wk.length cc],24⟩::⟨Rb,(dD rk).toArray,30⟩::⟨Mb,#[.slice qa wk.length ca],24⟩::((hw++hl++ht)++(ha++hb2++ht2)++[⟨B,lU (.slice q1 ws.length c1) (.slice q2 ts.length c2) (.slice (some ⟨b3,zq,none⟩) ps.length c3) r cpu two,36⟩])))) ?_ (hperm:=by (exact au))
   refine iO (b:=O) (tb:=46) (cs:=Iy.toArray) (vs:=(kR 0 (.slice none 0 0) mP).toList) (pq:=rfl) (kR 0 (.slice none 0 0) mP) (hp':=⟨X,(dD kM).toArray,30⟩::⟨Nb,#[.slice none 0 0],24⟩::(hn3++(⟨A,#[.slice qc wk.length cc],24⟩::⟨Rb,(dD rk).toArray,30⟩::⟨Mb,#[.slice qa wk.length ca],24⟩::((hw++hl++ht)++(ha++hb2++ht2)++[⟨B,lU (.slice q1 ws.length c1) (.slice q2 ts.length c2) (.slice (some ⟨b3,zq,none⟩) ps.length c3) r cpu two,36⟩])))) ?_ (hperm:=by (exact au))
   refine aH ?_
   refine di ?_
   refine run ?_
   rw [show (List.take 3 (List.drop 18 (lU (.slice q1 ws.length c1) (.slice q2 ts.length c2) (.slice (some ⟨b3,zq,none⟩) ps.length c3) r cpu two).toList)).toArray=(iK two).toArray from rfl]
   refine ax (fun wc hG=>LH wk au' tk au' cpu two ⟨_,_,rfl,hca⟩ (jf o2 o3 (fun e he=>hG.here e av9) hll)) ?_
   rw [Yu]
   refine aX ?_
   refine ax (fun wc hG=>FO 1 wc) ?_
   refine az ?_
   refine aj _ rfl (fun hc=>absurd hc ax1) (fun _=>?_)
   refine run ?_
   refine ax (fun wc hG=>D6 wc) ?_
   refine run ?_
   exact fin1 rfl
  | true=>
   obtain ⟨hok,aa5⟩:=VC pk hw64 hrk av3 Yu
   obtain ⟨S,hS⟩:∃ S,o9 (Lu wk (tk.map dM.p) rk pk) cpu.toNat two=S:=⟨_,rfl⟩
   obtain ⟨FP,hSq⟩:=step_ok hok
   rw [hS] at FP hSq
   refine iR 22 [0,1,2,3,4,5,6,7,8,9,10,11] [12,19,20,21] [13,14,15,16,17,18] [24,26] [22,23,25] ?_
   refine fB ?_
   rw [show (List.take 3 (List.drop 18 (lU (.slice q1 ws.length c1) (.slice q2 ts.length c2) (.slice (some ⟨b3,zq,none⟩) ps.length c3) r cpu two).toList)).toArray=(iK two).toArray from rfl]
   refine iW (R:=RF cpu S) (fun wc hG=>?_) (D7 cpu FP (by have:S.seen.length≤0 + 50:=hSq;omega)) ?_
   ·refine (FM wk hw64 au' cc hcc tb rk hrk cpu two pk (p1'.lie (fun e he=>hG.here e aw1) av3) (jf p2' Sv (fun e he=>hG.here e av9) au') (fun t ht=>(Sv t ht).2) au').mono (fun u hn hu=>?_)
    rw [p4',Yu,cond_true,hS] at hu
    exact hu
   refine dR ?_
   refine dR (cs:=JW) ?_
   refine dR (cs:=Iy) ?_
   refine gZ ?_
   rintro _ _ ⟨O,rfl,rfl⟩ _ _ ⟨X,rfl,rfl⟩ _ _ ⟨Nb,rfl,rfl⟩ _ hn3 ⟨L,hL,rfl,hle3⟩
   obtain ⟨pe,ce,xe⟩:=hL.w.opened
   obtain ⟨pf,cf,xf⟩:=hL.l.opened
   obtain ⟨pg,cg,xg⟩:=hL.q.opened
   rw [List.length_map] at xe xf xg
   have g1:=hL.w
   have g2:=hL.l
   have g3:=hL.q
   rw [xe] at g1 ⊢
   rw [xf] at g2 ⊢
   rw [xg] at g3 ⊢
   refine ni ?_
   refine aS ?_
   refine aS ?_
   refine aS ?_
   refine aS ?_
   refine aS ?_
   refine fC ?_
   refine iE ?_
   refine iE ?_
   refine fC ?_
   simp only [DN,List.cons_append,List.nil_append,List.append_nil]
   refine qg (b:=Nb) (tb:=24) (cs:=#[.slice none 0 0]) (cs':=#[.slice pe S.ws.length ce]) (hp':=⟨O,Iy.toArray,46⟩::⟨X,JW.toArray,30⟩::(hn3++(⟨A,#[.slice qc wk.length cc],24⟩::⟨Rb,(dD rk).toArray,30⟩::⟨Mb,#[.slice qa wk.length ca],24⟩::((hw++hl++ht)++(ha++hb2++ht2)++[⟨B,lU (.slice q1 ws.length c1) (.slice q2 ts.length c2) (.slice (some ⟨b3,zq,none⟩) ps.length c3) r cpu two,36⟩])))) ?_ (hput:=rfl) (hperm:=by (exact au))
   refine iO (b:=X) (tb:=30) (cs:=JW.toArray) (vs:=dD S.r) (pq:=rfl) (dD S.r).toArray (hp':=⟨O,Iy.toArray,46⟩::⟨Nb,#[.slice pe S.ws.length ce],24⟩::(hn3++(⟨A,#[.slice qc wk.length cc],24⟩::⟨Rb,(dD rk).toArray,30⟩::⟨Mb,#[.slice qa wk.length ca],24⟩::((hw++hl++ht)++(ha++hb2++ht2)++[⟨B,lU (.slice q1 ws.length c1) (.slice q2 ts.length c2) (.slice (some ⟨b3,zq,none⟩) ps.length c3) r cpu two,36⟩])))) ?_ (hperm:=by (exact au))
   refine iO (b:=O) (tb:=46) (cs:=Iy.toArray) (vs:=(kR cpu (.slice pg S.seen.length cg) S).toList) (pq:=rfl) (kR cpu (.slice pg S.seen.length cg) S) (hp':=⟨X,(dD S.r).toArray,30⟩::⟨Nb,#[.slice pe S.ws.length ce],24⟩::(hn3++(⟨A,#[.slice qc wk.length cc],24⟩::⟨Rb,(dD rk).toArray,30⟩::⟨Mb,#[.slice qa wk.length ca],24⟩::((hw++hl++ht)++(ha++hb2++ht2)++[⟨B,lU (.slice q1 ws.length c1) (.slice q2 ts.length c2) (.slice (some ⟨b3,zq,none⟩) ps.length c3) r cpu two,36⟩])))) ?_ (hperm:=by (exact au))
   refine aH ?_
   refine di ?_
   refine run ?_
   rw [show (List.take 3 (List.drop 18 (lU (.slice q1 ws.length c1) (.slice q2 ts.length c2) (.slice (some ⟨b3,zq,none⟩) ps.length c3) r cpu two).toList)).toArray=(iK two).toArray from rfl]
   refine ax (fun wc hG=>LH wk au' tk au' cpu two ⟨_,_,rfl,hca⟩ (jf o2 o3 (fun e he=>hG.here e av9) hll)) ?_
   rw [Yu]
   refine aX ?_
   have hR:=fun {wc:World} (a1:aB wc (.slice qa wk.length ca) 1 (wk.map uV)) (a2:qI wc (.slice qb tk.length cb) tk)=>N7 wk hw64 ca hca tk rk hrk cpu.toNat two pk a1 a2 au' (by rw [← aa5];exact Yu)
   rw [hS] at hR
   simp only [← aa5] at hR
   refine iR 21 [0,1,2,3,4,5,6,7,8,9,10,11] [12,18,19,20] [13,14,15,16,17] [23] [21,22,24] ?_
   refine fB ?_
   rw [show (List.take 3 (List.drop 18 (lU (.slice q1 ws.length c1) (.slice q2 ts.length c2) (.slice (some ⟨b3,zq,none⟩) ps.length c3) r cpu two).toList)).toArray=(iK two).toArray from rfl]
   refine iW (R:=RP (.slice qa wk.length ca) wk cpu S) (fun wc hG=>hR (o1.lie (fun e he=>hG.here e aw1) av3) (jf o2 o3 (fun e he=>hG.here e av9) hll)) (JX cpu _ _ FP (by have:S.seen.length≤0 + 50:=hSq;omega)) ?_
   refine dR ?_
   refine dR (cs:=JW) ?_
   refine dR (cs:=Iy) ?_
   refine gZ ?_
   rintro _ _ ⟨O2,rfl,rfl⟩ _ _ ⟨X2,rfl,rfl⟩ _ _ ⟨N2,rfl,rfl⟩ _ hn4 ⟨M,hM,rfl,y5⟩
   obtain ⟨ph,ch,xh,hch⟩:=hM.c
   obtain ⟨pi,ci,xi⟩:=hM.l.opened
   obtain ⟨pj,cj,xj⟩:=hM.q.opened
   rw [List.length_map] at xi xj
   have k1:=hM.w
   have k2:=hM.l
   have k3:=hM.q
   rw [xh] at k1 ⊢
   rw [xi] at k2 ⊢
   rw [xj] at k3 ⊢
   refine ni ?_
   refine aS ?_
   refine aS ?_
   refine aS ?_
   refine aS ?_
   refine fC ?_
   refine iE ?_
   refine fC ?_
   simp only [DN,List.cons_append,List.nil_append,List.append_nil]
   refine qg (b:=N2) (tb:=24) (cs:=#[.slice none 0 0]) (cs':=#[.slice ph S.ws.length ch]) (hp':=⟨O2,Iy.toArray,46⟩::⟨X2,JW.toArray,30⟩::(hn4++(⟨O,kR cpu (.slice pg S.seen.length cg) S,46⟩::⟨X,(dD S.r).toArray,30⟩::⟨Nb,#[.slice pe S.ws.length ce],24⟩::(hn3++(⟨A,#[.slice qc wk.length cc],24⟩::⟨Rb,(dD rk).toArray,30⟩::⟨Mb,#[.slice qa wk.length ca],24⟩::((hw++hl++ht)++(ha++hb2++ht2)++[⟨B,lU (.slice q1 ws.length c1) (.slice q2 ts.length c2) (.slice (some ⟨b3,zq,none⟩) ps.length c3) r cpu two,36⟩])))))) ?_ (hput:=rfl) (hperm:=by (exact au))
   refine iO (b:=X2) (tb:=30) (cs:=JW.toArray) (vs:=dD S.r) (pq:=rfl) (dD S.r).toArray (hp':=⟨O2,Iy.toArray,46⟩::⟨N2,#[.slice ph S.ws.length ch],24⟩::(hn4++(⟨O,kR cpu (.slice pg S.seen.length cg) S,46⟩::⟨X,(dD S.r).toArray,30⟩::⟨Nb,#[.slice pe S.ws.length ce],24⟩::(hn3++(⟨A,#[.slice qc wk.length cc],24⟩::⟨Rb,(dD rk).toArray,30⟩::⟨Mb,#[.slice qa wk.length ca],24⟩::((hw++hl++ht)++(ha++hb2++ht2)++[⟨B,lU (.slice q1 ws.length c1) (.slice q2 ts.length c2) (.slice (some ⟨b3,zq,none⟩) ps.length c3) r cpu two,36⟩])))))) ?_ (hperm:=by (exact au))
   refine iO (b:=O2) (tb:=46) (cs:=Iy.toArray) (vs:=(kR cpu (.slice pj S.seen.length cj) S).toList) (pq:=rfl) (kR cpu (.slice pj S.seen.length cj) S) (hp':=⟨X2,(dD S.r).toArray,30⟩::⟨N2,#[.slice ph S.ws.length ch],24⟩::(hn4++(⟨O,kR cpu (.slice pg S.seen.length cg) S,46⟩::⟨X,(dD S.r).toArray,30⟩::⟨Nb,#[.slice pe S.ws.length ce],24⟩::(hn3++(⟨A,#[.slice qc wk.length cc],24⟩::⟨Rb,(dD rk).toArray,30⟩::⟨Mb,#[.slice qa wk.length ca],24⟩::((hw++hl++ht)++(ha++hb2++ht2)++[⟨B,lU (.slice q1 ws.length c1) (.slice q2 ts.length c2) (.slice (some ⟨b3,zq,none⟩) ps.length c3) r cpu two,36⟩])))))) ?_ (hperm:=by (exact au))
   refine aH ?_
   refine di ?_
   refine run ?_
   refine aJ ((⟨O2,kR cpu (.slice pj S.seen.length cj) S,46⟩::⟨X2,(dD S.r).toArray,30⟩::⟨N2,#[.slice ph S.ws.length ch],24⟩::⟨O,kR cpu (.slice pg S.seen.length cg) S,46⟩::⟨X,(dD S.r).toArray,30⟩::⟨Nb,#[.slice pe S.ws.length ce],24⟩::⟨A,#[.slice qc wk.length cc],24⟩::⟨Rb,(dD rk).toArray,30⟩::⟨Mb,#[.slice qa wk.length ca],24⟩::((M.hl++M.hs++(M.hw++M.ht))++(L.hl++L.hs++(L.hw++L.ht))++(hw++hl++ht)++(ha++hb2++ht2)++[⟨B,lU (.slice q1 ws.length c1) (.slice q2 ts.length c2) (.slice (some ⟨b3,zq,none⟩) ps.length c3) r cpu two,36⟩]))) (by (refine bU fun a=>?_;have:=aF.cnt hle3 a;have:=aF.cnt y5 a;simp only [dZ,bJ,kK] at *;omega)) ?_
   have hin:∀ {wc:World} {hx:Hp},Good w [] ((⟨O2,kR cpu (.slice pj S.seen.length cj) S,46⟩::⟨X2,(dD S.r).toArray,30⟩::⟨N2,#[.slice ph S.ws.length ch],24⟩::⟨O,kR cpu (.slice pg S.seen.length cg) S,46⟩::⟨X,(dD S.r).toArray,30⟩::⟨Nb,#[.slice pe S.ws.length ce],24⟩::⟨A,#[.slice qc wk.length cc],24⟩::⟨Rb,(dD rk).toArray,30⟩::⟨Mb,#[.slice qa wk.length ca],24⟩::((M.hl++M.hs++(M.hw++M.ht))++(L.hl++L.hs++(L.hw++L.ht))++(hw++hl++ht)++(ha++hb2++ht2)++[⟨B,lU (.slice q1 ws.length c1) (.slice q2 ts.length c2) (.slice (some ⟨b3,zq,none⟩) ps.length c3) r cpu two,36⟩]))) wc→(∀ e∈hx,e∈(⟨O2,kR cpu (.slice pj S.seen.length cj) S,46⟩::⟨X2,(dD S.r).toArray,30⟩::⟨N2,#[.slice ph S.ws.length ch],24⟩::⟨O,kR cpu (.slice pg S.seen.length cg) S,46⟩::⟨X,(dD S.r).toArray,30⟩::⟨Nb,#[.slice pe S.ws.length ce],24⟩::⟨A,#[.slice qc wk.length cc],24⟩::⟨Rb,(dD rk).toArray,30⟩::⟨Mb,#[.slice qa wk.length ca],24⟩::((M.hl++M.hs++(M.hw++M.ht))++(L.hl++L.hs++(L.hw++L.ht))++(hw++hl++ht)++(ha++hb2++ht2)++[⟨B,lU (.slice q1 ws.length c1) (.slice q2 ts.length c2) (.slice (some ⟨b3,zq,none⟩) ps.length c3) r cpu two,36⟩])))→Here hx wc:=fun hG hx e he=>hG.here e (hx e he)
   have hsw:S.ws.length≤512:=(bD FP.mem).2.1
   refine ax (fun wc hG=>FO 0 wc) ?_
   refine az ?_
   have sN:∀ {wc:World},Good w [] ((⟨O2,kR cpu (.slice pj S.seen.length cj) S,46⟩::⟨X2,(dD S.r).toArray,30⟩::⟨N2,#[.slice ph S.ws.length ch],24⟩::⟨O,kR cpu (.slice pg S.seen.length cg) S,46⟩::⟨X,(dD S.r).toArray,30⟩::⟨Nb,#[.slice pe S.ws.length ce],24⟩::⟨A,#[.slice qc wk.length cc],24⟩::⟨Rb,(dD rk).toArray,30⟩::⟨Mb,#[.slice qa wk.length ca],24⟩::((M.hl++M.hs++(M.hw++M.ht))++(L.hl++L.hs++(L.hw++L.ht))++(hw++hl++ht)++(ha++hb2++ht2)++[⟨B,lU (.slice q1 ws.length c1) (.slice q2 ts.length c2) (.slice (some ⟨b3,zq,none⟩) ps.length c3) r cpu two,36⟩]))) wc→aB wc (.slice pe S.ws.length ce) 1 (S.ws.map uV):=fun hG=>g1.lie (fun e he=>hG.here e aw1) av3
   have sM:∀ {wc:World},Good w [] ((⟨O2,kR cpu (.slice pj S.seen.length cj) S,46⟩::⟨X2,(dD S.r).toArray,30⟩::⟨N2,#[.slice ph S.ws.length ch],24⟩::⟨O,kR cpu (.slice pg S.seen.length cg) S,46⟩::⟨X,(dD S.r).toArray,30⟩::⟨Nb,#[.slice pe S.ws.length ce],24⟩::⟨A,#[.slice qc wk.length cc],24⟩::⟨Rb,(dD rk).toArray,30⟩::⟨Mb,#[.slice qa wk.length ca],24⟩::((M.hl++M.hs++(M.hw++M.ht))++(L.hl++L.hs++(L.hw++L.ht))++(hw++hl++ht)++(ha++hb2++ht2)++[⟨B,lU (.slice q1 ws.length c1) (.slice q2 ts.length c2) (.slice (some ⟨b3,zq,none⟩) ps.length c3) r cpu two,36⟩]))) wc→aB wc (.slice ph S.ws.length ch) 1 (S.ws.map uV):=fun hG=>by
    rcases k1 with ⟨e1,e2⟩ | k1
    ·rw [e1,e2];exact o1.lie (fun e he=>hG.here e aw1) av3
    ·exact k1.lie (fun e he=>hG.here e aw1) av3
   refine aZ (fun _ wc hG=>EE S.ws _ _ (sN hG) (sM hG)) ?_
   refine az ?_
   rw [ae2 S.r S.r,decide_eq_true (rfl:S.r=S.r)]
   have NV:L.ts.length<100000∧M.ts.length<100000:=by
    have e1:L.ts.length=S.ls.length:=by rw [← hL.p,List.length_map]
    have e2:M.ts.length=S.ls.length:=by rw [← hM.p,List.length_map]
    have e3:=FP.len
    omega
   refine aZ (fun _ wc hG=>BL L.ts M.ts (jf (hl:=L.hl) (ht:=L.ht) g2 hL.t.i (fun e he=>hG.here e av9) NV.1) (jf (hl:=M.hl) (ht:=M.ht) k2 hM.t (fun e he=>hG.here e av9) NV.2) (by rw [hL.p,hM.p])) ?_
   refine az ?_
   refine aZ (fun _ wc hG=>Vr cpu _ _ S (g3.lie (fun e he=>hG.here e aw1) (by rw [List.length_map];have:S.seen.length≤0 + 50:=hSq;omega)) (k3.lie (fun e he=>hG.here e aw1) (by rw [List.length_map];have:S.seen.length≤0 + 50:=hSq;omega))) ?_
   refine az ?_
   refine aZ (fun _ wc hG=>EE wk _ _ (p1'.lie (fun e he=>hG.here e aw1) av3) (o1.lie (fun e he=>hG.here e aw1) av3)) ?_
   refine az ?_
   refine aZ (fun _ wc hG=>BL tb tk (jf (hl:=hb2) (ht:=ht2) p2' Sv (fun e he=>hG.here e av9) au') (jf (hl:=hl) (ht:=ht) o2 o3 (fun e he=>hG.here e av9) hll) p4') ?_
   refine az ?_
   refine aj _ rfl (fun hc=>absurd hc av1) (fun _=>?_)
   refine run ?_
   refine dK L.hw (⟨O2,kR cpu (.slice pj S.seen.length cj) S,46⟩::⟨O,kR cpu (.slice pg S.seen.length cg) S,46⟩::⟨X,(dD S.r).toArray,30⟩::⟨Nb,#[.slice pe S.ws.length ce],24⟩::(⟨X2,(dD S.r).toArray,30⟩::⟨N2,#[.slice ph S.ws.length ch],24⟩::⟨A,#[.slice qc wk.length cc],24⟩::⟨Rb,(dD rk).toArray,30⟩::⟨Mb,#[.slice qa wk.length ca],24⟩::((M.hl++M.hs++(M.hw++M.ht))++(L.hs++(L.hl++L.ht))++(hw++hl++ht)++(ha++hb2++ht2)++[⟨B,lU (.slice q1 ws.length c1) (.slice q2 ts.length c2) (.slice (some ⟨b3,zq,none⟩) ps.length c3) r cpu two,36⟩]))) (fun wc hG=>FN S.ws FP.uZ g1 hG.dG au') (fun v hn hR=>?_) au
   obtain rfl:=hR
   refine aJ ((⟨X2,(dD S.r).toArray,30⟩::⟨N2,#[.slice ph S.ws.length ch],24⟩::⟨A,#[.slice qc wk.length cc],24⟩::⟨Rb,(dD rk).toArray,30⟩::⟨Mb,#[.slice qa wk.length ca],24⟩::((M.hl++M.hs++(M.hw++M.ht))++(L.hl++L.ht)++(hw++hl++ht)++(ha++hb2++ht2)++[⟨B,lU (.slice q1 ws.length c1) (.slice q2 ts.length c2) (.slice (some ⟨b3,zq,none⟩) ps.length c3) r cpu two,36⟩]))) ak ?_
   refine run ?_
   refine dK (L.hl++L.ht) ((⟨X2,(dD S.r).toArray,30⟩::⟨N2,#[.slice ph S.ws.length ch],24⟩::⟨A,#[.slice qc wk.length cc],24⟩::⟨Rb,(dD rk).toArray,30⟩::⟨Mb,#[.slice qa wk.length ca],24⟩::((M.hl++M.hs++(M.hw++M.ht))++([])++(hw++hl++ht)++(ha++hb2++ht2)++[⟨B,lU (.slice q1 ws.length c1) (.slice q2 ts.length c2) (.slice (some ⟨b3,zq,none⟩) ps.length c3) r cpu two,36⟩]))) (fun wc hG=>Ih L.ts g2 hL.t hG.dG NV.1) (fun v hn hR=>?_) au
   obtain rfl:=hR
   refine aJ ((⟨X2,(dD S.r).toArray,30⟩::⟨N2,#[.slice ph S.ws.length ch],24⟩::⟨A,#[.slice qc wk.length cc],24⟩::⟨Rb,(dD rk).toArray,30⟩::⟨Mb,#[.slice qa wk.length ca],24⟩::((M.hl++M.hs++(M.hw++M.ht))++([])++(hw++hl++ht)++(ha++hb2++ht2)++[⟨B,lU (.slice q1 ws.length c1) (.slice q2 ts.length c2) (.slice (some ⟨b3,zq,none⟩) ps.length c3) r cpu two,36⟩]))) ak ?_
   refine run ?_
   refine ax (fun wc hG=>EE wk _ _ (p1'.lie (fun e he=>hG.here e aw1) av3) (o1.lie (fun e he=>hG.here e aw1) av3)) ?_
   refine az ?_
   refine aZ (fun _ wc hG=>BL tb tk (jf (hl:=hb2) (ht:=ht2) p2' Sv (fun e he=>hG.here e av9) au') (jf (hl:=hl) (ht:=ht) o2 o3 (fun e he=>hG.here e av9) hll) p4') ?_
   refine az ?_
   refine aj _ rfl (fun hc=>absurd hc av1) (fun _=>?_)
   refine run ?_
   have aa7:∀ t∈M.ts,t.es.length≤8∧t.ds.length≤8:=fun t ht=>by
    have h1:t.p∈S.ls:=by rw [← hM.p];exact List.mem_map.2 ⟨t,ht,rfl⟩
    exact (dO (FP.es _ h1).vI).2
   refine oV 7 5 [0,2,3] [1,4] [5,6] [⟨X2,(dD S.r).toArray,30⟩] ?_
   refine dh ?_
   refine iW (fun wc hG=>qH S.ws (.slice ph S.ws.length ch) (by
    rcases k1 with ⟨e1,e2⟩ | k1
    ·rw [e1,e2];exact o1.lie (fun e he=>hG.here e aw1) av3
    ·exact k1.lie (fun e he=>hG.here e aw1) av3) au') ?_ ?_
   ·obtain ⟨a1,b1,o1⟩:=fF (e:=25) (xs:=S.ws.map uV) (yj _) av3
    exact ⟨_,_,a1,b1,rfl,o1,aF.refl _⟩
   refine iW (fun wc hG=>sG M.ts (jf (hl:=M.hl) (ht:=M.ht) k2 hM.t (fun e he=>hG.here e av9) NV.2) NV.2 (fun t ht=>by have:=aa7 t ht;omega)) ?_ ?_
   ·obtain ⟨v,ha,hs,ts',o1,o2,o3⟩:=vw (ls:=M.ts.map dM.p) (by rw [List.length_map];exact NV.2)
    exact ⟨v,_,ha,hs,ts',o1,o2,o3,aF.refl _⟩
   refine gZ ?_
   rintro lv7 ZC ⟨hl7,ht7,ts7,r2,r3,r4,Cm⟩ _ hn6 ⟨wv7,hw7,rfl,r1,aj1⟩
   obtain ⟨pk7,ck7,xk7,aj6⟩:=r1.jS
   obtain ⟨pl7,cl7,xl7⟩:=r2.opened
   rw [List.length_map] at xk7 xl7 aj6
   subst xk7 xl7
   simp only [DN,List.cons_append,List.nil_append,List.append_nil]
   refine qg (b:=Mb) (tb:=24) (cs:=#[.slice qa wk.length ca]) (cs':=#[.slice pk7 S.ws.length ck7]) (hp':=⟨X2,(dD S.r).toArray,30⟩::⟨N2,#[.slice ph S.ws.length ch],24⟩::⟨A,#[.slice qc wk.length cc],24⟩::⟨Rb,(dD rk).toArray,30⟩::(ZC++(hn6++((M.hl++M.hs++(M.hw++M.ht))++[]++(hw++hl++ht)++(ha++hb2++ht2)++[⟨B,lU (.slice q1 ws.length c1) (.slice q2 ts.length c2) (.slice (some ⟨b3,zq,none⟩) ps.length c3) r cpu two,36⟩])))) ?_ (hput:=rfl) (hperm:=by (exact au))
   refine iO (b:=Rb) (tb:=30) (cs:=(dD rk).toArray) (vs:=dD S.r) (pq:=rfl) (dD S.r).toArray (hp':=⟨Mb,#[.slice pk7 S.ws.length ck7],24⟩::⟨X2,(dD S.r).toArray,30⟩::⟨N2,#[.slice ph S.ws.length ch],24⟩::⟨A,#[.slice qc wk.length cc],24⟩::(ZC++(hn6++((M.hl++M.hs++(M.hw++M.ht))++[]++(hw++hl++ht)++(ha++hb2++ht2)++[⟨B,lU (.slice q1 ws.length c1) (.slice q2 ts.length c2) (.slice (some ⟨b3,zq,none⟩) ps.length c3) r cpu two,36⟩])))) ?_ (hperm:=by (exact au))
   refine aH ?_
   refine di ?_
   refine run ?_
   have aj7:∀ t∈ts7,t.es.length + t.ds.length≤3000:=fun t ht=>by
    have h1:t.p∈M.ts.map dM.p:=by rw [← r4];exact List.mem_map.2 ⟨t,ht,rfl⟩
    obtain ⟨t',h2,h3⟩:=List.mem_map.1 h1
    have h4:=aa7 t' h2
    have h5:t'.es=t.es∧t'.ds=t.ds:=by simpa [dM.p] using h3
    rw [h5.1,h5.2] at h4;omega
   have as3:ts7.length=M.ts.length:=by simpa using congrArg List.length r4
   exact bH (⟨k + 1,S.ws,S.r,ts7,.slice pk7 S.ws.length ck7,hw7,.slice pl7 ts7.length cl7,hl7,ht7⟩:ExS) (hm:=by dsimp only;omega) ⟨by dsimp only;omega,FP.uZ,FP.r,by dsimp only;omega,by dsimp only;omega,aj7,r1,r2,r3⟩ (h2:=by dsimp only;(refine bU fun a=>?_;have:=aF.cnt aj1 a;have:=aF.cnt Cm a;simp only [dZ,bJ,kK] at *;omega))
 ·refine run ?_
  refine ax (fun wc hG=>D6 wc) ?_
  refine run ?_
  exact fin1 rfl
theorem bG.FC {v:Nat} (h:bG.Be v=true):(bG.of v).may=true:=by
 have h':=h
 unfold bG.Be at h'
 unfold bG.of
 rw [h]
 simp only [Bool.and_eq_true] at h'
 exact h'.1
structure OpS where
 k:Nat
 ys:List Nat
 hw:Hp
set_option maxHeartbeats 4000000 in
theorem sH {w:World} {wv lv pv ov:Value} {ws:List Nat} {ts:List dM} {ps:List vg} {r:aC} (cpu:Int) (two:bQ) (h:lW w wv lv pv ws ts ps r) (lo:List Int) (h0:0<lo.length) (h4:lo.length≤4) (hlo:∀ x∈lo,1≤x∧x≤16) (hs:aB w ov 1 (lo.map dH)):Fn Tryz.prog 33 [.agg (lU wv lv pv r cpu two),ov].toArray w [] (fun u _=>u=.bool true):=by
 have h':=h
 have hs':=hs
 obtain ⟨q1,c1,rfl,hwc⟩:=h.N8
 obtain ⟨q2,c2,rfl,hne2,_⟩:=h.tl.rows.opened
 obtain ⟨q3,c3,rfl,Rl,_⟩:=h.sp.opened
 obtain ⟨q4,c4,rfl,aj8,_⟩:=hs.opened
 refine enter Tryz.func33 ?_
 refine run ?_
 intro B
 refine Gs (fun wc hG=>DX cpu two (h'.good hG)) ?_
 rintro _ ⟨hb,rfl,hsm⟩
 refine az ?_
 refine aZ (fun _ wc hG=>Qe ws.length c1 q1 wc) ?_
 refine az ?_
 refine aj _ rfl (fun hc=>?_) (fun hc=>?_)
 ·refine run ?_
  exact fin1 rfl
 refine run ?_
 intro Q
 obtain ⟨rfl,hmem⟩:hb=false∧dQ ws.length=true:=by simpa using hc
 obtain ⟨hsum,hes⟩:=hsm rfl
 refine aJ [⟨Q,lU (.slice q1 ws.length c1) (.slice q2 ts.length c2) (.slice q3 ps.length c3) r cpu two,36⟩,⟨B,lU (.slice q1 ws.length c1) (.slice q2 ts.length c2) (.slice q3 ps.length c3) r cpu two,36⟩] (aF.refl _) ?_
 refine gX (fun wc hG=>qH ws _ (h'.sw.good hG) au') ?_
 rintro _ hn ⟨wv0,hw0,rfl,o1,hle1⟩
 obtain ⟨qa,ca,xa,hca⟩:=o1.jS
 rw [List.length_map] at xa hca
 subst xa
 refine aJ (⟨Q,lU (.slice q1 ws.length c1) (.slice q2 ts.length c2) (.slice q3 ps.length c3) r cpu two,36⟩::(hw0++[⟨B,lU (.slice q1 ws.length c1) (.slice q2 ts.length c2) (.slice q3 ps.length c3) r cpu two,36⟩])) (cnt1 hle1) ?_
 refine VX ?_
 refine gz (cs:=lU (.slice q1 ws.length c1) (.slice q2 ts.length c2) (.slice q3 ps.length c3) r cpu two) (lU (.slice qa ws.length ca) (.slice q2 ts.length c2) (.slice q3 ps.length c3) r cpu two) ?_
 refine run ?_
 refine cO (σ:=OpS) (fun s=>[(6,.int .i64 (s.k:Int))]) (fun s=>⟨Q,lU (.slice qa ws.length ca) (.slice q2 ts.length c2) (.slice q3 ps.length c3) r cpu two,36⟩::(s.hw++[⟨B,lU (.slice q1 ws.length c1) (.slice q2 ts.length c2) (.slice q3 ps.length c3) r cpu two,36⟩])) (fun s=>s.k≤ws.length∧s.ys.length=ws.length∧tu s.ys∧Own 25 1 (.slice qa ws.length ca) s.hw (s.ys.map uV)) (fun s=>ws.length - s.k) ⟨0,ws,hw0⟩ ⟨Nat.zero_le _,rfl,h.uZ,o1⟩ ?_
 clear o1 hle1
 rintro ⟨k,ys,hw⟩ m hm ⟨hk,hyl,CB,hO⟩
 dsimp only at hm hk hyl CB hO ⊢
 have hwl:ws.length≤3000:=by omega
 refine run ?_
 refine aj _ rfl (fun hc1=>?_) (fun hc1=>?_)
 rotate_left
 ·refine run ?_
  rw [show (List.take 22 (lU (.slice qa ws.length ca) (.slice q2 ts.length c2) (.slice q3 ps.length c3) r cpu two).toList).toArray=lU (.slice qa ws.length ca) (.slice q2 ts.length c2) (.slice q3 ps.length c3) r cpu two from rfl]
  refine ax (fun wc hG=>BP (wv:=.slice qa ws.length ca) (lv:=.slice q2 ts.length c2) (pv:=.slice q3 ps.length c3) (ws:=ys) (ts:=ts) (ps:=ps) (r:=r) cpu two ⟨CB,h.r,hO.lie (fun e he=>hG.here e aw1) av3,⟨qa,ca,by rw [hyl],by rw [hyl];exact hca⟩,(h'.good hG).tl,h.aa0,(h'.good hG).sp,by omega,h.ll,h.el,h.pl⟩) ?_
  refine run ?_
  exact fin1 rfl
 have hlt:k<ws.length:=by simpa using hc1
 refine run ?_
 refine eH av2 (lK rfl rfl k 8 rfl rfl av1 au') ?_
 refine az ?_
 refine Oz av2 rfl rfl av2 (v:=.int .i64 ((k / 8:Nat):Int)) (fun hg=>by (simp only [hg,bZ];exact lK rfl rfl k 8 rfl rfl av1 au')) ?_
 refine az ?_
 refine aj _ rfl (fun hc2=>?_) (fun hc2=>?_)
 ·refine run ?_
  exact bH ⟨k + 1,ys,hw⟩ (hm:=by dsimp only;omega) ⟨hlt,hyl,CB,hO⟩
 have hfr:20≤k / 8∧k / 8≤23:=by simp at hc2;omega
 obtain ⟨g,cap',cur,eg,rfl,hsz,hset⟩:=hO.TU (k:=k) au'
 rw [hyl] at eg
 cases eg
 have hn:=hO.Z9 (k:=k) au'
 have hv64:=CB.at k
 generalize hx:ys.getD k 0=x at hn hv64
 refine run ?_
 refine cO (σ:=Nat × Nat) (fun z=>[(8,.int .i64 (z.1:Int)),(7,.int .u64 (z.2:Int))]) (fun z=>⟨Q,lU (.slice (some ⟨g,0,none⟩) ws.length ca) (.slice q2 ts.length c2) (.slice q3 ps.length c3) r cpu two,36⟩::⟨g,cur,25⟩::[⟨B,lU (.slice q1 ws.length c1) (.slice q2 ts.length c2) (.slice q3 ps.length c3) r cpu two,36⟩]) (fun z=>z.1≤2∧z.2<18446744073709551616) (fun z=>2 - z.1) (0,0) ⟨by decide,by decide⟩ ?_
 rintro ⟨j,v⟩ m2 hm2 ⟨hj,hv⟩
 dsimp only at hm2 hj hv ⊢
 refine run ?_
 refine aj _ rfl (fun hc3=>?_) (fun hc3=>?_)
 rotate_left
 ·refine run ?_
  exact bH ⟨k + 1,ys.set k v,[⟨g,cur.setIfInBounds k (.int .u64 (v:Int)),25⟩]⟩ (hm:=by dsimp only;omega) ⟨hlt,by rw [List.length_set];exact hyl,CB.set hv _,by rw [← hyl];exact hset _⟩ (h2:=by (exact ak))
 have hj2:j<2:=by simp at hc3;omega
 refine run ?_
 refine eH av2 (uw rfl rfl x (32 * j) rfl au' au') ?_
 refine run ?_
 refine eH av2 (jk ay rfl rfl rfl) ?_
 rw [show IntKind.u32.wrap ((x >>> (32 * j):Nat):Int)=((x >>> (32 * j) % 4294967296:Nat):Int) by rw [IntKind.wrap_u32'];omega]
 have hu:x >>> (32 * j) % 4294967296<4294967296:=Nat.mod_lt _ av1
 generalize x >>> (32 * j) % 4294967296=u at hu
 refine ax (fun wc hG=>KJ u hu wc) ?_
 refine run ?_
 intro X
 obtain ⟨b4,o4,rfl⟩:=aj8 (by intro e;rw [e] at h0;simp at h0)
 have hli:(k + j) % lo.length<lo.length:=Nat.mod_lt _ h0
 have hr4:=cZ (hs.row hli)
 have hop:=hlo _ (getD_mem hli)
 refine eH av2 (fP rfl rfl (k + j) lo.length au' rfl h0) ?_
 generalize (k + j) % lo.length=i4 at hli hr4 hop
 generalize lo.getD i4 default=op at hr4 hop
 simp only [Nat.mul_one] at hr4
 refine run ?_
 refine eH av2 (fP rfl rfl k 5 rfl rfl av1) ?_
 refine run ?_
 refine eH av2 (fP rfl rfl k 8 rfl rfl av1) ?_
 refine run ?_
 refine eH av2 (fP rfl rfl k 4 rfl rfl av1) ?_
 refine run ?_
 refine eH av2 (fP rfl rfl k 3 rfl rfl av1) ?_
 refine run ?_
 intro Y
 refine dX (σ:=bG) (fun _=>[]) (fun y=>⟨Y,(Iu y).toArray,41⟩::⟨X,(Iu (bG.of u)).toArray,41⟩::⟨Q,lU (.slice (some ⟨g,0,none⟩) ws.length ca) (.slice q2 ts.length c2) (.slice q3 ps.length c3) r cpu two,36⟩::⟨g,cur,25⟩::[⟨B,lU (.slice q1 ws.length c1) (.slice q2 ts.length c2) (.slice q3 ps.length c3) r cpu two,36⟩]) (fun y=>y.Fit) ?_ ?_
 ·refine aj _ rfl (fun hc4=>?_) (fun hc4=>?_)
  ·have hF:=bG.Aa (bG.FC hc4)
   obtain ⟨f1,f2,f3,f4,f5⟩:=hF
   generalize bG.of u=y at f1 f2 f3 f4 f5
   refine run ?_
   refine Az 8 [⟨X,#[.int .i64 y.op,.int .i64 y.d,.int .i64 y.n,.int .i64 y.m,.int .i64 y.aW],41⟩,⟨Q,lU (.slice (some ⟨g,0,none⟩) ws.length ca) (.slice q2 ts.length c2) (.slice q3 ps.length c3) r cpu two,36⟩,⟨g,cur,25⟩,⟨B,lU (.slice q1 ws.length c1) (.slice q2 ts.length c2) (.slice q3 ps.length c3) r cpu two,36⟩] ?_
   refine Jc ?_
   refine Kt rfl ax1 (fun hx=>YU rfl rfl au' au') ?_
   refine Jc ?_
   refine run ?_
   refine az ?_
   refine aj _ rfl (fun hc5=>?_) (fun hc5=>?_)
   ·refine run ?_
    exact dA ⟨op,y.d,y.n,y.m % 4,y.aW⟩ ⟨by dsimp only;omega,f2,f3,by dsimp only;omega,f5⟩
   ·refine run ?_
    exact dA ⟨op,y.d,y.n,y.m % 4,(k % 3:Nat) + 2⟩ ⟨by dsimp only;omega,f2,f3,by dsimp only;omega,by dsimp only;omega⟩
  ·refine run ?_
   exact dA ⟨op,1 + (k % 5:Nat),(k % 8:Nat),(k % 4:Nat),(k % 3:Nat) + 2⟩ ⟨by dsimp only;omega,by dsimp only;omega,by dsimp only;omega,by dsimp only;omega,by dsimp only;omega⟩
 rintro y hy
 refine run ?_
 have hwd:=bG.QG hy
 refine ax (fun wc hG=>yV y hy wc) ?_
 refine run ?_
 refine eH av2 (mF rfl rfl y.wd (32 * j) rfl au' au') ?_
 refine eH av2 (uu rfl rfl v (y.wd <<< (32 * j) % 18446744073709551616) rfl rfl hv (Nat.mod_lt _ av1)) ?_
 refine run ?_
 exact bH (j + 1,v ||| y.wd <<< (32 * j) % 18446744073709551616) (hm:=by dsimp only;omega) ⟨by dsimp only;omega,Nat.or_lt_two_pow (n:=64) hv (Nat.mod_lt _ av1)⟩
theorem y8 {w:World} {wv lv pv:Value} {ws:List Nat} {ts:List dM} {ps:List vg} {r:aC} {cpu:Int} {two:bQ} (h:lW w wv lv pv ws ts ps r):Fn Tryz.prog 6 [.agg (lU wv lv pv r cpu two)].toArray w [] (fun u _=>u=.bool true):=by
 refine enter Tryz.func6 ?_
 refine run ?_
 intro S B
 refine ax (fun wc hG=>sH cpu two (h.good hG) [1,2,3,6] av1 av1 av1 (dL (xs:=([1,2,3,6].map dH)) (hG.here ⟨B,#[.int .i64 1,.int .i64 2,.int .i64 3,.int .i64 6],3⟩ av4) ax3 av4)) ?_
 refine run ?_
 exact fin1 rfl
theorem BQ {w:World} {wv lv pv:Value} {ws:List Nat} {ts:List dM} {ps:List vg} {r:aC} {cpu:Int} {two:bQ} (h:lW w wv lv pv ws ts ps r):Fn Tryz.prog 7 [.agg (lU wv lv pv r cpu two)].toArray w [] (fun u _=>u=.bool true):=by
 refine enter Tryz.func7 ?_
 refine run ?_
 intro S B
 refine ax (fun wc hG=>sH cpu two (h.good hG) [7,7,1] av1 av1 av1 (dL (xs:=([7,7,1].map dH)) (hG.here ⟨B,#[.int .i64 7,.int .i64 7,.int .i64 1],3⟩ av4) ax3 av4)) ?_
 refine run ?_
 exact fin1 rfl
theorem zF {w:World} {wv lv pv:Value} {ws:List Nat} {ts:List dM} {ps:List vg} {r:aC} {cpu:Int} {two:bQ} (h:lW w wv lv pv ws ts ps r):Fn Tryz.prog 8 [.agg (lU wv lv pv r cpu two)].toArray w [] (fun u _=>u=.bool true):=by
 refine enter Tryz.func8 ?_
 refine run ?_
 intro S B
 refine ax (fun wc hG=>sH cpu two (h.good hG) [8,8,1] av1 av1 av1 (dL (xs:=([8,8,1].map dH)) (hG.here ⟨B,#[.int .i64 8,.int .i64 8,.int .i64 1],3⟩ av4) ax3 av4)) ?_
 refine run ?_
 exact fin1 rfl
theorem BR {w:World} {wv lv pv:Value} {ws:List Nat} {ts:List dM} {ps:List vg} {r:aC} {cpu:Int} {two:bQ} (h:lW w wv lv pv ws ts ps r):Fn Tryz.prog 9 [.agg (lU wv lv pv r cpu two)].toArray w [] (fun u _=>u=.bool true):=by
 refine enter Tryz.func9 ?_
 refine run ?_
 intro S B
 refine ax (fun wc hG=>sH cpu two (h.good hG) [9,10,1] av1 av1 av1 (dL (xs:=([9,10,1].map dH)) (hG.here ⟨B,#[.int .i64 9,.int .i64 10,.int .i64 1],3⟩ av4) ax3 av4)) ?_
 refine run ?_
 exact fin1 rfl
theorem y9 {w:World} {wv lv pv:Value} {ws:List Nat} {ts:List dM} {ps:List vg} {r:aC} {cpu:Int} {two:bQ} (h:lW w wv lv pv ws ts ps r):Fn Tryz.prog 10 [.agg (lU wv lv pv r cpu two)].toArray w [] (fun u _=>u=.bool true):=by
 refine enter Tryz.func10 ?_
 refine run ?_
 intro S B
 refine ax (fun wc hG=>sH cpu two (h.good hG) [11,12,1,16] av1 av1 av1 (dL (xs:=([11,12,1,16].map dH)) (hG.here ⟨B,#[.int .i64 11,.int .i64 12,.int .i64 1,.int .i64 16],3⟩ av4) ax3 av4)) ?_
 refine run ?_
 exact fin1 rfl
theorem zG {w:World} {wv lv pv:Value} {ws:List Nat} {ts:List dM} {ps:List vg} {r:aC} {cpu:Int} {two:bQ} (h:lW w wv lv pv ws ts ps r):Fn Tryz.prog 11 [.agg (lU wv lv pv r cpu two)].toArray w [] (fun u _=>u=.bool true):=by
 refine enter Tryz.func11 ?_
 refine run ?_
 intro S B
 refine ax (fun wc hG=>sH cpu two (h.good hG) [13,14,7,1] av1 av1 av1 (dL (xs:=([13,14,7,1].map dH)) (hG.here ⟨B,#[.int .i64 13,.int .i64 14,.int .i64 7,.int .i64 1],3⟩ av4) ax3 av4)) ?_
 refine run ?_
 exact fin1 rfl
theorem BU {w:World} {wv lv pv:Value} {ws:List Nat} {ts:List dM} {ps:List vg} {r:aC} {cpu:Int} {two:bQ} (h:lW w wv lv pv ws ts ps r):Fn Tryz.prog 12 [.agg (lU wv lv pv r cpu two)].toArray w [] (fun u _=>u=.bool true):=by
 refine enter Tryz.func12 ?_
 refine run ?_
 intro S B
 refine ax (fun wc hG=>sH cpu two (h.good hG) [15,1] av1 av1 av1 (dL (xs:=([15,1].map dH)) (hG.here ⟨B,#[.int .i64 15,.int .i64 1],3⟩ av4) ax3 av4)) ?_
 refine run ?_
 exact fin1 rfl
end
end Go.Proofs.YtndklbjnofdgeaaGreat
