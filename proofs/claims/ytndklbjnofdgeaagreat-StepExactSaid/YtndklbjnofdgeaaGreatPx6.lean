/- Texts of one's own, merged: the engine, what the functions do, plain laws. -/
import Derived.Test.YtndklbjnofdgeaaGreatPx5
namespace Go.Proofs.YtndklbjnofdgeaaGreat
open Go.RowKit
set_option linter.unusedVariables false
set_option linter.unusedSimpArgs false
set_option maxRecDepth 20000
section
attribute [local irreducible] Hy St Ops DH gq iK iD fQ DS fB kz
theorem La (wv sv lv:Value) (cpu:Nat) (two:eu) (s:PS) {k:Nat} (h:k<8):nth (fG wv sv lv cpu two s).toList (1 + k)=some (.int .u64 (s.r.x k:Nat)):=by
 match k,h with
 | 0,_=>rfl | 1,_=>rfl | 2,_=>rfl | 3,_=>rfl | 4,_=>rfl | 5,_=>rfl | 6,_=>rfl | 7,_=>rfl
theorem Bo (wv sv lv:Value) (cpu:Nat) (two:eu) (s:PS) {k:Nat} (h:k<8) (v:Nat):putAt (fG wv sv lv cpu two s) (1 + k) [.int .u64 (v:Nat)]=fG wv sv lv cpu two { s with r:=s.r.ku k v }:=by
 match k,h with
 | 0,_=>rfl | 1,_=>rfl | 2,_=>rfl | 3,_=>rfl | 4,_=>rfl | 5,_=>rfl | 6,_=>rfl | 7,_=>rfl
def ZL (wv:Value) (ws:List Nat) (M cpu:Nat) (two:eu) (s:PS) (v:Value) (u:Value) (hn:Hp):Prop:=u=v∧∃ L,lN wv ws L s∧aC (L.pO M cpu two s) hn
theorem lN.trap {wv:Value} {ws:List Nat} {L:ML} {s:PS} (h:lN wv ws L s) (a b:Nat):lN wv ws L (lM s a b):=⟨h.w,h.c,h.q,h.l,h.t,h.p⟩
theorem ZM (a:Nat):decide ((a:Int)=0)=decide (a=0):=by rw [Bool.eq_iff_iff];simp
theorem Rj (wv:Value) (ws:List Nat) (L:ML) (M cpu:Nat) (two:eu) (s:PS) (hL:lN wv ws L s) (hs:fD s cpu two) (hq:s.seen.length<90000) (hov:s.over=false) (op aV:Int) (D N K:Nat) (hi:(⟨op,D,N,K,aV⟩:bF).may=true) (hop:op=7∨op=8) {w:World} (hm:dK w ((L.pO M cpu two s).map (·.b)) wv 1 (ws.map uV)) (hN:eF (L.pO M cpu two s) w):Fn Tryz.prog 85 [.pointer (some ⟨M,0,none⟩),.agg #[.int .i64 op,.int .i64 (D:Nat),.int .i64 (N:Nat),.int .i64 (K:Nat),.int .i64 aV]].toArray w ((L.pO M cpu two s).map (·.b)) (ZL wv ws M cpu two (sD s cpu two ⟨op,D,N,K,aV⟩) (.bool (!(sD s cpu two ⟨op,D,N,K,aV⟩).over))):=by
 have hb:PtD.bV (D:Int) 0 7=true∧PtD.bV (N:Int) 0 7=true∧PtD.bV (K:Int) 0 7=true:=by
  simp only [bF.may,bF.base,Bool.and_eq_true] at hi
  exact ⟨hi.1.2.1,hi.1.2.2.1,hi.1.2.2.2.1⟩
 obtain ⟨hD,hN',hK⟩:D<8∧N<8∧K<8:=by
  simp only [PtD.bV,Bool.and_eq_true,decide_eq_true_eq] at hb;omega
 have hsz:=Fa hi hop
 have hsz':2 ^ K=1∨2 ^ K=2∨2 ^ K=4∨2 ^ K=8:=hsz
 have hK3:=k3 hsz'
 have hxN:=La L.wv L.sv L.lv cpu two s hN'
 refine dY (aH.mk M (fG L.wv L.sv L.lv cpu two s) 92::(L.hl++L.hs++(L.hw++L.ht))) hN Tryz.func85 ?_
 refine run ?_
 intro I
 refine run ?_
 refine eG ?_
 refine bW ?_
 refine qf (jr ay rfl rfl rfl) ?_
 refine bW ?_
 rw [Dx]
 rw [show uW ((s.r.x N:Nat) + aV)=s.addr ⟨op,D,N,K,aV⟩ from rfl]
 have ha0:gm (s.addr ⟨op,D,N,K,aV⟩):=Dt _
 unfold sD
 obtain ⟨Z,hZ⟩:∃ Z,Z=s.addr ⟨op,D,N,K,aV⟩:=⟨_,rfl⟩
 obtain ⟨ac,hac⟩:∃ ac,ac=bF.acc ⟨op,D,N,K,aV⟩:=⟨_,rfl⟩
 have XP:PtD.bV ac 0 2=true:=by rw [hac];unfold bF.acc;cases decide (op=8)<;>rfl
 rw [← hZ] at ha0 ⊢
 rw [← hac]
 dsimp only [Int.toNat_natCast]
 obtain ⟨h1,h2,h3⟩:=lC hs ha0 ac
 refine run ?_
 refine fA au2 (wu rfl rfl at7 (by show (K:Int)≤64;omega)) ?_
 rw [Dy hK3]
 refine run ?_
 refine fA au2 (iG rfl rfl Z (2 ^ K) rfl rfl at7) ?_
 refine run ?_
 rw [ZM]
 cases hd:decide (Z % 2 ^ K=0) with
 | false=>
  simp only [cond_false]
  refine aW ?_
  refine dH [aH.mk M (fG L.wv L.sv L.lv cpu two s) 92] (aH.mk I #[.int .i64 op,.int .i64 (D:Nat),.int .i64 (N:Nat),.int .i64 (K:Nat),.int .i64 aV] 41::(L.hl++L.hs++(L.hw++L.ht))) (fun wc hG=>yf L.wv L.sv L.lv cpu two s 16777216 Z M hG.dD) (fun v hn hv=>?_) au
  obtain ⟨rfl,hle⟩:=hv
  refine run ?_
  exact fin1 ⟨rfl,L,hL.trap _ _,by unfold ML.pO;(exact cnt1 hle)⟩
 | true=>
  simp only [cond_true]
  refine aW ?_
  refine dW (σ:=Unit) (fun _=>[(7,.int .i64 ac),(6,.int .i64 (2 ^ K:Nat)),(5,.int .u64 (Z:Nat)),(3,.pointer (some ⟨I,0,none⟩)),(0,.pointer (some ⟨M,0,none⟩))]) (fun _=>aH.mk I #[.int .i64 op,.int .i64 (D:Nat),.int .i64 (N:Nat),.int .i64 (K:Nat),.int .i64 aV] 41::aH.mk M (fG L.wv L.sv L.lv cpu two s) 92::(L.hl++L.hs++(L.hw++L.ht))) (fun _=>True) ?_ ?_
  ·refine aj _ rfl (fun hc=>?_) (fun hc=>?_)
   ·rw [show ac=1 by rw [hac];unfold bF.acc;rw [hc];rfl]
    refine run ?_
    exact dA () trivial
   ·rw [show ac=0 by rw [hac];unfold bF.acc;rw [hc];rfl]
    refine run ?_
    exact dA () trivial
  rintro _ _
  refine run ?_
  refine dH (aH.mk M (fG L.wv L.sv L.lv cpu two s) 92::(L.hl++L.hs++(L.hw++L.ht))) [aH.mk I #[.int .i64 op,.int .i64 (D:Nat),.int .i64 (N:Nat),.int .i64 (K:Nat),.int .i64 aV] 41] (fun wc hG=>yg wv ws L M cpu two s hL hs at7 hov Z ha0 ac XP (hm.into hG) hG.dD) (fun v hn2 hv=>?_) au
  obtain ⟨rfl,L2,hL2,hle2⟩:=hv
  generalize bU s cpu two Z ac=P at h1 h2 h3 hL2 hle2 ⊢
  unfold ML.pO at hle2
  refine aI (aH.mk I #[.int .i64 op,.int .i64 (D:Nat),.int .i64 (N:Nat),.int .i64 (K:Nat),.int .i64 aV] 41::aH.mk M (fG L2.wv L2.sv L2.lv cpu two P.1) 92::(L2.hl++L2.hs++(L2.hw++L2.ht))) (cnt1 hle2) ?_
  refine run ?_
  refine aj _ rfl (fun hc=>?_) (fun hc=>?_)
  ·have hc':P.1.over=true:=by simpa using hc
   rw [uH hc',hc']
   refine run ?_
   exact fin1 ⟨rfl,L2,hL2,by unfold ML.pO;(exact ak)⟩
  have hc':P.1.over=false:=by simpa using hc
  rw [lV hc']
  obtain ⟨hws,hr,_,a,ha2,hlt,hmm⟩:=h3 hc'
  have hpl:xZ P.1.ws a (2 ^ K):=KQ h1 (by rw [hws];exact hlt) hmm hsz' (of_decide_eq_true hd)
  obtain ⟨wp,wc,ew,hwc⟩:=hL2.c
  have hml:∀ w' hp',Good w ((L.pO M cpu two s).map (·.b)) hp' w'→Here L2.hw w'→aB w' L2.wv 1 (P.1.ws.map uV):=fun w' hp' hG hw=>hL2.read hm hG hw (by have:=bC h1.mem;omega)
  have hxD:=La (.slice wp P.1.ws.length wc) L2.sv L2.lv cpu two P.1 hD
  rw [ew] at hml ⊢
  rw [← hws,← hr,ha2,Int.toNat_natCast]
  refine run ?_
  refine aj _ rfl (fun hc8=>?_) (fun hc8=>?_)
  ·rw [uH hc8]
   refine run ?_
   refine iQ 16 [0,1,2,3,4,5,6,7,8,9,10,11,12,13,14] [15] [] [16,17] [18] ?_
   refine eX ?_
   refine iU (fun wc' hG=>He P.1.ws a (2 ^ K) (P.1.r.x D) hpl (dB.x_lt h1.r D) (hml wc' _ hG (fun e he=>hG.here e av1))) ?_ ?_
   ·obtain ⟨a1,b1,o1⟩:=fE (e:=25) (xs:=(gG P.1.ws a (2 ^ K) (P.1.r.x D)).map uV) (x8 _) (by have:=bC h1.mem;rw [List.length_map,gG,List.length_set];omega)
    exact ⟨_,_,a1,b1,rfl,o1,aC.refl _⟩
   refine gW ?_
   rintro u hn ⟨v',h',rfl,g1,hle3⟩
   refine eY ?_
   refine jR ?_
   refine rF ?_
   refine eY ?_
   simp only [DN,List.cons_append,List.nil_append,List.append_nil]
   obtain ⟨q1,c1,e1,UN⟩:=g1.kN
   rw [List.length_map] at e1 UN
   subst e1
   refine iM (b:=M) (tb:=92) (cs:=fG (.slice wp P.1.ws.length wc) L2.sv L2.lv cpu two P.1) (fG (.slice q1 (gG P.1.ws a (2 ^ K) (P.1.r.x D)).length c1) L2.sv L2.lv cpu two { P.1 with ws:=gG P.1.ws a (2 ^ K) (P.1.r.x D) }) (hp':=hn++(aH.mk I #[.int .i64 op,.int .i64 (D:Nat),.int .i64 (N:Nat),.int .i64 (K:Nat),.int .i64 aV] 41::(L2.hl++L2.hs++(L2.hw++L2.ht)))) ?_ (hperm:=by (exact au))
   refine aG ?_
   refine cO ?_
   refine run ?_
   exact fin1 ⟨by rw [hc'],⟨.slice q1 (gG P.1.ws a (2 ^ K) (P.1.r.x D)).length c1,L2.sv,L2.lv,L2.ts,h',L2.hs,L2.hl,L2.ht⟩,⟨.inr g1,⟨_,_,rfl,UN⟩,hL2.q,hL2.l,hL2.t,hL2.p⟩,by unfold ML.pO;(exact cnt1 hle3)⟩
  ·rw [lV hc8]
   refine run ?_
   refine dI 15 14 [0,1,2,3,4,5,6,7,8,9,10,11,12,13] [14] [] ?_
   refine bY ?_
   refine kS (fun wc' hx hG=>KN P.1.ws a (2 ^ K) hpl (hml wc' _ hG (fun e he=>hG.here e av1))) ?_
   refine bY ?_
   refine iM (b:=M) (tb:=92) (cs:=fG (.slice wp P.1.ws.length wc) L2.sv L2.lv cpu two P.1) (fG (.slice wp P.1.ws.length wc) L2.sv L2.lv cpu two { P.1 with r:=P.1.r.ku D (jf P.1.ws a (2 ^ K)) }) (hp':=aH.mk I #[.int .i64 op,.int .i64 (D:Nat),.int .i64 (N:Nat),.int .i64 (K:Nat),.int .i64 aV] 41::(L2.hl++L2.hs++(L2.hw++L2.ht))) ?_ (hperm:=by (exact au)) (hput:=Bo _ _ _ _ _ _ hD _) (hlt:=Nat.ble_eq_true_of_le (show 1 + D + 1≤56 by omega))
   refine aG ?_
   refine cO ?_
   refine run ?_
   exact fin1 ⟨by rw [hc'],L2,⟨hL2.w,hL2.c,hL2.q,hL2.l,hL2.t,hL2.p⟩,by unfold ML.pO;rw [ew];(exact ak)⟩
end
section
attribute [local irreducible] Hy St Ops DH gq iK iD fQ DS fB kz
theorem Lc (b:Nat) (aV:Int):∀ w',Here [⟨b,#[.int .i64 aV],3⟩] w'→aB w' (.slice (some ⟨b,0,none⟩) 1 1) 1 ([aV].map dN):=fun w' hh=>(Bl b aV).lie hh au3
theorem lN.tls {wv:Value} {ws:List Nat} {L:ML} {s:PS} {cpu:Nat} {two:eu} (h:lN wv ws L s) (hs:fD s cpu two) {w:World} (h1:Here L.hl w) (h2:Here L.ht w):qB w L.lv L.ts:=by
 have hlen:L.ts.length=s.ls.length:=by rw [← h.p,List.length_map]
 have:=hs.len
 exact ⟨h.l.lie h1 au1,fun t ht=>((h.t t ht).1 w h2).1,fun t ht=>((h.t t ht).1 w h2).2⟩
theorem lN.U4 {wv:Value} {ws:List Nat} {L:ML} {s:PS} {cpu:Nat} {two:eu} (h:lN wv ws L s) (hs:fD s cpu two):(∀ t∈L.ts,t.es.length≤t.ec)∧(∀ t∈L.ts,bJ t.es t.ds=true):=by
 refine ⟨fun t ht=>(h.t t ht).2,fun t ht=>?_⟩
 have hm:t.p∈s.ls:=by rw [← h.p];exact List.mem_map.2 ⟨t,ht,rfl⟩
 exact (hs.es _ hm).vg
section
variable {n : Nat} {w0 : World} {mu : List Nat} {l : Fm} {h0 hp hc : Hp} {all : Array Oper} {ds : List (Nat × Nat)} {t0 : Nat} {aF aK : Fm} {Y : Fm → Fm → Hp → Prop} {i d : Nat} {r : List (Nat × Bool)} {ty : TypeId} {pos : String} {af : Array Edge}
theorem XZ {s t:TypeId} {x:Operand} {k:IntKind} {p:Int} (h:CU Tryz.prog n w0 mu all ds l h0 hp t0 Y r ((i,.int .i64 p)::aF) aK hc) (b0:-9223372036854775808≤p) (b1:p≤9223372036854775807) (ho:all[i]?=some ⟨some d,.convert s t x,ty,pos,af,none⟩:=by rfl) (hx:ev (aA ds (aK++aF) af.toList++l) x=some (.int k p):=by rfl) (hs:lk Tb.ik s=some k:=by rfl) (ht:lk Tb.ik t=some .i64:=by rfl):CU Tryz.prog n w0 mu all ds l h0 hp t0 Y ((i,true)::r) aF aK hc:=
 ⟨_,_,ho,⟨rfl,fun a w hk _=>by
  have e:=wrap_in b0 b1
  simp only [execOp,hk.ev hx]
  simp [convert,run_underlying (ay.Z7 hs) w,run_underlying (ay.Z7 ht) w,Conv.intToInt,go_sem,e]⟩,h⟩
end
set_option maxHeartbeats 8000000 in
theorem X0 (wv:Value) (ws:List Nat) (L:ML) (M cpu:Nat) (two:eu) (s:PS) (hL:lN wv ws L s) (hs:fD s cpu two) (hq:s.seen.length<80000) (hov:s.over=false) {w:World} (hm:dK w ((L.pO M cpu two s).map (·.b)) wv 1 (ws.map uV)) (hN:eF (L.pO M cpu two s) w):Fn Tryz.prog 47 [.pointer (some ⟨M,0,none⟩)].toArray w ((L.pO M cpu two s).map (·.b)) (ZL wv ws M cpu two (oZ s cpu two) (.tuple #[])):=by
 obtain ⟨h1,h2,h3⟩:=lC hs hs.r.pc 2
 refine dY (aH.mk M (fG L.wv L.sv L.lv cpu two s) 92::(L.hl++L.hs++(L.hw++L.ht))) hN Tryz.func47 ?_
 refine run ?_
 refine fA au2 (iG rfl rfl s.r.pc 4 rfl rfl at7) ?_
 refine run ?_
 rw [ZM]
 unfold oZ kW
 cases hd:decide (s.r.pc % 4=0) with
 | false=>
  simp only [cond_false]
  rw [uH (show (lM s 16777216 s.r.pc).over=true from rfl)]
  refine aW ?_
  refine dH [aH.mk M (fG L.wv L.sv L.lv cpu two s) 92] (L.hl++L.hs++(L.hw++L.ht)) (fun wc hG=>yf L.wv L.sv L.lv cpu two s 16777216 s.r.pc M hG.dD) (fun v hn hv=>?_) (.refl _)
  obtain ⟨rfl,hle⟩:=hv
  refine run ?_
  exact fin0 ⟨rfl,L,hL.trap _ _,by unfold ML.pO;(exact cnt1 hle)⟩
 | true=>
  simp only [cond_true]
  refine aW ?_
  refine dH (aH.mk M (fG L.wv L.sv L.lv cpu two s) 92::(L.hl++L.hs++(L.hw++L.ht))) [] (fun wc hG=>yg wv ws L M cpu two s hL hs at7 hov s.r.pc hs.r.pc 2 rfl (hm.into hG) hG.dD) (fun v hn2 hv=>?_) au
  obtain ⟨rfl,L2,hL2,hle2⟩:=hv
  generalize bU s cpu two s.r.pc 2=P at h1 h2 h3 hL2 hle2 ⊢
  unfold ML.pO at hle2
  refine aI (aH.mk M (fG L2.wv L2.sv L2.lv cpu two P.1) 92::(L2.hl++L2.hs++(L2.hw++L2.ht))) (cnt1 hle2) ?_
  refine run ?_
  refine aj _ rfl (fun hc=>?_) (fun hc=>?_)
  ·have hc':P.1.over=true:=by simpa using hc
   rw [uH hc',uH hc']
   refine run ?_
   exact fin0 ⟨rfl,L2,hL2,by unfold ML.pO;(exact ak)⟩
  have hc':P.1.over=false:=by simpa using hc
  obtain ⟨hws,hr,hkd,a,ha2,hlt,hmm⟩:=h3 hc'
  have hpl:xZ P.1.ws a 4:=KQ h1 (by rw [hws];exact hlt) hmm (.inr (.inr (.inl rfl))) (of_decide_eq_true hd)
  obtain ⟨wp,wc,ew,hwc⟩:=hL2.c
  have hml:∀ w' hp',Good w ((L.pO M cpu two s).map (·.b)) hp' w'→Here L2.hw w'→aB w' L2.wv 1 (P.1.ws.map uV):=fun w' hp' hG hw=>hL2.read hm hG hw (by have:=bC h1.mem;omega)
  rw [ew] at hml ⊢
  rw [lV hc',← hws,← hr,ha2,Int.toNat_natCast]
  have hrl:jf P.1.ws a 4<4294967296:=Bh (.inr (.inr (.inl rfl)))
  refine run ?_
  refine ax (fun wc' hG=>KN P.1.ws a 4 hpl (hml wc' _ hG (fun e he=>hG.here e av1))) ?_
  refine run ?_
  refine fA au2 (jr ay rfl rfl rfl) ?_
  rw [show IntKind.u32.wrap ((jf P.1.ws a 4:Nat):Int)=((jf P.1.ws a 4:Nat):Int) by rw [IntKind.wrap_u32];omega]
  refine run ?_
  refine ax (fun wc' hG=>Ui (jf P.1.ws a 4) hrl wc') ?_
  refine run ?_
  intro I
  refine run ?_
  obtain ⟨V,hV⟩:∃ V,V=jf P.1.ws a 4:=⟨_,rfl⟩
  rw [← hV]
  cases hk:bF.BK V with
  | false=>
   simp only [cond_false]
   rw [uH (show (lM P.1 33554432 P.1.r.pc).over=true from rfl)]
   refine aW ?_
   refine dH [aH.mk M (fG (.slice wp P.1.ws.length wc) L2.sv L2.lv cpu two P.1) 92] (aH.mk I #[.int .i64 (bF.of V).op,.int .i64 (bF.of V).d,.int .i64 (bF.of V).n,.int .i64 (bF.of V).m,.int .i64 (bF.of V).aV] 41::(L2.hl++L2.hs++(L2.hw++L2.ht))) (fun wc' hG=>yf _ L2.sv L2.lv cpu two P.1 33554432 P.1.r.pc M hG.dD) (fun v hn hv=>?_) au
   obtain ⟨rfl,hle⟩:=hv
   refine run ?_
   exact fin0 ⟨rfl,L2,hL2.trap _ _,by unfold ML.pO;rw [ew];(exact cnt1 hle)⟩
  | true=>
   simp only [cond_true]
   rw [lV hc']
   refine aW ?_
   have hi:=Q7 hk
   have hL3:lN wv ws L2 { P.1 with iW:=bF.of V }:=⟨hL2.w,hL2.c,hL2.q,hL2.l,hL2.t,hL2.p⟩
   have hs3:fD { P.1 with iW:=bF.of V } cpu two:=⟨h1.uX,h1.mem,h1.cpu,h1.len,h1.es,h1.two,h1.r⟩
   have hq3:({ P.1 with iW:=bF.of V }:PS).seen.length<90000:=by show P.1.seen.length<_;omega
   have ho3:({ P.1 with iW:=bF.of V }:PS).over=false:=hc'
   refine gB (fG (.slice wp P.1.ws.length wc) L2.sv L2.lv cpu two { P.1 with iW:=bF.of V }) ?_ (hperm:=p1)
   rw [← ew]
   refine aI (aH.mk I #[.int .i64 (bF.of V).op,.int .i64 (bF.of V).d,.int .i64 (bF.of V).n,.int .i64 (bF.of V).m,.int .i64 (bF.of V).aV] 41::aH.mk M (fG L2.wv L2.sv L2.lv cpu two { P.1 with iW:=bF.of V }) 92::(L2.hl++L2.hs++(L2.hw++L2.ht))) ak ?_
   generalize ({ P.1 with iW:=bF.of V }:PS)=F at hL3 hs3 hq3 ho3 ⊢
   generalize bF.of V=x at hi ⊢
   obtain ⟨op,d,n,m,aV⟩:=x
   have hb:PtD.bV op 1 16=true∧PtD.bV d 0 7=true∧PtD.bV n 0 7=true∧PtD.bV m 0 7=true:=by
    simp only [bF.may,bF.base,Bool.and_eq_true] at hi
    exact ⟨hi.1.1,hi.1.2.1,hi.1.2.2.1,hi.1.2.2.2.1⟩
   simp only [PtD.bV,Bool.and_eq_true,decide_eq_true_eq] at hb
   obtain ⟨D,rfl⟩:∃ D:Nat,d=(D:Int):=⟨d.toNat,by omega⟩
   obtain ⟨N,rfl⟩:∃ N:Nat,n=(N:Int):=⟨n.toNat,by omega⟩
   obtain ⟨K,rfl⟩:∃ K:Nat,m=(K:Int):=⟨m.toNat,by omega⟩
   dsimp only
   have hcs:(op=7∨op=8)∨op=9∨op=10∨op=11∨op=12∨op=13∨op=14∨op=15∨op=16∨op≤6:=by omega
   have hxN:=La L2.wv L2.sv L2.lv cpu two F (k:=N) at7
   have hxK:=La L2.wv L2.sv L2.lv cpu two F (k:=K) at7
   rcases hcs with U1 | rfl | rfl | rfl | rfl | rfl | rfl | rfl | rfl | h6
   ·have hm2:=fun wc (hm:dK wc _ _ _ _) (hG:eF (L2.pO M cpu two F) wc)=>Rj wv ws L2 M cpu two F hL3 hs3 hq3 ho3 op aV D N K hi U1 hm hG
    have hdo:sK F cpu two ⟨op,D,N,K,aV⟩=(sD F cpu two ⟨op,D,N,K,aV⟩,some []):=by
     unfold sK
     rcases U1 with rfl | rfl<;>rfl
    rw [hdo]
    generalize sD F cpu two ⟨op,D,N,K,aV⟩=Y at hm2
    rcases U1 with rfl | rfl
    ·refine aW ?_;refine dH (aH.mk M (fG L2.wv L2.sv L2.lv cpu two F) 92::(L2.hl++L2.hs++(L2.hw++L2.ht))) [aH.mk I #[.int .i64 7,.int .i64 (D:Nat),.int .i64 (N:Nat),.int .i64 (K:Nat),.int .i64 aV] 41] (fun wc hG=>hm2 wc (hm.into hG) hG.dD) (fun v hn hv=>?_) au;obtain ⟨rfl,L4,hL4,yT⟩:=hv;refine run ?_
     rw [show mX (Y,some [])=(bif Y.over then Y else { Y with r:=Y.r.next [] }) from rfl]
     unfold ML.pO at yT
     refine aj _ rfl (fun Rk=>?_) (fun Rk=>?_)
     ·rw [uH (show Y.over=true by simpa using Rk)]
      refine run ?_
      exact fin0 ⟨rfl,L4,hL4,by unfold ML.pO;(exact cnt1 yT)⟩
     ·rw [lV (show Y.over=false by simpa using Rk)]
      refine OE (aH.mk M (fG L4.wv L4.sv L4.lv cpu two Y) 92::(L4.hl++L4.hs++(L4.hw++L4.ht))) (cnt1 yT) ?_
      refine run ?_
      rw [show (List.take 15 (List.drop 1 (fG L4.wv L4.sv L4.lv cpu two Y).toList)).toArray=(di Y.r).toArray from rfl];refine ax (fun wc hG=>jb Y.r [] (iq wc 1)) ?_;refine run ?_;refine gB (fG L4.wv L4.sv L4.lv cpu two { Y with r:=Y.r.next [] }) ?_;refine run ?_;exact fin0 ⟨rfl,L4,⟨hL4.w,hL4.c,hL4.q,hL4.l,hL4.t,hL4.p⟩,by unfold ML.pO;(exact ak)⟩
    ·refine aW ?_;refine dH (aH.mk M (fG L2.wv L2.sv L2.lv cpu two F) 92::(L2.hl++L2.hs++(L2.hw++L2.ht))) [aH.mk I #[.int .i64 8,.int .i64 (D:Nat),.int .i64 (N:Nat),.int .i64 (K:Nat),.int .i64 aV] 41] (fun wc hG=>hm2 wc (hm.into hG) hG.dD) (fun v hn hv=>?_) au;obtain ⟨rfl,L4,hL4,yT⟩:=hv;refine run ?_
     rw [show mX (Y,some [])=(bif Y.over then Y else { Y with r:=Y.r.next [] }) from rfl]
     unfold ML.pO at yT
     refine aj _ rfl (fun Rk=>?_) (fun Rk=>?_)
     ·rw [uH (show Y.over=true by simpa using Rk)]
      refine run ?_
      exact fin0 ⟨rfl,L4,hL4,by unfold ML.pO;(exact cnt1 yT)⟩
     ·rw [lV (show Y.over=false by simpa using Rk)]
      refine OE (aH.mk M (fG L4.wv L4.sv L4.lv cpu two Y) 92::(L4.hl++L4.hs++(L4.hw++L4.ht))) (cnt1 yT) ?_
      refine run ?_
      rw [show (List.take 15 (List.drop 1 (fG L4.wv L4.sv L4.lv cpu two Y).toList)).toArray=(di Y.r).toArray from rfl];refine ax (fun wc hG=>jb Y.r [] (iq wc 1)) ?_;refine run ?_;refine gB (fG L4.wv L4.sv L4.lv cpu two { Y with r:=Y.r.next [] }) ?_;refine run ?_;exact fin0 ⟨rfl,L4,⟨hL4.w,hL4.c,hL4.q,hL4.l,hL4.t,hL4.p⟩,by unfold ML.pO;(exact ak)⟩
   ·rw [show mX (sK F cpu two ⟨9,D,N,K,aV⟩)=(bif F.over then F else { F with r:=F.r.next [aV] }) from rfl,lV ho3]
    refine aW ?_
    refine dI 12 11 [0,1,2,3,4,5,6,9,10] [7,8,11] [] ?_;refine bY ?_;rw [show (List.take 15 (List.drop 1 (fG L2.wv L2.sv L2.lv cpu two F).toList)).toArray=(di F.r).toArray from rfl];refine vY [.int .i64 aV] (fun B=>?_);refine ug (fun wc hG=>jb F.r [aV] (Lc B aV wc (fun e he=>hG.here e (by simp at he;subst he;simp)))) ?_;rintro _ hn rfl;refine iM (b:=M) (tb:=92) (cs:=fG L2.wv L2.sv L2.lv cpu two F) (fG L2.wv L2.sv L2.lv cpu two { F with r:=F.r.next [aV] }) (hp':=hn++(⟨B,#[.int .i64 aV],3⟩::aH.mk I #[.int .i64 9,.int .i64 (D:Nat),.int .i64 (N:Nat),.int .i64 (K:Nat),.int .i64 aV] 41::(L2.hl++L2.hs++(L2.hw++L2.ht)))) ?_ (hperm:=by (exact au));refine aG ?_;refine cO ?_;refine run ?_;exact fin0 ⟨rfl,L2,⟨hL3.w,hL3.c,hL3.q,hL3.l,hL3.t,hL3.p⟩,by unfold ML.pO;(exact ak)⟩
   ·rw [show mX (sK F cpu two ⟨10,D,N,K,aV⟩)=(bif F.over then F else { F with r:=F.r.next (bif decide (F.r.x N=0) then [aV] else []) }) from rfl,lV ho3]
    refine aW ?_
    refine eG ?_
    refine bW ?_
    refine run ?_
    refine aj _ rfl (fun hc=>?_) (fun hc=>?_)
    ·rw [show decide (F.r.x N=0)=true by simpa using hc]
     rw [cond_true]
     refine run ?_
     refine dI 12 11 [0,1,2,3,4,5,6,9,10] [7,8,11] [] ?_;refine bY ?_;rw [show (List.take 15 (List.drop 1 (fG L2.wv L2.sv L2.lv cpu two F).toList)).toArray=(di F.r).toArray from rfl];refine vY [.int .i64 aV] (fun B=>?_);refine ug (fun wc hG=>jb F.r [aV] (Lc B aV wc (fun e he=>hG.here e (by simp at he;subst he;simp)))) ?_;rintro _ hn rfl;refine iM (b:=M) (tb:=92) (cs:=fG L2.wv L2.sv L2.lv cpu two F) (fG L2.wv L2.sv L2.lv cpu two { F with r:=F.r.next [aV] }) (hp':=hn++(⟨B,#[.int .i64 aV],3⟩::aH.mk I #[.int .i64 10,.int .i64 (D:Nat),.int .i64 (N:Nat),.int .i64 (K:Nat),.int .i64 aV] 41::(L2.hl++L2.hs++(L2.hw++L2.ht)))) ?_ (hperm:=by (exact au));refine aG ?_;refine cO ?_;refine run ?_;exact fin0 ⟨rfl,L2,⟨hL3.w,hL3.c,hL3.q,hL3.l,hL3.t,hL3.p⟩,by unfold ML.pO;(exact ak)⟩
    ·rw [show decide (F.r.x N=0)=false by simpa using hc,cond_false]
     refine run ?_
     refine aI (aH.mk M (fG L2.wv L2.sv L2.lv cpu two F) 92::(L2.hl++L2.hs++(L2.hw++L2.ht))) ak ?_
     rw [show (List.take 15 (List.drop 1 (fG L2.wv L2.sv L2.lv cpu two F).toList)).toArray=(di F.r).toArray from rfl];refine ax (fun wc hG=>jb F.r [] (iq wc 1)) ?_;refine run ?_;refine gB (fG L2.wv L2.sv L2.lv cpu two { F with r:=F.r.next [] }) ?_;refine run ?_;exact fin0 ⟨rfl,L2,⟨hL3.w,hL3.c,hL3.q,hL3.l,hL3.t,hL3.p⟩,by unfold ML.pO;(exact ak)⟩
   ·have hk2:nP aV=true:=by
     have:=hi
     simp only [bF.may,Bool.and_eq_true] at this
     exact this.2
    rw [show mX (sK F cpu two ⟨11,D,N,K,aV⟩)=(bif F.over then { F with r:=F.r.ku D (F.r.get aV) } else { F with r:=(F.r.ku D (F.r.get aV)).next [] }) from rfl,lV ho3]
    refine aW ?_
    refine dI 13 12 [0,1,2,3,4,5,6,7,8,9,10,11] [12] [] ?_
    refine bY ?_
    rw [show (List.take 15 (List.drop 1 (fG L2.wv L2.sv L2.lv cpu two F).toList)).toArray=(di F.r).toArray from rfl]
    refine kS (fun wc hx hG=>Qc F.r aV hk2 wc) ?_
    refine bY ?_
    refine iM (b:=M) (tb:=92) (cs:=fG L2.wv L2.sv L2.lv cpu two F) (fG L2.wv L2.sv L2.lv cpu two { F with r:=F.r.ku D (F.r.get aV) }) (hp':=aH.mk I #[.int .i64 11,.int .i64 (D:Nat),.int .i64 (N:Nat),.int .i64 (K:Nat),.int .i64 aV] 41::(L2.hl++L2.hs++(L2.hw++L2.ht))) ?_ (hperm:=by (exact au)) (hput:=Bo _ _ _ _ _ _ at7 _) (hlt:=Nat.ble_eq_true_of_le (show 1 + D + 1≤56 by omega))
    refine aG ?_
    refine cO ?_
    refine aI (aH.mk M (fG L2.wv L2.sv L2.lv cpu two { F with r:=F.r.ku D (F.r.get aV) }) 92::(L2.hl++L2.hs++(L2.hw++L2.ht))) ak ?_
    refine run ?_
    rw [show (List.take 15 (List.drop 1 (fG L2.wv L2.sv L2.lv cpu two ({ F with r:=F.r.ku D (F.r.get aV) }:PS)).toList)).toArray=(di ({ F with r:=F.r.ku D (F.r.get aV) }:PS).r).toArray from rfl];refine ax (fun wc hG=>jb ({ F with r:=F.r.ku D (F.r.get aV) }:PS).r [] (iq wc 1)) ?_;refine run ?_;refine gB (fG L2.wv L2.sv L2.lv cpu two { ({ F with r:=F.r.ku D (F.r.get aV) }:PS) with r:=({ F with r:=F.r.ku D (F.r.get aV) }:PS).r.next [] }) ?_;refine run ?_;exact fin0 ⟨rfl,L2,⟨hL3.w,hL3.c,hL3.q,hL3.l,hL3.t,hL3.p⟩,by unfold ML.pO;(exact ak)⟩
   ·have hk2:nP aV=true:=by
     have:=hi
     simp only [bF.may,Bool.and_eq_true] at this
     exact this.2
    rw [show mX (sK F cpu two ⟨12,D,N,K,aV⟩)=(bif F.over then { F with r:=F.r.set aV (F.r.x N) } else { F with r:=(F.r.set aV (F.r.x N)).next [] }) from rfl,lV ho3]
    refine aW ?_
    refine dI 17 16 [0,1,2,3,4,5,6,7,8,9,10,11,12,13,14,15] [16] [] ?_
    refine bY ?_
    rw [show (List.take 15 (List.drop 1 (fG L2.wv L2.sv L2.lv cpu two F).toList)).toArray=(di F.r).toArray from rfl]
    refine kS (fun wc hx hG=>Qd F.r aV (F.r.x N) wc) ?_
    refine bY ?_
    refine iM (b:=M) (tb:=92) (cs:=fG L2.wv L2.sv L2.lv cpu two F) (fG L2.wv L2.sv L2.lv cpu two { F with r:=F.r.set aV (F.r.x N) }) (hp':=aH.mk I #[.int .i64 12,.int .i64 (D:Nat),.int .i64 (N:Nat),.int .i64 (K:Nat),.int .i64 aV] 41::(L2.hl++L2.hs++(L2.hw++L2.ht))) ?_ (hperm:=by (exact au))
    refine aG ?_
    refine cO ?_
    refine aI (aH.mk M (fG L2.wv L2.sv L2.lv cpu two { F with r:=F.r.set aV (F.r.x N) }) 92::(L2.hl++L2.hs++(L2.hw++L2.ht))) ak ?_
    refine run ?_
    rw [show (List.take 15 (List.drop 1 (fG L2.wv L2.sv L2.lv cpu two ({ F with r:=F.r.set aV (F.r.x N) }:PS)).toList)).toArray=(di ({ F with r:=F.r.set aV (F.r.x N) }:PS).r).toArray from rfl];refine ax (fun wc hG=>jb ({ F with r:=F.r.set aV (F.r.x N) }:PS).r [] (iq wc 1)) ?_;refine run ?_;refine gB (fG L2.wv L2.sv L2.lv cpu two { ({ F with r:=F.r.set aV (F.r.x N) }:PS) with r:=({ F with r:=F.r.set aV (F.r.x N) }:PS).r.next [] }) ?_;refine run ?_;exact fin0 ⟨rfl,L2,⟨hL3.w,hL3.c,hL3.q,hL3.l,hL3.t,hL3.p⟩,by unfold ML.pO;(exact ak)⟩
   ·rw [show mX (sK F cpu two ⟨13,D,N,K,aV⟩)=(bif F.over then iY F cpu two ⟨13,D,N,K,aV⟩ else { iY F cpu two ⟨13,D,N,K,aV⟩ with r:=(iY F cpu two ⟨13,D,N,K,aV⟩).r.next [] }) by
     unfold mX
     rw [show (sK F cpu two ⟨13,D,N,K,aV⟩)=(iY F cpu two ⟨13,D,N,K,aV⟩,some []) from rfl,show (iY F cpu two ⟨13,D,N,K,aV⟩).over=F.over by unfold iY;cases decide ((F.tl cpu).2.length<8)<;>rfl],lV ho3]
    refine aW ?_
    refine eG ?_
    refine bW ?_
    obtain ⟨g,lc,fO,tc,e3,e4,hld,NJ,hti,hcl,hsz,qG,hput,VT⟩:=hL3.row hs3
    have h8:=dJ hs3.te.vg
    rw [← NJ] at h8
    have hn1:=qG 1 _ rfl
    rw [e3,e4]
    simp only [List.cons_append,List.nil_append]
    refine run ?_
    refine eG ?_
    refine bW ?_
    refine run ?_
    obtain ⟨htc,hto⟩:=hL3.U4 hs3
    have hlen:L2.ts.length=F.ls.length:=by rw [← hL3.p,List.length_map]
    refine dW (σ:=ML × PS) (fun _=>[]) (fun z=>aH.mk I #[.int .i64 13,.int .i64 (D:Nat),.int .i64 (N:Nat),.int .i64 (K:Nat),.int .i64 aV] 41::aH.mk M (fG z.1.wv z.1.sv z.1.lv cpu two z.2) 92::(z.1.hl++z.1.hs++(z.1.hw++z.1.ht))) (fun z=>lN wv ws z.1 z.2∧fD z.2 cpu two∧(z.2.tl cpu).2.length<8∧z.2.r=F.r∧iY F cpu two ⟨13,D,N,K,aV⟩=z.2.more cpu (F.due two ⟨13,D,N,K,aV⟩)) ?_ ?_
    ·refine aj _ rfl (fun Rk=>?_) (fun Rk=>?_)
     ·have h9:decide ((F.tl cpu).2.length<8)=false:=by rw [← NJ];simp at Rk;exact decide_eq_false (by show ¬ tc.ds.length<8;omega)
      refine run ?_
      refine iQ 10 [0,1,2,3,4,5,6,7,8] [9] [] [10,11] [12] ?_
      refine eX ?_
      rw [← e3]
      refine iU (fun wc hG=>KO L2.ts cpu hcl (by rw [hlen];exact hs3.len) (hL3.tls hs3 (fun e he=>hG.here e (by rw [e4] at he;simp at he;subst he;simp)) (fun e he=>hG.here e av1)) htc hto) ?_ ?_
      ·rw [hL3.p]
       obtain ⟨v,ha,h',ts',h1,h2,h3⟩:=uS (pM hs3).len
       exact ⟨_,_,v,ha,h',ts',rfl,h1,h2,h3,aC.refl _⟩
      refine gW ?_
      rintro u hn ⟨v,ha,h',ts',rfl,g1,g2,g3,hle⟩
      refine eY ?_
      refine jR ?_
      refine rF ?_
      refine eY ?_
      simp only [DN,List.cons_append,List.nil_append,List.append_nil]
      have hv:=g1.opened
      obtain ⟨q1,c1,e1⟩:=hv
      subst e1
      refine iM (b:=M) (tb:=92) (cs:=fG L2.wv L2.sv L2.lv cpu two F) (fG L2.wv L2.sv (.slice q1 (ts'.map lq).length c1) cpu two (jB F cpu)) (hp':=hn++(aH.mk I #[.int .i64 13,.int .i64 (D:Nat),.int .i64 (N:Nat),.int .i64 (K:Nat),.int .i64 aV] 41::aH.mk g fO 77::(L2.hs++(L2.hw++L2.ht)))) ?_ (hperm:=by (exact au))
      refine aG ?_
      refine cO ?_
      refine run ?_
      refine dA (⟨L2.wv,L2.sv,.slice q1 (ts'.map lq).length c1,ts',L2.hw,L2.hs,ha,h'⟩,jB F cpu) ⟨⟨hL3.w,hL3.c,hL3.q,g1,g2,by dsimp only;rw [g3,hL3.p];rfl⟩,pM hs3,by rw [Fe hs3.cpu];exact Nat.zero_lt_succ 7,rfl,by unfold iY;rw [h9];rfl⟩ (h2:=by (exact cnt1 hle))
     ·have h9:decide ((F.tl cpu).2.length<8)=true:=by rw [← NJ];simp at Rk;exact decide_eq_true (by show tc.ds.length<8;omega)
      refine run ?_
      exact dA (L2,F) ⟨hL3,hs3,of_decide_eq_true h9,rfl,by unfold iY;rw [h9];rfl⟩ (h2:=by rw [e3,e4];(exact ak))
    rintro ⟨L5,F5⟩ ⟨hL5,hs5,h85,hr5,hfg⟩
    dsimp only at hL5 hs5 h85 hr5 hfg ⊢
    rw [hfg]
    obtain ⟨g5,Yi,Bq,FI,e35,e45,ao9,ZN,Va,ap0,hsz5,ZO,ak9,X3⟩:=hL5.row hs5
    have Vb:=dJ hs5.te.vg
    rw [← ZN] at Vb h85
    have ap1:=ZO 1 _ rfl
    rw [e35,e45]
    simp only [List.cons_append,List.nil_append]
    refine run ?_
    have hxl:F.r.x N<18446744073709551616:=dB.x_lt hs3.r N
    have b1:=oh (F.r.x N) 48 (n:=4) au0
    have b2:=oh (F.r.x N) 0 (n:=12) au0
    refine Eu 39 38 [0,1,2,3,4,5,6,7,8,9,10,11,12,13,14,15,16,17,18,20,21,22,23,24,25,26,27,30,36,37] [(19,false),(28,false),(29,true),(31,false),(32,false),(33,false),(34,false),(35,false),(38,false)] [] ?_
    refine bY ?_
    refine xC ?_
    refine ug (fun wc hG=>rM FI.ds _ (Va.1 wc (fun e he=>hG.here e av1)).2 (Nat.lt_of_le_of_lt Vb.2.2 au0)) ?_
    intro v hn1 hA1
    refine aG ?_
    obtain ⟨q1,c1,x1⟩:=hA1.own.opened
    rw [List.length_map] at x1
    subst x1
    refine xC ?_
    refine ug (fun wc hG=>oO (F.r.x N) 48 4 au0 au0 hxl wc) ?_
    rintro _ hn2 rfl
    refine aG ?_
    generalize hg1:aS (F.r.x N) 48 4=z1 at b1 ⊢
    refine XZ (p:=((z1:Nat):Int)) ?_ at7 at7
    refine xC ?_
    refine ug (fun wc hG=>oO (F.r.x N) 0 12 au0 au0 hxl wc) ?_
    rintro _ hn3 rfl
    refine aG ?_
    generalize hg2:aS (F.r.x N) 0 12=z2 at b2 ⊢
    refine xC ?_
    refine sH (fun hx=>nU (p:=((z2:Nat):Int)) ay rfl rfl rfl at7 at7) ?_
    refine aG ?_
    refine xC ?_
    refine Ef (out':=#[.int .i64 aV,.int .i64 two.tag,.int .i64 (z1:Nat),.int .i64 (z2:Nat)]) ?_
    refine aG ?_
    refine xC ?_
    refine vY [.int .i64 aV,.int .i64 two.tag,.int .i64 (z1:Nat),.int .i64 (z2:Nat)] (fun Z=>?_)
    refine aG ?_
    refine Y8 (c:=[.int .i64 aV,.int .i64 two.tag,.int .i64 (z1:Nat),.int .i64 (z2:Nat)]) (hp':=⟨Z,#[.int .i64 aV,.int .i64 two.tag,.int .i64 (z1:Nat),.int .i64 (z2:Nat)],121⟩::(hn3++hn2++(aH.mk I #[.int .i64 13,.int .i64 (D:Nat),.int .i64 (N:Nat),.int .i64 (K:Nat),.int .i64 aV] 41::aH.mk M (fG L5.wv L5.sv (.slice (some ⟨g5,0,none⟩) L5.ts.length Yi) cpu two F5) 92::aH.mk g5 Bq 77::(L5.hs++(L5.hw++L5.ht))))) hA1 (bP (m:=4) mh rfl) (by rw [List.length_map];exact Nat.lt_of_le_of_lt Vb.2.2 au0) au ak (fun v' ha' hA2=>?_) (hit:=.inr ak)
    obtain ⟨dd,hdd⟩:∃ dd,dd=F.due two ⟨13,D,N,K,aV⟩:=⟨_,rfl⟩
    have hdv:dG dd=[.int .i64 aV,.int .i64 two.tag,.int .i64 (z1:Nat),.int .i64 (z2:Nat)]:=by rw [hdd,← hg1,← hg2];rfl
    rw [← hdv,← List.map_singleton,← List.map_append] at hA2
    obtain ⟨q9,c9,e9⟩:=hA2.own.opened
    rw [List.length_map] at e9
    subst e9
    refine xC ?_
    refine pW (b:=g5) (tb:=77) (cs:=Bq) (cs':=putAt Bq (cpu * 2 + 1) [.slice q9 (FI.ds++[dd]).length c9]) (hp':=ha'++(⟨Z,#[.int .i64 aV,.int .i64 two.tag,.int .i64 (z1:Nat),.int .i64 (z2:Nat)],121⟩::(hn3++hn2++(aH.mk I #[.int .i64 13,.int .i64 (D:Nat),.int .i64 (N:Nat),.int .i64 (K:Nat),.int .i64 aV] 41::aH.mk M (fG L5.wv L5.sv (.slice (some ⟨g5,0,none⟩) L5.ts.length Yi) cpu two F5) 92::(L5.hs++(L5.hw++L5.ht)))))) ?_ (hput:=rfl) (hperm:=by (exact au))
    refine aG ?_
    refine TY ?_
    refine cO ?_
    obtain ⟨o1,_,o3⟩:=X3 ⟨FI.es,FI.ds++[dd],FI.ep,FI.ec,q9,c9⟩ XQ rfl ⟨fun wc hw=>(Hq hw).elim,Va.2⟩
    have hL6:lN wv ws ⟨L5.wv,L5.sv,.slice (some ⟨g5,0,none⟩) L5.ts.length Yi,L5.ts.set cpu ⟨FI.es,FI.ds++[dd],FI.ep,FI.ec,q9,c9⟩,L5.hw,L5.hs,[⟨g5,putAt Bq (cpu * 2 + 1) [.slice q9 (FI.ds++[dd]).length c9],77⟩],ha'++L5.ht⟩ (F5.more cpu dd):=by
     refine ⟨hL5.w,hL5.c,hL5.q,o1,fun t ht=>?_,by dsimp only;rw [o3,PS.more,← ZN]⟩
     rcases List.mem_or_eq_of_mem_set ht with h2 | rfl
     ·exact (hL5.t t h2).more fun wc hw=>yS hw
     ·exact ⟨fun wc hw=>⟨(Va.1 wc (yS hw)).1,hA2.own.lie (Bf hw) (by rw [List.length_map,List.length_append,List.length_singleton];exact Nat.le_trans (Nat.succ_le_succ Vb.2.2) au0)⟩,Va.2⟩
    obtain ⟨L6,ZP⟩:∃ L6,L6=(⟨L5.wv,L5.sv,.slice (some ⟨g5,0,none⟩) L5.ts.length Yi,L5.ts.set cpu ⟨FI.es,FI.ds++[dd],FI.ep,FI.ec,q9,c9⟩,L5.hw,L5.hs,[⟨g5,putAt Bq (cpu * 2 + 1) [.slice q9 (FI.ds++[dd]).length c9],77⟩],ha'++L5.ht⟩:ML):=⟨_,rfl⟩
    refine aI (aH.mk M (fG L5.wv L5.sv (.slice (some ⟨g5,0,none⟩) L5.ts.length Yi) cpu two F5) 92::([⟨g5,putAt Bq (cpu * 2 + 1) [.slice q9 (FI.ds++[dd]).length c9],77⟩]++L5.hs++(L5.hw++(ha'++L5.ht)))) ak ?_
    rw [show (aH.mk M (fG L5.wv L5.sv (.slice (some ⟨g5,0,none⟩) L5.ts.length Yi) cpu two F5) 92::([⟨g5,putAt Bq (cpu * 2 + 1) [.slice q9 (FI.ds++[dd]).length c9],77⟩]++L5.hs++(L5.hw++(ha'++L5.ht))))=aH.mk M (fG L6.wv L6.sv L6.lv cpu two (F5.more cpu dd)) 92::(L6.hl++L6.hs++(L6.hw++L6.ht)) by rw [ZP];rfl]
    rw [← ZP] at hL6
    rw [← hdd]
    refine run ?_
    rw [show (List.take 15 (List.drop 1 (fG L6.wv L6.sv L6.lv cpu two (F5.more cpu dd)).toList)).toArray=(di (F5.more cpu dd).r).toArray from rfl];refine ax (fun wc hG=>jb (F5.more cpu dd).r [] (iq wc 1)) ?_;refine run ?_;refine gB (fG L6.wv L6.sv L6.lv cpu two { (F5.more cpu dd) with r:=(F5.more cpu dd).r.next [] }) ?_;refine run ?_;exact fin0 ⟨rfl,L6,⟨hL6.w,hL6.c,hL6.q,hL6.l,hL6.t,hL6.p⟩,by unfold ML.pO;(exact ak)⟩
   ·rw [show mX (sK F cpu two ⟨14,D,N,K,aV⟩)=(bif F.over then jB F cpu else { jB F cpu with r:=(jB F cpu).r.next [] }) from rfl,lV ho3]
    refine aW ?_
    obtain ⟨htc,hto⟩:=hL3.U4 hs3
    have hlen:L2.ts.length=F.ls.length:=by rw [← hL3.p,List.length_map]
    refine iQ 10 [0,1,2,3,4,5,6,7,8] [9] [] [10,11] [12] ?_
    refine eX ?_
    refine iU (fun wc hG=>KO L2.ts cpu (by rw [hlen];exact hs3.cpu) (by rw [hlen];exact hs3.len) (hL3.tls hs3 (fun e he=>hG.here e av1) (fun e he=>hG.here e av1)) htc hto) ?_ ?_
    ·rw [hL3.p]
     obtain ⟨v,ha,h',ts',h1,h2,h3⟩:=uS (pM hs3).len
     exact ⟨_,_,v,ha,h',ts',rfl,h1,h2,h3,aC.refl _⟩
    refine gW ?_
    rintro u hn ⟨v,ha,h',ts',rfl,g1,g2,g3,hle⟩
    refine eY ?_
    refine jR ?_
    refine rF ?_
    refine eY ?_
    simp only [DN,List.cons_append,List.nil_append,List.append_nil]
    have hv:=g1.opened
    obtain ⟨q1,c1,e1⟩:=hv
    subst e1
    refine iM (b:=M) (tb:=92) (cs:=fG L2.wv L2.sv L2.lv cpu two F) (fG L2.wv L2.sv (.slice q1 (ts'.map lq).length c1) cpu two (jB F cpu)) (hp':=hn++(aH.mk I #[.int .i64 14,.int .i64 (D:Nat),.int .i64 (N:Nat),.int .i64 (K:Nat),.int .i64 aV] 41::(L2.hl++L2.hs++(L2.hw++L2.ht)))) ?_ (hperm:=by (exact au))
    refine aG ?_
    refine cO ?_
    have hL5:lN wv ws ⟨L2.wv,L2.sv,.slice q1 (ts'.map lq).length c1,ts',L2.hw,L2.hs,ha,h'⟩ (jB F cpu):=⟨hL3.w,hL3.c,hL3.q,g1,g2,by dsimp only;rw [g3,hL3.p];rfl⟩
    obtain ⟨L5,ZQ⟩:∃ L5,L5=(⟨L2.wv,L2.sv,.slice q1 (ts'.map lq).length c1,ts',L2.hw,L2.hs,ha,h'⟩:ML):=⟨_,rfl⟩
    refine aI (aH.mk M (fG L2.wv L2.sv (.slice q1 (ts'.map lq).length c1) cpu two (jB F cpu)) 92::(ha++L2.hs++(L2.hw++h'))) (cnt1 hle) ?_
    rw [show (aH.mk M (fG L2.wv L2.sv (.slice q1 (ts'.map lq).length c1) cpu two (jB F cpu)) 92::(ha++L2.hs++(L2.hw++h')))=aH.mk M (fG L5.wv L5.sv L5.lv cpu two (jB F cpu)) 92::(L5.hl++L5.hs++(L5.hw++L5.ht)) by rw [ZQ]]
    rw [← ZQ] at hL5
    refine run ?_
    rw [show (List.take 15 (List.drop 1 (fG L5.wv L5.sv L5.lv cpu two (jB F cpu)).toList)).toArray=(di (jB F cpu).r).toArray from rfl];refine ax (fun wc hG=>jb (jB F cpu).r [] (iq wc 1)) ?_;refine run ?_;refine gB (fG L5.wv L5.sv L5.lv cpu two { (jB F cpu) with r:=(jB F cpu).r.next [] }) ?_;refine run ?_;exact fin0 ⟨rfl,L5,⟨hL5.w,hL5.c,hL5.q,hL5.l,hL5.t,hL5.p⟩,by unfold ML.pO;(exact ak)⟩
   ·rw [show mX (sK F cpu two ⟨15,D,N,K,aV⟩)=(bif F.over then { F with kind:=3 } else { F with kind:=3,r:=F.r.next [] }) from rfl,lV ho3]
    refine aW ?_
    refine gB (fG L2.wv L2.sv L2.lv cpu two { F with kind:=3 }) ?_ (hperm:=p1)
    refine aI (aH.mk M (fG L2.wv L2.sv L2.lv cpu two { F with kind:=3 }) 92::(L2.hl++L2.hs++(L2.hw++L2.ht))) ak ?_
    refine run ?_
    rw [show (List.take 15 (List.drop 1 (fG L2.wv L2.sv L2.lv cpu two ({ F with kind:=3 }:PS)).toList)).toArray=(di ({ F with kind:=3 }:PS).r).toArray from rfl];refine ax (fun wc hG=>jb ({ F with kind:=3 }:PS).r [] (iq wc 1)) ?_;refine run ?_;refine gB (fG L2.wv L2.sv L2.lv cpu two { ({ F with kind:=3 }:PS) with r:=({ F with kind:=3 }:PS).r.next [] }) ?_;refine run ?_;exact fin0 ⟨rfl,L2,⟨hL3.w,hL3.c,hL3.q,hL3.l,hL3.t,hL3.p⟩,by unfold ML.pO;(exact ak)⟩
   ·rw [show mX (sK F cpu two ⟨16,D,N,K,aV⟩)=(bif F.over then { F with r:=F.r.back } else { F with r:=F.r.back }) from rfl,lV ho3]
    refine aW ?_
    rw [show (List.take 15 (List.drop 1 (fG L2.wv L2.sv L2.lv cpu two F).toList)).toArray=(di F.r).toArray from rfl]
    refine ax (fun wc hG=>MH F.r wc) ?_
    refine run ?_
    refine gB (fG L2.wv L2.sv L2.lv cpu two { F with r:=F.r.back }) ?_ (hperm:=p1)
    refine run ?_
    exact fin0 ⟨rfl,L2,⟨hL3.w,hL3.c,hL3.q,hL3.l,hL3.t,hL3.p⟩,by unfold ML.pO;(exact ak)⟩
   ·have hdo:sK F cpu two ⟨op,D,N,K,aV⟩=({ F with r:=F.r.ku D (AQ ⟨op,D,N,K,aV⟩ (F.r.x N) (F.r.x K)).toNat },some []):=by
     unfold sK
     rw [decide_eq_false (show ¬ op=7 by omega),decide_eq_false (show ¬ op=8 by omega),decide_eq_false (show ¬ op=9 by omega),decide_eq_false (show ¬ op=10 by omega),decide_eq_false (show ¬ op=11 by omega),decide_eq_false (show ¬ op=12 by omega),decide_eq_false (show ¬ op=13 by omega),decide_eq_false (show ¬ op=14 by omega),decide_eq_false (show ¬ op=15 by omega),decide_eq_false (show ¬ op=16 by omega)]
     rfl
    obtain ⟨A,hA⟩:=KX (i:=⟨op,D,N,K,aV⟩) (n:=F.r.x N) (m:=F.r.x K)
    rw [hdo,hA,Int.toNat_natCast,show mX ({ F with r:=F.r.ku D A },some [])=(bif F.over then { F with r:=F.r.ku D A } else { F with r:=(F.r.ku D A).next [] }) from rfl,lV ho3]
    refine aW ?_
    rw [decide_eq_false (show ¬ op=7 by omega)];refine aW ?_
    rw [decide_eq_false (show ¬ op=8 by omega)];refine aW ?_
    rw [decide_eq_false (show ¬ op=9 by omega)];refine aW ?_
    rw [decide_eq_false (show ¬ op=10 by omega)];refine aW ?_
    rw [decide_eq_false (show ¬ op=11 by omega)];refine aW ?_
    rw [decide_eq_false (show ¬ op=12 by omega)];refine aW ?_
    rw [decide_eq_false (show ¬ op=13 by omega)];refine aW ?_
    rw [decide_eq_false (show ¬ op=14 by omega)];refine aW ?_
    rw [decide_eq_false (show ¬ op=15 by omega)];refine aW ?_
    rw [decide_eq_false (show ¬ op=16 by omega)];refine aW ?_
    refine dI 23 22 [0,1,2,3,4,5,6,7,8,9,10,11,12,13,14,15,16,17,18,19,20,21] [22] [] ?_
    refine bY ?_
    refine kS (fun wc hx hG=>Ze ⟨op,D,N,K,aV⟩ hb.1.1 h6 (F.r.x N) (F.r.x K) (dB.x_lt hs3.r N) (dB.x_lt hs3.r K) wc) ?_
    rw [hA]
    refine bY ?_
    refine iM (b:=M) (tb:=92) (cs:=fG L2.wv L2.sv L2.lv cpu two F) (fG L2.wv L2.sv L2.lv cpu two { F with r:=F.r.ku D A }) (hp':=aH.mk I #[.int .i64 op,.int .i64 (D:Nat),.int .i64 (N:Nat),.int .i64 (K:Nat),.int .i64 aV] 41::(L2.hl++L2.hs++(L2.hw++L2.ht))) ?_ (hperm:=by (exact au)) (hput:=Bo _ _ _ _ _ _ at7 _) (hlt:=Nat.ble_eq_true_of_le (show 1 + D + 1≤56 by omega))
    refine aG ?_
    refine cO ?_
    refine aI (aH.mk M (fG L2.wv L2.sv L2.lv cpu two { F with r:=F.r.ku D A }) 92::(L2.hl++L2.hs++(L2.hw++L2.ht))) ak ?_
    refine run ?_
    rw [show (List.take 15 (List.drop 1 (fG L2.wv L2.sv L2.lv cpu two ({ F with r:=F.r.ku D A }:PS)).toList)).toArray=(di ({ F with r:=F.r.ku D A }:PS).r).toArray from rfl];refine ax (fun wc hG=>jb ({ F with r:=F.r.ku D A }:PS).r [] (iq wc 1)) ?_;refine run ?_;refine gB (fG L2.wv L2.sv L2.lv cpu two { ({ F with r:=F.r.ku D A }:PS) with r:=({ F with r:=F.r.ku D A }:PS).r.next [] }) ?_;refine run ?_;exact fin0 ⟨rfl,L2,⟨hL3.w,hL3.c,hL3.q,hL3.l,hL3.t,hL3.p⟩,by unfold ML.pO;(exact ak)⟩
end
section
attribute [local irreducible] Hy St Ops DH gq iK iD fQ DS fB kz
theorem Rl {h1 h2:Hp} {es:List bf} {ds:List dh} {q1 q2:Option Addr} {c1 c2:Nat} (g1:Own 114 14 (.slice q1 es.length c1) h1 (es.map bG)) (g2:Own 121 4 (.slice q2 ds.length c2) h2 (ds.map dG)) (h8:es.length≤281474976710656) (h9:ds.length≤281474976710656):NC (h1++h2) ⟨es,ds,q1,c1,q2,c2⟩:=by
 refine ⟨fun wc hw=>⟨g1.lie (Bf hw) au1,g2.lie (yS hw) au1⟩,?_⟩
 obtain ⟨p,c,e,hle⟩:=g1.kN
 rw [List.length_map] at e hle
 cases e
 exact hle
def ah1 (ls:List (List bf × List dh)) (u:Value) (hn:Hp):Prop:=∃ ha hs,∃ ts:List dR,Own 77 2 u ha (ts.map lq)∧wC hs ts∧ts.map dR.p=ls∧aC (ha++hs) hn
theorem rX {w:World} (ts:List dR) {lv:Value} (h:qB w lv ts) (hl:ts.length<100000) (hen:∀ t∈ts,t.es.length<100000∧t.ds.length<100000):Fn Tryz.prog 15 [lv].toArray w [] (ah1 (ts.map dR.p)):=by
 obtain ⟨q,cap,rfl,hne,_⟩:=id h.rows.opened
 refine enter Tryz.func15 ?_
 refine run ?_
 refine cu (σ:=FgS) (fun z=>[(4,.int .i64 (z.k:Int)),(3,z.v)]) (fun z=>z.ha++z.hs) (fun z=>z.k≤ts.length∧Acc 77 2 z.v z.ha (z.ts.map lq)∧wC z.hs z.ts∧z.ts.map dR.p=(ts.take z.k).map dR.p) (fun z=>ts.length - z.k) ⟨0,_,[],[],[]⟩ ⟨Nat.zero_le _,Acc.nil _ _,(fun t ht=>absurd ht au3:wC [] []),rfl⟩ ?_
 rintro ⟨k,ov,ha,hs,ts'⟩ m hm2 ⟨hk,hA,hO,hE⟩
 dsimp only at hm2 hk hA hO hE ⊢
 have hl':ts'.length=k:=by have:=congrArg List.length hE;simpa [Nat.min_eq_left hk] using this
 refine run ?_
 refine aj _ rfl (fun hc2=>?_) (fun hc2=>?_)
 ·have hlt:k<ts.length:=by simpa using hc2
  obtain ⟨b,o,rfl⟩:=hne av7
  have hr2:=h.rows.row hlt
  have h1:=h.en _ (getD_mem hlt)
  have h2:=h.iv _ (getD_mem hlt)
  have h3:=hen _ (getD_mem hlt)
  have htn:=gz hlt
  generalize ts.getD k default=t at hr2 h1 h2 h3 htn
  refine run ?_
  refine gY (fun wc hG=>uQ t.es t.ds _ _ (h1.good hG) (h2.good hG) at7 at7) ?_
  rintro _ hn ⟨v1,g1,v2,g2,rfl,hA1,hA2,hle⟩
  obtain ⟨q1,c1,x1⟩:=hA1.own.opened
  obtain ⟨q2,c2,x2⟩:=hA2.own.opened
  rw [List.length_map] at x1 x2
  subst x1 x2
  refine run ?_
  intro Z
  refine jA (c:=[.slice q1 t.es.length c1,.slice q2 t.ds.length c2]) hA (fun v' ha' hB=>?_) au1 (bP (m:=2) mh rfl) (hp':=⟨Z,#[.slice q1 t.es.length c1,.slice q2 t.ds.length c2],77⟩::(hn++hs)) (hperm:=by (exact au))
  refine run ?_
  refine bI ⟨k + 1,v',ha',(g1++g2)++hs,ts'++[⟨t.es,t.ds,q1,c1,q2,c2⟩]⟩ ⟨hlt,by dsimp only;rw [List.map_append];exact hB,?_,?_⟩ (hm:=by dsimp only;omega) (h2:=by (exact cnt1 hle))
  ·intro x hx
   rcases List.mem_append.1 hx with hx | hx
   ·exact (hO x hx).more fun wc hw=>yS hw
   ·obtain rfl:=List.mem_singleton.1 hx
    exact (Rl hA1.own hA2.own at7 at7).more fun wc hw=>Bf hw
  ·dsimp only
   rw [htn,List.map_append,List.map_append,hE]
   rfl
 ·have hge:k=ts.length:=by simp at hc2;omega
  subst hge
  rw [List.take_length] at hE
  refine run ?_
  exact fin1 ⟨ha,hs,ts',hA.own,hO,hE,aC.refl _⟩
theorem Bv {w:World} {u v:Value} (xs ys:List dR) (h1:qB w u xs) (h2:qB w v ys) (he:xs.map dR.p=ys.map dR.p):Fn Tryz.prog 21 [u,v].toArray w [] (fun r _=>r=.bool true):=by
 have hl:xs.length=ys.length:=by simpa using congrArg List.length he
 obtain ⟨q,cap,rfl,hne,hle⟩:=h1.rows.opened
 obtain ⟨q2,cap2,rfl,hne2,_⟩:=h2.rows.opened
 refine enter Tryz.func21 ?_
 refine run ?_
 refine aj _ rfl (fun hc=>absurd hc (by simp [hl])) (fun hc=>?_)
 refine run ?_
 refine cu (σ:=Nat) (fun k=>[(5,.int .i64 (k:Int))]) (fun _=>[]) (fun k=>k≤xs.length) (fun k=>xs.length - k) 0 (Nat.zero_le _) ?_
 rintro k m hm hk
 refine run ?_
 refine aj _ rfl (fun hc=>?_) (fun hc=>?_)
 ·have hlt:k<xs.length:=by simp at hc;omega
  obtain ⟨b,o,rfl⟩:=hne au4
  obtain ⟨b2,o2,rfl⟩:=hne2 (by intro e;rw [e] at hl;simp only [List.length_nil] at hl;omega)
  have hr1:=h1.rows.row hlt
  have hr2:=h2.rows.row (show k<ys.length by omega)
  have hcc:=MB he hlt
  have p0x:=h1.en _ (getD_mem hlt)
  have q0x:=h2.en _ (getD_mem (show k<ys.length by omega))
  have p1x:=h1.iv _ (getD_mem hlt)
  have q1x:=h2.iv _ (getD_mem (show k<ys.length by omega))
  generalize xs.getD k default=a at *
  generalize ys.getD k default=c at *
  refine run ?_
  refine eG ?_
  refine bW ?_
  refine jU (fun wc hG=>TN a c (congrArg Prod.fst hcc) (congrArg Prod.snd hcc) (p0x.good hG) (p1x.good hG) (q0x.good hG) (q1x.good hG)) ?_
  refine bW ?_
  refine run ?_
  refine aj _ rfl (fun hp=>?_) (fun hp=>?_)
  ·simp at hp
  ·refine run ?_
   exact bI (k + 1) hlt
 ·refine run ?_
  exact fin1 rfl
theorem Rn {w:World} (cpu ZR:Int) (u v:Value) (s t:PS) (hc:cpu=ZR) (hst:s=t) (hu:aB w u 1 (t.seen.map dN)) (hv:aB w v 1 (t.seen.map dN)):Fn Tryz.prog 22 [.agg (kP cpu u s),.agg (kP ZR v t)].toArray w [] (fun r _=>r=.bool true):=by
 have hu':=hu
 have hv':=hv
 obtain ⟨q,cap,rfl,_,_⟩:=hu.opened
 obtain ⟨q2,cap2,rfl,_,_⟩:=hv.opened
 refine enter Tryz.func22 ?_
 refine GH ?_
 intro B1 B2
 refine az ?_
 generalize hz:decide ((0:Int)=0)=z0
 refine az ?_
 refine aZ (fun _ wc hG=>Gw t.seen _ _ (hu'.good hG) (hv'.good hG)) ?_
 refine az ?_
 refine fin1 ?_
 subst hc hst hz
 simp [bD,mY]
theorem Vd {w:World} (cpu:Int) (u v:Value) (s:PS) (hu:aB w u 1 (s.seen.map dN)) (hv:aB w v 1 (s.seen.map dN)):Fn Tryz.prog 22 [.agg (kP cpu u s),.agg (kP cpu v s)].toArray w [] (fun r _=>r=.bool true):=Rn cpu cpu u v s s rfl rfl hu hv
def Ro (wv:Value) (ws:List Nat) (cpu:Int) (s:PS) (u:Value) (hn:Hp):Prop:=∃ L:ML,lN wv ws L s∧u=.tuple #[.agg #[L.wv],.agg (di s.r).toArray,L.lv,.agg (kP cpu L.sv s)]∧aC (L.hl++L.hs++(L.hw++L.ht)) hn
def Hu (wv sv lv:Value) (cpu:Nat) (two:eu) (s:PS):Array Value:=
 #[wv,.int .u64 (s.r.x0:Nat),.int .u64 (s.r.x1:Nat),.int .u64 (s.r.x2:Nat),.int .u64 (s.r.x3:Nat),.int .u64 (s.r.x4:Nat),.int .u64 (s.r.x5:Nat),.int .u64 (s.r.x6:Nat),.int .u64 (s.r.x7:Nat),
  .int .u64 (s.r.pc:Nat),.int .u64 (s.r.jM:Nat),.int .u64 (s.r.eU:Nat),.int .u64 (s.r.oQ:Nat),.int .u64 (s.r.zM:Nat),.int .u64 (s.r.sJ:Nat),.int .u64 (s.r.far:Nat),
  lv,.int .i64 (cpu:Nat),.bool two.on,.int .i64 two.frame,.int .i64 two.tag,.int .i64 s.pk.cpu,.bool s.pk.fill,.bool s.pk.aN,.bool s.pk.walk,.int .i64 s.pk.drop,.bool s.pk.use,
  .int .i64 (cpu:Nat),.int .i64 s.kind,.int .i64 s.iW.op,.int .i64 s.iW.d,.int .i64 s.iW.n,.int .i64 s.iW.m,.int .i64 s.iW.aV,.int .i64 s.ft.kind,.int .i64 s.ft.stage,.int .i64 s.ft.level,.bool s.ft.walk,.int .i64 s.ft.page,.int .i64 0,sv,
  .int .u64 (s.r.x0:Nat),.int .u64 (s.r.x1:Nat),.int .u64 (s.r.x2:Nat),.int .u64 (s.r.x3:Nat),.int .u64 (s.r.x4:Nat),.int .u64 (s.r.x5:Nat),.int .u64 (s.r.x6:Nat),.int .u64 (s.r.x7:Nat),.int .u64 (s.r.pc:Nat),.int .u64 (s.r.jM:Nat),.int .u64 (s.r.eU:Nat),.int .u64 (s.r.oQ:Nat),.int .u64 (s.r.zM:Nat),.int .u64 (s.r.sJ:Nat),.int .u64 (s.r.far:Nat)]
theorem Ve {fn:Func} {R:Value→Hp→Prop} {l:Fm} {hp:Hp} {s0 a t b a2 t2 b2 a3 t3 b3:Nat} {cs cs2 KZ:Array Value} {tb tb2 ZJ:TypeId} {v:Value} (h:R (.tuple #[.agg cs,.agg cs2,v,.agg KZ]) hp) (hr:fn.results=#[.cell a t,.cell a2 t2,.tmp s0,.cell a3 t3]:=by rfl) (h0:look l s0=some v:=by rfl) (hv:look l a=some (.pointer (some ⟨b,0,none⟩)):=by rfl) (hw:look l a2=some (.pointer (some ⟨b2,0,none⟩)):=by rfl) (hw3:look l a3=some (.pointer (some ⟨b3,0,none⟩)):=by rfl) (hag:mem Tb.ag t=true:=by rfl) (hm:(⟨b,cs,tb⟩:aH)∈hp:=by (first | (with_reducible apply mh) | (focus ((repeat (first | (with_reducible apply mh) | (with_reducible apply mt) | (with_reducible apply List.mem_append_right)));done)))) (hz:lk Tb.sz t=some cs.size:=by rfl) (wo:mem Tb.ag t2=true:=by rfl) (hm2:(⟨b2,cs2,tb2⟩:aH)∈hp:=by (first | (with_reducible apply mh) | (focus ((repeat (first | (with_reducible apply mh) | (with_reducible apply mt) | (with_reducible apply List.mem_append_right)));done)))) (hz2:lk Tb.sz t2=some cs2.size:=by rfl) (XX:mem Tb.ag t3=true:=by rfl) (hm3:(⟨b3,KZ,ZJ⟩:aH)∈hp:=by (first | (with_reducible apply mh) | (focus ((repeat (first | (with_reducible apply mh) | (with_reducible apply mt) | (with_reducible apply List.mem_append_right)));done)))) (hz3:lk Tb.sz t3=some KZ.size:=by rfl):Fin Tryz.prog fn R .ret l hp:=
 ⟨.inl rfl,[.agg cs,.agg cs2,v,.agg KZ],by rw [hr];exact ⟨⟨⟨b,cs,tb⟩,hm,hv,.inr ⟨ay.zq hag,ay.sV hz,rfl⟩⟩,⟨⟨b2,cs2,tb2⟩,hm2,hw,.inr ⟨ay.zq wo,ay.sV hz2,rfl⟩⟩,h0,⟨⟨b3,KZ,ZJ⟩,hm3,hw3,.inr ⟨ay.zq XX,ay.sV hz3,rfl⟩⟩,trivial⟩,h⟩
set_option maxHeartbeats 4000000 in
theorem NK (ws:List Nat) (hw:uy ws) (cap:Nat) (hcc:ws.length≤cap) {p:Option Addr} {w:World} (ts:List dR) (r:dB) (hr:r.Ok) (C:Nat) (two:eu) (pk:BJ) {lv:Value} (hm:aB w (.slice p ws.length cap) 1 (ws.map uV)) (hT:qB w lv ts) (hl:ts.length<100000) (hmay:qH ws.length (ts.map dR.p) C two=true):
  Fn Tryz.prog 19 [.agg #[.slice p ws.length cap],.agg (di r).toArray,lv,.int .i64 (C:Nat),.agg (iI two).toArray,.agg (l7 pk).toArray].toArray w [] (Ro (.slice p ws.length cap) ws C (oZ (KY ws (ts.map dR.p) r pk) C two)):=by
 have hT':=hT
 obtain ⟨ql,cl,rfl,hne,_⟩:=hT.rows.opened
 have ak':=hmay
 simp only [qH,Bool.and_eq_true,decide_eq_true_eq] at hmay
 obtain ⟨⟨⟨⟨⟨m1,m2⟩,m3⟩,m4⟩,m5⟩,m6⟩:=hmay
 have hall:∀ t∈ts,bJ t.es t.ds=true∧lK ws.length t.es=true:=fun t ht=>by
  have h3:=List.all_eq_true.1 m6 t.p (List.mem_map.2 ⟨t,ht,rfl⟩)
  simpa only [Bool.and_eq_true] using h3
 refine enter Tryz.func19 ?_
 refine GH ?_
 intro B1 B2 B3 B4 B5 B6 B7
 obtain ⟨S0,hS0⟩:∃ S0,S0=KY ws (ts.map dR.p) r pk:=⟨_,rfl⟩
 refine dI 12 11 [0,1,2,4,5,6,7,8] [3,9,10,11] [] ?_
 refine bY ?_
 refine ug (fun wc hG=>rX ts (hT'.good hG) hl (fun t ht=>by have:=dJ (hall t ht).1;omega)) ?_
 rintro v hn ⟨ha,hs,ts',hA,hO,hE,hle⟩
 have hl':ts'.length=ts.length:=by simpa using congrArg List.length hE
 obtain ⟨oq,oc,eo⟩:=hA.opened
 rw [List.length_map] at eo
 subst eo
 refine Ef (out:=fG (.slice p ws.length cap) (.slice none 0 0) (.slice oq ts'.length oc) C two (KY ws (ts.map dR.p) r pk)) (out':=fG (.slice p ws.length cap) (.slice none 0 0) (.slice oq ts'.length oc) C two (KY ws (ts.map dR.p) r pk)) ?_ (hf:=by kernel_rfl) (hn:=rfl)
 rw [← hS0]
 refine Zk (fun M=>?_)
 refine sH (fun hx=>eP rfl) ?_
 refine aG ?_
 refine cO ?_
 show Ops _ _ _ _ _ _ _ (aH.mk M (fG (.slice p ws.length cap) (.slice none 0 0) (.slice oq ts'.length oc) C two S0) 92::(hn++aH.mk B7 (kP 0 (.slice none 0 0) mg) 46::aH.mk B6 ((di kJ).toArray) 30::aH.mk B5 (#[.slice none 0 0]) 24::aH.mk B4 (l7 pk).toArray 51::aH.mk B3 (iI two).toArray 33::aH.mk B2 (di r).toArray 30::aH.mk B1 #[.slice p ws.length cap] 24::[])) _
 refine aI (aH.mk M (fG (.slice p ws.length cap) (.slice none 0 0) (.slice oq ts'.length oc) C two S0) 92::((ha++[]++([]++hs))++aH.mk B7 (kP 0 (.slice none 0 0) mg) 46::aH.mk B6 ((di kJ).toArray) 30::aH.mk B5 (#[.slice none 0 0]) 24::aH.mk B4 (l7 pk).toArray 51::aH.mk B3 (iI two).toArray 33::aH.mk B2 (di r).toArray 30::aH.mk B1 #[.slice p ws.length cap] 24::[])) (cnt1 hle) ?_
 have hPs:fD S0 C two:=by
  rw [hS0]
  refine ⟨hw,m1,by show C<(ts.map dR.p).length;omega,by show (ts.map dR.p).length<_;rw [List.length_map];exact hl,fun t ht=>?_,⟨m4,m5⟩,hr⟩
  have h3:=List.all_eq_true.1 m6 t ht
  simp only [Bool.and_eq_true] at h3
  exact Ri h3.1 h3.2
 have hML:lN (.slice p ws.length cap) ws ⟨.slice p ws.length cap,.slice none 0 0,.slice oq ts'.length oc,ts',[],[],ha,hs⟩ S0:=by
  rw [hS0]
  exact ⟨.inl ⟨rfl,rfl⟩,⟨_,_,rfl,hcc⟩,Own.nil _ _,hA,hO,hE⟩
 have hov:S0.over=false:=by rw [hS0];rfl
 have hsn:S0.seen.length=0:=by rw [hS0];rfl
 refine run ?_
 refine dH (aH.mk M (fG (.slice p ws.length cap) (.slice none 0 0) (.slice oq ts'.length oc) C two S0) 92::(ha++[]++([]++hs))) (aH.mk B7 (kP 0 (.slice none 0 0) mg) 46::aH.mk B6 ((di kJ).toArray) 30::aH.mk B5 (#[.slice none 0 0]) 24::aH.mk B4 (l7 pk).toArray 51::aH.mk B3 (iI two).toArray 33::aH.mk B2 (di r).toArray 30::aH.mk B1 #[.slice p ws.length cap] 24::[]) (fun wc' hG=>X0 (.slice p ws.length cap) ws _ M C two S0 hML hPs at7 hov ((dK.old hm).into hG) hG.dD) (fun v hn2 hv=>?_) au
 obtain ⟨rfl,L2,hL2,hle2⟩:=hv
 generalize oZ S0 C two=Z at hL2 hle2 ⊢
 unfold ML.pO at hle2
 obtain ⟨wv3,sv3,lv3,FC,hw3,hs3,hl3,ht3⟩:=L2
 obtain ⟨wH,wI,ew,ag'⟩:=hL2.c
 obtain ⟨y7,y8,es⟩:=hL2.q.opened
 obtain ⟨FD,FH,el⟩:=hL2.l.opened
 dsimp only at ew es el hle2 ⊢
 subst ew es el
 refine aI (aH.mk M (fG (.slice wH Z.ws.length wI) (.slice y7 (Z.seen.map dN).length y8) (.slice FD (FC.map lq).length FH) C two Z) 92::((hl3++hs3++(hw3++ht3))++aH.mk B7 (kP 0 (.slice none 0 0) mg) 46::aH.mk B6 ((di kJ).toArray) 30::aH.mk B5 (#[.slice none 0 0]) 24::aH.mk B4 (l7 pk).toArray 51::aH.mk B3 (iI two).toArray 33::aH.mk B2 (di r).toArray 30::aH.mk B1 #[.slice p ws.length cap] 24::[])) (cnt1 hle2) ?_
 refine run ?_
 rw [show (List.take 15 (List.drop 1 (fG (.slice wH Z.ws.length wI) (.slice y7 (Z.seen.map dN).length y8) (.slice FD (FC.map lq).length FH) C two Z).toList)).toArray=(di Z.r).toArray from rfl]
 refine gB (Hu (.slice wH Z.ws.length wI) (.slice y7 (Z.seen.map dN).length y8) (.slice FD (FC.map lq).length FH) C two Z) ?_
 refine run ?_
 refine gZ 14 ?_
 refine dI 20 16 [0,1,2,3,4,5,6,7,8,9,10,11,12,13,14,15] [16,17,18,19] [aH.mk M (Hu (.slice wH Z.ws.length wI) (.slice y7 (Z.seen.map dN).length y8) (.slice FD (FC.map lq).length FH) C two Z) 92] ?_
 refine bY ?_
 rw [show (List.take 29 (List.drop 27 (Hu (.slice wH Z.ws.length wI) (.slice y7 (Z.seen.map dN).length y8) (.slice FD (FC.map lq).length FH) C two Z).toList)).toArray=kP C (.slice y7 (Z.seen.map dN).length y8) Z from rfl,show (List.take 15 (List.drop 1 (Hu (.slice wH Z.ws.length wI) (.slice y7 (Z.seen.map dN).length y8) (.slice FD (FC.map lq).length FH) C two Z).toList)).toArray=(di Z.r).toArray from rfl,show (List.take 1 (Hu (.slice wH Z.ws.length wI) (.slice y7 (Z.seen.map dN).length y8) (.slice FD (FC.map lq).length FH) C two Z).toList).toArray=#[.slice wH Z.ws.length wI] from rfl]
 refine pW (b:=B5) (tb:=24) (cs:=#[.slice none 0 0]) (cs':=#[.slice wH Z.ws.length wI]) (hp':=aH.mk M (Hu (.slice wH Z.ws.length wI) (.slice y7 (Z.seen.map dN).length y8) (.slice FD (FC.map lq).length FH) C two Z) 92::(aH.mk B7 (kP 0 (.slice none 0 0) mg) 46::aH.mk B6 (di kJ).toArray 30::[]++((hl3++hs3++(hw3++ht3))++[aH.mk B4 (l7 pk).toArray 51,aH.mk B3 (iI two).toArray 33,aH.mk B2 (di r).toArray 30,aH.mk B1 #[.slice p ws.length cap] 24]))) ?_ (hperm:=by (exact au))
 refine pW (b:=B6) (tb:=30) (cs:=(di kJ).toArray) (cs':=(di Z.r).toArray) (hp':=aH.mk M (Hu (.slice wH Z.ws.length wI) (.slice y7 (Z.seen.map dN).length y8) (.slice FD (FC.map lq).length FH) C two Z) 92::(aH.mk B7 (kP 0 (.slice none 0 0) mg) 46::aH.mk B5 #[.slice wH Z.ws.length wI] 24::[]++((hl3++hs3++(hw3++ht3))++[aH.mk B4 (l7 pk).toArray 51,aH.mk B3 (iI two).toArray 33,aH.mk B2 (di r).toArray 30,aH.mk B1 #[.slice p ws.length cap] 24]))) ?_ (hperm:=by (exact au))
 refine sH (fun hx=>eP rfl) ?_
 refine iM (b:=B7) (tb:=46) (cs:=kP 0 (.slice none 0 0) mg) (kP C (.slice y7 (Z.seen.map dN).length y8) Z) (hp':=aH.mk M (Hu (.slice wH Z.ws.length wI) (.slice y7 (Z.seen.map dN).length y8) (.slice FD (FC.map lq).length FH) C two Z) 92::(aH.mk B6 (di Z.r).toArray 30::aH.mk B5 #[.slice wH Z.ws.length wI] 24::[]++((hl3++hs3++(hw3++ht3))++[aH.mk B4 (l7 pk).toArray 51,aH.mk B3 (iI two).toArray 33,aH.mk B2 (di r).toArray 30,aH.mk B1 #[.slice p ws.length cap] 24]))) ?_ (hperm:=by (exact au))
 refine aG ?_
 refine cO ?_
 refine aI (aH.mk B7 (kP C (.slice y7 (Z.seen.map dN).length y8) Z) 46::aH.mk B6 (di Z.r).toArray 30::aH.mk B5 #[.slice wH Z.ws.length wI] 24::(hl3++hs3++(hw3++ht3))) ak ?_
 refine run ?_
 refine Ve (cs:=#[.slice wH Z.ws.length wI]) (cs2:=(di Z.r).toArray) (KZ:=kP C (.slice y7 (Z.seen.map dN).length y8) Z) ?_
 exact ⟨_,hL2,rfl,by (exact ak)⟩
end
section
attribute [local irreducible] Hy St Ops DH gq iK iD fQ DS fB kz
theorem Own.ZT {α:Type} {f:α→List Value} {sz:Nat} (hf:∀ a,(f a).length=sz∧(f a).all (·.oneCell')=true) (h0:0<sz) {e:Nat} {v:Value} {h:Hp} {xs:List α} (hA:Own e sz v h (xs.map f)) {k:Nat} (hk:k<xs.length):∃ g cap cur,v=.slice (some ⟨g,0,none⟩) xs.length cap∧h=[⟨g,cur,e⟩]∧k * sz + sz≤cur.size ∧
  ∀ z:α,Own e sz v [⟨g,putAt cur (k * sz) (f z),e⟩] ((xs.set k z).map f):=by
 obtain ⟨g,cap,cur,rfl,rfl,hr⟩:=hA.row (n:=xs.length) au3 at7
 have hall:∀ c∈xs.map f,c.length=sz:=fun c hc=>by
  obtain ⟨a,_,rfl⟩:=List.mem_map.1 hc
  exact (hf a).1
 have hi:(xs.map f)[k]?=some (f xs[k]):=by
  rw [List.getElem?_map,List.getElem?_eq_getElem hk];rfl
 have hsz:=hr.size
 have hle:=hr.le
 have hks:k * sz + sz≤cur.size:=by
  have:(k + 1) * sz≤cap * sz:=Nat.mul_le_mul_right _ at7
  rw [Nat.add_mul,Nat.one_mul] at this
  omega
 refine ⟨g,cap,cur,rfl,rfl,hks,fun z=>⟨fun c hc=>?_,.inr ⟨g,cap,_,by simp,rfl,?_⟩⟩⟩
 ·obtain ⟨a,_,rfl⟩:=List.mem_map.1 hc
  exact hf a
 ·have h2:=hr.put hall hi (k:=0) (vs:=f z) (by simp [(hf z).1])
  have e2:((xs.set k z).map f).length=xs.length:=by simp
  rw [e2,List.map_set]
  have e3:List.take 0 (f xs[k])++f z++List.drop (0 + (f z).length) (f xs[k])=f z:=by
   rw [List.take_zero,List.nil_append,List.drop_of_length_le (by rw [(hf z).1,(hf _).1];omega),List.append_nil]
  rw [e3] at h2
  exact h2
theorem JA {w:World} {v u:Value} {he hd:Hp} (es:List bf) (ds:List dh) (h1:Own 114 14 v he (es.map bG)) (h2:Own 121 4 u hd (ds.map dG)) (hN:eF (he++hd) w) (hl:es.length<100000) (hl2:ds.length<100000):Fn Tryz.prog 51 [.agg #[v,u]].toArray w ((he++hd).map (·.b)) (fun r hn=>r=.tuple #[]):=by
 obtain ⟨q,cap,ev⟩:=h1.opened
 rw [List.length_map] at ev
 subst ev
 obtain ⟨q2,cap2,wG⟩:=h2.opened
 rw [List.length_map] at wG
 subst wG
 refine dY _ hN Tryz.func51 ?_
 refine run ?_
 intro B
 refine run ?_
 refine cu (σ:=Nat × Hp × List bf) (fun s=>[(2,.int .i64 (s.1:Int))]) (fun s=>⟨B,#[.slice q es.length cap,.slice q2 ds.length cap2],77⟩::(s.2.1++hd)) (fun s=>s.1≤es.length∧s.2.2.length=es.length∧Own 114 14 (.slice q es.length cap) s.2.1 (s.2.2.map bG)) (fun s=>es.length - s.1) (0,he,es) ⟨Nat.zero_le _,rfl,h1⟩ ?_
 rintro ⟨k,h,ys⟩ m hm ⟨hk,hyl,hO⟩
 dsimp only at hm hk hyl hO ⊢
 refine run ?_
 refine aj _ rfl (fun hc=>?_) (fun hc=>?_)
 ·have hlt:k<es.length:=by simp at hc;omega
  obtain ⟨g,cap',cur,eg,rfl,hsz,hset⟩:=hO.ZT KG au0 (k:=k) at7
  rw [hyl] at eg
  cases eg
  simp only [List.cons_append,List.nil_append]
  refine run ?_
  exact bI (k + 1,[⟨g,putAt cur (k * 14) (bG ⟨-9,0,0,false,0,0,0,0,false,false,false,false,false,0⟩),114⟩],ys.set k ⟨-9,0,0,false,0,0,0,0,false,false,false,false,false,0⟩) (hm:=by dsimp only;omega) ⟨hlt,by rw [List.length_set];exact hyl,hset _⟩ (h2:=by simp only [putAt,bG];(exact ak))
 refine run ?_
 refine cu (σ:=Nat × Hp × List dh) (fun s=>[(3,.int .i64 (s.1:Int))]) (fun s=>⟨B,#[.slice q es.length cap,.slice q2 ds.length cap2],77⟩::s.2.1) (fun s=>s.1≤ds.length∧s.2.2.length=ds.length∧Own 121 4 (.slice q2 ds.length cap2) s.2.1 (s.2.2.map dG)) (fun s=>ds.length - s.1) (0,hd,ds) ⟨Nat.zero_le _,rfl,h2⟩ (hh:=by (exact ak)) ?_
 rintro ⟨k2,h2',ys2⟩ m2 hm2 ⟨hk2,X4,hO2⟩
 dsimp only at hm2 hk2 X4 hO2 ⊢
 refine run ?_
 refine aj _ rfl (fun hc=>?_) (fun hc=>?_)
 ·have hlt:k2<ds.length:=by simp at hc;omega
  obtain ⟨g,cap',cur,eg,rfl,hsz,hset⟩:=hO2.ZT KF au0 (k:=k2) at7
  rw [X4] at eg
  cases eg
  refine run ?_
  exact bI (k2 + 1,[⟨g,putAt cur (k2 * 4) (dG ⟨-9,0,0,0⟩),121⟩],ys2.set k2 ⟨-9,0,0,0⟩) (hm:=by dsimp only;omega) ⟨hlt,by rw [List.length_set];exact X4,hset _⟩ (h2:=by simp only [putAt,dG];(exact ak))
 refine run ?_
 exact fin0 rfl
structure X5 (w:World) (wv gv ev dv pv:Value) (ws:List Nat) (Yj:List Int) (es:List bf) (ds:List dh) (ps:List BJ):Prop where
 uX:uy ws
 sw:aB w wv 1 (ws.map uV)
 Rq:∃ q c,wv=.slice q ws.length c∧ws.length≤c
 sg:aB w gv 1 (Yj.map dN)
 se:aB w ev 14 (es.map bG)
 cap:∃ q c,ev=.slice q es.length c∧es.length≤c
 sd:aB w dv 4 (ds.map dG)
 sp:aB w pv 6 (ps.map l7)
 wl:ws.length≤281474976710656
 gl:Yj.length≤281474976710656
 el:es.length≤281474976710656
 dl:ds.length≤281474976710656
 pl:ps.length≤281474976710656
theorem X5.good {w w':World} {hp:Hp} {wv gv ev dv pv:Value} {ws:List Nat} {Yj:List Int} {es:List bf} {ds:List dh} {ps:List BJ} (h:X5 w wv gv ev dv pv ws Yj es ds ps) (hG:Good w [] hp w'):X5 w' wv gv ev dv pv ws Yj es ds ps:=⟨h.uX,h.sw.good hG,h.Rq,h.sg.good hG,h.se.good hG,h.cap,h.sd.good hG,h.sp.good hG,h.wl,h.gl,h.el,h.dl,h.pl⟩
section
variable {w : World} {wv gv ev dv pv : Value} {ws : List Nat} {Yj : List Int} {es : List bf} {ds : List dh} {ps : List BJ} {one two : eu} {fr ac : Int}
theorem Vf (n m cn cm:Nat) (q q2:Option Addr) (w:World) (hn:n≤281474976710656) (hm:m≤281474976710656):Fn Tryz.prog 34 [.agg #[.slice q n cn,.slice q2 m cm]].toArray w [] (fun r _=>r=.int .i64 ((n:Int) + m)):=by
 refine enter Tryz.func34 ?_
 refine run ?_
 intro B
 refine run ?_
 exact fin1 rfl
end
end
section
attribute [local irreducible] Hy St Ops DH gq iK iD fQ DS fB kz
theorem Own.ah2 {e:Nat} {n g cap:Nat} {cur:Array Value} {xs:List Nat} (hA:Own e 1 (.slice (some ⟨g,0,none⟩) n cap) [⟨g,cur,e⟩] (xs.map uV)) {k:Nat} (hk:k<xs.length):nth cur.toList k=some (.int .u64 (xs.getD k 0:Int)):=by
 obtain ⟨g',cap',cur',e1,e2,hr⟩:=hA.row (n:=xs.length) au3 at7
 injection e2 with e2
 injection e2 with _ e2
 subst e2
 have hall:∀ c∈xs.map uV,c.length=1:=fun c hc=>by obtain ⟨x,_,rfl⟩:=List.mem_map.1 hc;rfl
 have hi:(xs.map uV)[k]?=some (uV (xs.getD k 0)):=by
  rw [List.getElem?_map,List.getD_eq_getElem?_getD,List.getElem?_eq_getElem hk];rfl
 have h1:=hr.nth hall hi (k:=0) rfl
 rwa [Nat.mul_one,Nat.add_zero] at h1
theorem Fj {w:World} {v:Value} {ha:Hp} (xs:List Nat) (h64:uy xs) (hA:Own 25 1 v ha (xs.map uV)) (hN:eF ha w) (hl:xs.length<100000):Fn Tryz.prog 23 [v].toArray w (ha.map (·.b)) (fun u hn=>u=.tuple #[]):=by
 obtain ⟨q,cap,ev⟩:=hA.opened
 rw [List.length_map] at ev
 subst ev
 refine dY _ hN Tryz.func23 ?_
 refine run ?_
 refine cu (σ:=Nat × Hp × List Nat) (fun s=>[(2,.int .i64 (s.1:Int))]) (fun s=>s.2.1) (fun s=>s.1≤xs.length∧s.2.2.length=xs.length∧uy s.2.2∧Own 25 1 (.slice q xs.length cap) s.2.1 (s.2.2.map uV)) (fun s=>xs.length - s.1) (0,ha,xs) ⟨Nat.zero_le _,rfl,h64,hA⟩ ?_
 rintro ⟨k,h,ys⟩ m hm ⟨hk,hyl,Vg,hO⟩
 dsimp only at hm hk hyl Vg hO ⊢
 refine run ?_
 refine aj _ rfl (fun hc=>?_) (fun hc=>?_)
 ·have hlt:k<xs.length:=by simp at hc;omega
  obtain ⟨g,cap',cur,eg,rfl,hsz,hset⟩:=hO.WX (k:=k) at7
  rw [hyl] at eg
  cases eg
  have hn:=hO.ah2 (k:=k) at7
  refine run ?_
  refine fA au2 (Jb rfl rfl (ys.getD k 0) 21845 rfl rfl (Vg.at k) au0) ?_
  refine run ?_
  exact bI (k + 1,[⟨g,cur.setIfInBounds k (.int .u64 ((ys.getD k 0 ^^^ 21845:Nat):Int)),25⟩],ys.set k (ys.getD k 0 ^^^ 21845)) (hm:=by dsimp only;omega) ⟨hlt,by rw [List.length_set];exact hyl,Vg.set (Nat.xor_lt_two_pow (n:=64) (Vg.at k) au0) _,by rw [← hyl];exact hset _⟩ (h2:=by (exact ak))
 ·refine run ?_
  intro T
  refine xy (c:=uV 5) [⟨T,#[.int .u64 5],25⟩] hO (fun v' ha' hA'=>?_) au1 (bP (m:=1) mh rfl) au
  refine run ?_
  exact fin0 rfl
theorem jk.get:∀ {ts:List dR} {h:Hp} {k:Nat},jk (ts.drop k) h→k<ts.length→∃ he hd hr,EW (ts.getD k default) he hd∧jk (ts.drop (k + 1)) hr∧aC (he++hd++hr) h
 | [],_,_,_,hk=>absurd hk au3
 | t::ts,h,0,hw,_=>hw
 | t::ts,h,k + 1,hw,hk=>jk.get (ts:=ts) (k:=k) hw (by simpa using hk)
def tl0:dR:=⟨[],[],none,0,none,0⟩
theorem Hw {w:World} {v:Value} {ha hs:Hp} (ts:List dR) (hA:Own 77 2 v ha (ts.map lq)) (hO:jk ts hs) (hN:eF (ha++hs) w) (hl:ts.length<100000):Fn Tryz.prog 24 [v].toArray w ((ha++hs).map (·.b)) (fun u hn=>u=.tuple #[]):=by
 obtain ⟨q,cap,ev⟩:=hA.opened
 rw [List.length_map] at ev
 subst ev
 refine dY _ hN Tryz.func24 ?_
 refine run ?_
 refine cu (σ:=Nat × Hp × Hp × List dR) (fun s=>[(2,.int .i64 (s.1:Int))]) (fun s=>s.2.1++s.2.2.1) (fun s=>s.1≤ts.length∧s.2.2.2.length=ts.length∧Own 77 2 (.slice q ts.length cap) s.2.1 (s.2.2.2.map lq)∧jk (s.2.2.2.drop s.1) s.2.2.1) (fun s=>ts.length - s.1) (0,ha,hs,ts) ⟨Nat.zero_le _,rfl,hA,hO⟩ ?_
 rintro ⟨k,h,g,ys⟩ m hm ⟨hk,hyl,hB,hW⟩
 dsimp only at hm hk hyl hB hW ⊢
 refine run ?_
 refine aj _ rfl (fun hc=>?_) (fun hc=>?_)
 ·have hlt:k<ts.length:=by simp at hc;omega
  obtain ⟨b,cap',cur,eg,rfl,hsz,qG,hput⟩:=hB.ND (k:=k) at7
  rw [hyl] at eg
  cases eg
  obtain ⟨he,hd,hr,⟨o1,o2,o3,o4⟩,hW2,hle⟩:=jk.get hW at7
  have hld:=x9 (qG 0 _ rfl) (qG 1 _ rfl)
  have hS:=hput 0 [.slice none 0 0,.slice none 0 0] tl0 au3 rfl ⟨rfl,rfl⟩
  generalize ys.getD k default=t at hld o1 o2 o3 o4
  refine OE (aH.mk b cur 77::((he++hd)++hr)) (cnt1 hle) ?_
  refine run ?_
  refine dH (he++hd) (aH.mk b cur 77::hr) (fun wc hG=>JA t.es t.ds o1 o2 hG.dD at7 at7) (fun v hn hv=>?_) au
  subst hv
  refine aI (aH.mk b cur 77::hr) ak ?_
  refine run ?_
  exact bI (k + 1,[⟨b,putAt cur (k * 2) [.slice none 0 0,.slice none 0 0],77⟩],hr,ys.set k tl0) (hm:=by dsimp only;omega) ⟨hlt,by rw [List.length_set];exact hyl,by rw [← hyl];exact hS,by rw [List.drop_set_of_lt at7];exact hW2⟩ (h2:=by simp only [putAt];(exact ak))
 ·refine run ?_
  exact fin0 rfl
structure Fp (w:World) (wv lv pv:Value) (ws:List Nat) (ts:List dR) (ps:List BJ) (r:dB):Prop where
 uX:uy ws
 r:r.Ok
 sw:aB w wv 1 (ws.map uV)
 Rq:∃ q c,wv=.slice q ws.length c∧ws.length≤c
 tl:qB w lv ts
 ah3:∀ t∈ts,t.es.length≤t.ec
 sp:aB w pv 6 (ps.map l7)
 wl:ws.length≤281474976710656
 ll:ts.length≤281474976710656
 el:∀ t∈ts,t.es.length≤281474976710656∧t.ds.length≤281474976710656
 pl:ps.length≤281474976710656
theorem Fp.good {w w':World} {hp:Hp} {wv lv pv:Value} {ws:List Nat} {ts:List dR} {ps:List BJ} {r:dB} (h:Fp w wv lv pv ws ts ps r) (hG:Good w [] hp w'):Fp w' wv lv pv ws ts ps r:=⟨h.uX,h.r,h.sw.good hG,h.Rq,h.tl.good hG,h.ah3,h.sp.good hG,h.wl,h.ll,h.el,h.pl⟩
def sS (wv lv pv:Value) (r:dB) (cpu:Int) (two:eu):Array Value:=#[wv,.int .u64 (r.x0:Nat),.int .u64 (r.x1:Nat),.int .u64 (r.x2:Nat),.int .u64 (r.x3:Nat),.int .u64 (r.x4:Nat),.int .u64 (r.x5:Nat),.int .u64 (r.x6:Nat),.int .u64 (r.x7:Nat),.int .u64 (r.pc:Nat),.int .u64 (r.jM:Nat),.int .u64 (r.eU:Nat),.int .u64 (r.oQ:Nat),.int .u64 (r.zM:Nat),.int .u64 (r.sJ:Nat),.int .u64 (r.far:Nat),lv,.int .i64 cpu,.bool two.on,.int .i64 two.frame,.int .i64 two.tag,pv]
theorem Fq (n:Int) (w:World):Fn Tryz.prog 18 [.int .i64 n].toArray w [] (fun u _=>u=.int .i64 n):=by
 refine enter Tryz.func18 ?_
 refine run ?_
 exact fin1 rfl
theorem NL {w:World} {wv lv pv:Value} {ws:List Nat} {ts:List dR} {ps:List BJ} {r:dB} (cpu:Int) (two:eu) (h:Fp w wv lv pv ws ts ps r):Fn Tryz.prog 13 [.agg (sS wv lv pv r cpu two)].toArray w [] (fun u _=>∃ b,u=.bool b∧(b=false→ws.length + ps.length + ts.length≤3000∧∀ t∈ts,t.es.length + t.ds.length≤3000)):=by
 obtain ⟨q1,c1,rfl,_⟩:=h.Rq
 obtain ⟨q2,c2,rfl,hne,_⟩:=h.tl.rows.opened
 obtain ⟨q3,c3,rfl,_,_⟩:=h.sp.opened
 have h1:=h.wl
 have h2:=h.ll
 have h3:=h.pl
 refine enter Tryz.func13 ?_
 refine run ?_
 intro B
 refine run ?_
 refine cu (σ:=Nat × Int) (fun z=>[(4,.int .i64 (z.1:Int)),(3,.int .i64 z.2)]) (fun _=>[⟨B,#[.slice q1 ws.length c1,.int .u64 (r.x0:Nat),.int .u64 (r.x1:Nat),.int .u64 (r.x2:Nat),.int .u64 (r.x3:Nat),.int .u64 (r.x4:Nat),.int .u64 (r.x5:Nat),.int .u64 (r.x6:Nat),.int .u64 (r.x7:Nat),.int .u64 (r.pc:Nat),.int .u64 (r.jM:Nat),.int .u64 (r.eU:Nat),.int .u64 (r.oQ:Nat),.int .u64 (r.zM:Nat),.int .u64 (r.sJ:Nat),.int .u64 (r.far:Nat),.slice q2 ts.length c2,.int .i64 cpu,.bool two.on,.int .i64 two.frame,.int .i64 two.tag,.slice q3 ps.length c3],36⟩]) (fun z=>z.1≤ts.length∧(ws.length:Int) + ps.length + ts.length≤z.2∧z.2≤2251799813685248∧∀ t∈ts.take z.1,(ws.length:Int) + ps.length + ts.length + t.es.length + t.ds.length≤z.2) (fun z=>ts.length - z.1) (0,(ws.length:Int) + ps.length + ts.length) ⟨Nat.zero_le _,Int.le_refl _,by dsimp only;omega,fun t ht=>absurd ht au3⟩ ?_
 rintro ⟨k,z⟩ m hm ⟨hk,hz,hz2,hall⟩
 dsimp only at hm hk hz hz2 hall ⊢
 refine az ?_
 refine aj _ rfl (fun hc=>?_) (fun hc=>?_)
 ·have hlt:k<ts.length∧z<1048576:=by simp at hc;omega
  obtain ⟨b,o,rfl⟩:=hne av7
  have hr2:=h.tl.rows.row hlt.1
  have hel:=h.el _ (getD_mem hlt.1)
  have htn:=gz hlt.1
  generalize ts.getD k default=t at hr2 hel htn
  refine run ?_
  refine ax (fun wc hG=>Vf t.es.length t.ds.length t.ec t.dc t.ep t.dp wc hel.1 hel.2) ?_
  refine run ?_
  refine bI (k + 1,z + ((t.es.length:Int) + t.ds.length)) (hm:=by dsimp only;omega) ⟨hlt.1,by dsimp only;omega,by dsimp only;omega,fun x hx=>?_⟩
  dsimp only at hx ⊢
  rw [htn] at hx
  rcases List.mem_append.1 hx with hx | hx
  ·have:=hall x hx;omega
  ·obtain rfl:=List.mem_singleton.1 hx;omega
 ·refine run ?_
  refine fin1 ⟨_,rfl,fun hb=>?_⟩
  have hb':z≤3000:=by simpa using hb
  have hge:k=ts.length:=by simp at hc;omega
  rw [hge,List.take_length] at hall
  exact ⟨by omega,fun t ht=>by have:=hall t ht;omega⟩
theorem Hz {α:Type} (p q:α→Bool):∀ l:List α,(l.all fun x=>p x && q x)=(l.all p && l.all q)
 | []=>rfl
 | x::l=>by
  simp only [List.all_cons,Hz p q l]
  cases p x<;>cases q x<;>cases l.all p<;>cases l.all q<;>rfl
theorem Vh (n:Nat) (ts:List dR) (cpu:Int) (two:eu):qH n (ts.map dR.p) cpu two=(!(((!dP n || !ts.all fun t=>bJ t.es t.ds) || !(decide (0≤cpu) && decide (cpu≤(ts.length:Int) - 1))) || !BM ⟨false,0,0⟩ two) && ts.all fun t=>lK n t.es):=by
 unfold qH
 rw [List.length_map,List.all_map]
 have h1:(ts.all ((fun t:List bf × List dh=>bJ t.1 t.2 && lK n t.1) ∘ dR.p))=((ts.all fun t=>bJ t.es t.ds) && ts.all fun t=>lK n t.es):=Hz _ _ _
 have h2:decide (cpu≤(ts.length:Int) - 1)=decide (cpu<(ts.length:Int)):=by rw [Bool.eq_iff_iff];simp;omega
 rw [h1,h2]
 have h3:BM ⟨false,0,0⟩ two=(two.may && two.on):=by unfold BM;rfl
 rw [h3]
 cases dP n<;>cases (ts.all fun t=>bJ t.es t.ds)<;>cases decide (0≤cpu)<;>cases decide (cpu<(ts.length:Int))<;>cases two.on<;>cases two.may<;>rfl
theorem Ld (ws:List Nat) (hn:ws.length<1000000) (ts:List dR) (hl:ts.length<100000) (cpu:Int) (two:eu) {w:World} {mv lv:Value} (hm:∃ q c,mv=.slice q ws.length c∧ws.length≤c) (hT:qB w lv ts):Fn Tryz.prog 17 [.agg #[mv],lv,.int .i64 cpu,.agg (iI two).toArray].toArray w [] (fun u _=>u=.bool (qH ws.length (ts.map dR.p) cpu two)):=by
 obtain ⟨q,cap,rfl,_⟩:=hm
 have hT':=hT
 obtain ⟨q2,c2,rfl,hne,_⟩:=hT.rows.opened
 refine enter Tryz.func17 ?_
 refine run ?_
 intro B1 B2
 refine az ?_
 refine ax (fun wc hG=>WV ws.length cap q wc) ?_
 refine az ?_
 refine aZ (fun _ wc hG=>TM ts _ (hT'.good hG)) ?_
 refine az ?_
 refine aZ (fun _ wc hG=>uw cpu _ wc) ?_
 refine az ?_
 refine aZ (fun _ wc hG=>Zm ⟨false,0,0⟩ two wc) ?_
 refine az ?_
 rw [Vh]
 generalize (((!dP ws.length || !ts.all fun t=>bJ t.es t.ds) || !(decide (0≤cpu) && decide (cpu≤(ts.length:Int) - 1))) || !BM ⟨false,0,0⟩ two)=G
 refine aj _ rfl (fun hc=>?_) (fun hc=>?_)
 ·rw [hc]
  refine run ?_
  exact fin1 rfl
 rw [hc]
 refine run ?_
 refine cu (σ:=Nat) (fun k=>[(9,.int .i64 (k:Int))]) (fun _=>[⟨B2,(iI two).toArray,33⟩,⟨B1,#[.slice q ws.length cap],24⟩]) (fun k=>k≤ts.length∧(ts.take k).all (fun t=>lK ws.length t.es)=true) (fun k=>ts.length - k) 0 ⟨Nat.zero_le _,rfl⟩ ?_
 rintro k m hm ⟨hk,hA⟩
 refine run ?_
 refine aj _ rfl (fun hc2=>?_) (fun hc2=>?_)
 ·have hlt:k<ts.length:=by simp at hc2;omega
  obtain ⟨b,o,rfl⟩:=hne av7
  have hr2:=hT'.rows.row hlt
  have hen:=hT'.en _ (getD_mem hlt)
  have htn:=gz hlt
  have hmem:=getD_mem hlt
  generalize ts.getD k default=t at hr2 hen htn hmem
  refine run ?_
  refine eG ?_
  refine bW ?_
  refine jU (fun wc hG=>Xz ws.length cap at7 q t.es (u:=t.dv) (hen.good hG) ⟨_,_,_,rfl⟩) ?_
  refine bW ?_
  refine run ?_
  refine aj _ rfl (fun hc3=>?_) (fun hc3=>?_)
  ·have hf:(ts.all fun t=>lK ws.length t.es)=false:=by
    rw [List.all_eq_false]
    exact ⟨t,hmem,by simpa using hc3⟩
   rw [hf]
   refine run ?_
   exact fin1 rfl
  ·refine run ?_
   exact bI (k + 1) ⟨hlt,by rw [htn,List.all_append,hA];simpa using hc3⟩
 ·have hge:k=ts.length:=by simp at hc2;omega
  rw [hge,List.take_length] at hA
  rw [hA]
  refine run ?_
  exact fin1 rfl
end
section
open Go.ChangeShapes Go.WideShapes Go.ChangeAt Go.RowKit
theorem nT {v:Value} (h:okW (.i .u64) v=true):∃ a:Nat,v=.int .u64 (a:Int)∧a<18446744073709551616:=by
 cases v<;>simp only [okW,Bool.and_eq_true,decide_eq_true_eq,Bool.false_eq_true] at h
 obtain ⟨rfl,h⟩:=h
 rename_i n
 simp only [Lit.wf,Bool.and_eq_true,decide_eq_true_eq] at h
 have h0:0≤n:=Int.le_trans au0 h.1
 have h1:n≤18446744073709551615:=Int.le_trans h.2 au0
 exact ⟨n.toNat,by rw [Int.toNat_of_nonneg h0],by omega⟩
theorem Rt {cs:List Value} (h:jJ [.i .i64,.i .i64,.i .i64,.b,.i .i64,.i .i64,.i .i64,.i .i64,.b,.b,.b,.b,.b,.i .i64] cs=true):∃ e:bf,cs=bG e∧True:=by
 obtain ⟨_,_,rfl,h0,r0⟩:=aJ h
 obtain ⟨_,_,rfl,h1,r1⟩:=aJ r0
 obtain ⟨_,_,rfl,h2,r2⟩:=aJ r1
 obtain ⟨_,_,rfl,h3,r3⟩:=aJ r2
 obtain ⟨_,_,rfl,h4,r4⟩:=aJ r3
 obtain ⟨_,_,rfl,h5,r5⟩:=aJ r4
 obtain ⟨_,_,rfl,h6,r6⟩:=aJ r5
 obtain ⟨_,_,rfl,h7,r7⟩:=aJ r6
 obtain ⟨_,_,rfl,h8,r8⟩:=aJ r7
 obtain ⟨_,_,rfl,h9,r9⟩:=aJ r8
 obtain ⟨_,_,rfl,h10,r10⟩:=aJ r9
 obtain ⟨_,_,rfl,h11,r11⟩:=aJ r10
 obtain ⟨_,_,rfl,h12,r12⟩:=aJ r11
 obtain ⟨_,_,rfl,h13,r13⟩:=aJ r12
 obtain ⟨a0,rfl,_⟩:=nM h0
 obtain ⟨a1,rfl,_⟩:=nM h1
 obtain ⟨a2,rfl,_⟩:=nM h2
 obtain ⟨a3,rfl⟩:=tZ h3
 obtain ⟨a4,rfl,_⟩:=nM h4
 obtain ⟨a5,rfl,_⟩:=nM h5
 obtain ⟨a6,rfl,_⟩:=nM h6
 obtain ⟨a7,rfl,_⟩:=nM h7
 obtain ⟨a8,rfl⟩:=tZ h8
 obtain ⟨a9,rfl⟩:=tZ h9
 obtain ⟨a10,rfl⟩:=tZ h10
 obtain ⟨a11,rfl⟩:=tZ h11
 obtain ⟨a12,rfl⟩:=tZ h12
 obtain ⟨YZ,rfl,_⟩:=nM h13
 obtain rfl:=ou r13
 exact ⟨⟨a0,a1,a2,a3,a4,a5,a6,a7,a8,a9,a10,a11,a12,YZ⟩,rfl,trivial⟩
theorem Ru {cs:List Value} (h:jJ [.i .i64,.i .i64,.i .i64,.i .i64] cs=true):∃ e:dh,cs=dG e∧True:=by
 obtain ⟨_,_,rfl,h0,r0⟩:=aJ h
 obtain ⟨_,_,rfl,h1,r1⟩:=aJ r0
 obtain ⟨_,_,rfl,h2,r2⟩:=aJ r1
 obtain ⟨_,_,rfl,h3,r3⟩:=aJ r2
 obtain ⟨a0,rfl,_⟩:=nM h0
 obtain ⟨a1,rfl,_⟩:=nM h1
 obtain ⟨a2,rfl,_⟩:=nM h2
 obtain ⟨a3,rfl,_⟩:=nM h3
 obtain rfl:=ou r3
 exact ⟨⟨a0,a1,a2,a3⟩,rfl,trivial⟩
def dB.Fits (r:dB):Prop:=r.x0<18446744073709551616∧r.x1<18446744073709551616∧r.x2<18446744073709551616∧r.x3<18446744073709551616∧r.x4<18446744073709551616∧r.x5<18446744073709551616∧r.x6<18446744073709551616∧r.x7<18446744073709551616∧r.pc<18446744073709551616∧r.jM<18446744073709551616∧r.eU<18446744073709551616∧r.oQ<18446744073709551616∧r.zM<18446744073709551616∧r.sJ<18446744073709551616∧r.far<18446744073709551616
theorem Vj {cs:List Value} (h:jJ [.i .u64,.i .u64,.i .u64,.i .u64,.i .u64,.i .u64,.i .u64,.i .u64,.i .u64,.i .u64,.i .u64,.i .u64,.i .u64,.i .u64,.i .u64] cs=true):∃ r:dB,cs=di r∧r.Fits:=by
 obtain ⟨_,_,rfl,h0,r0⟩:=aJ h
 obtain ⟨_,_,rfl,h1,r1⟩:=aJ r0
 obtain ⟨_,_,rfl,h2,r2⟩:=aJ r1
 obtain ⟨_,_,rfl,h3,r3⟩:=aJ r2
 obtain ⟨_,_,rfl,h4,r4⟩:=aJ r3
 obtain ⟨_,_,rfl,h5,r5⟩:=aJ r4
 obtain ⟨_,_,rfl,h6,r6⟩:=aJ r5
 obtain ⟨_,_,rfl,h7,r7⟩:=aJ r6
 obtain ⟨_,_,rfl,h8,r8⟩:=aJ r7
 obtain ⟨_,_,rfl,h9,r9⟩:=aJ r8
 obtain ⟨_,_,rfl,h10,r10⟩:=aJ r9
 obtain ⟨_,_,rfl,h11,r11⟩:=aJ r10
 obtain ⟨_,_,rfl,h12,r12⟩:=aJ r11
 obtain ⟨_,_,rfl,h13,r13⟩:=aJ r12
 obtain ⟨_,_,rfl,RN,r14⟩:=aJ r13
 obtain ⟨a0,rfl,b0⟩:=nT h0
 obtain ⟨a1,rfl,b1⟩:=nT h1
 obtain ⟨a2,rfl,b2⟩:=nT h2
 obtain ⟨a3,rfl,b3⟩:=nT h3
 obtain ⟨a4,rfl,b4⟩:=nT h4
 obtain ⟨a5,rfl,b5⟩:=nT h5
 obtain ⟨a6,rfl,b6⟩:=nT h6
 obtain ⟨a7,rfl,b7⟩:=nT h7
 obtain ⟨a8,rfl,b8⟩:=nT h8
 obtain ⟨a9,rfl,b9⟩:=nT h9
 obtain ⟨a10,rfl,b10⟩:=nT h10
 obtain ⟨a11,rfl,b11⟩:=nT h11
 obtain ⟨a12,rfl,b12⟩:=nT h12
 obtain ⟨YZ,rfl,b13⟩:=nT h13
 obtain ⟨a14,rfl,b14⟩:=nT RN
 obtain rfl:=ou r14
 exact ⟨⟨a0,a1,a2,a3,a4,a5,a6,a7,a8,a9,a10,a11,a12,YZ,a14⟩,rfl,b0,b1,b2,b3,b4,b5,b6,b7,b8,b9,b10,b11,b12,b13,b14⟩
section
variable {H : Type} {enc : TypeId × Value → H} {w : World} {base : Nat} {spare : Nat → Bool} {held : Bool}
theorem JB {fuel:Nat} {cs:List Value} {x:DataW H × List MemPlace} (h:DataW.trod enc Tryz.prog w base spare held fuel 22 cs=some x) (hz:IU Tryz.prog 22 x.1):∃ v,∃ xs:List Nat,cs=[v]∧aB w v 1 (xs.map uV)∧(∀ a∈xs,a<18446744073709551616)∧xs.length≤reachBytes:=
 qZ (ks:=[.i .u64]) Tryz.underlying22 av6 av6 au0 av6 (fun cs h=>by
  obtain ⟨_,_,rfl,h1,h⟩:=aJ h
  obtain rfl:=ou h
  obtain ⟨a,rfl,ha⟩:=nT h1
  exact ⟨a,rfl,ha⟩) h hz
theorem HY {fuel:Nat} {t e:TypeId} {p:Option Addr} {n c:Nat} {x:DataW H × List MemPlace} (ht:Tryz.prog.underlying t=some (.slice e)) (h:DataW.trod enc Tryz.prog w base spare held fuel t [.slice p n c]=some x):n≤c:=by
 rcases Go.Deep.open_slice ht h with ⟨hc,_⟩ | ⟨a,len,cap,m,k,D,Pl,hc,hb,hl,hm,hmm,hxx,hx⟩
 ·injection hc with hc
  injection hc with _ h1 h2
  omega
 ·injection hc with hc
  injection hc with _ h1 h2
  omega
theorem open_entries {fuel:Nat} {cs:List Value} {x:DataW H × List MemPlace} (h:DataW.trod enc Tryz.prog w base spare held fuel 74 cs=some x) (hz:IU Tryz.prog 74 x.1):∃ v,∃ xs:List bf,cs=[v]∧aB w v 14 (xs.map bG)∧(∀ a∈xs,True)∧xs.length≤reachBytes:=
 qZ (f:=bG) (q:=fun _=>True) (ks:=[.i .i64,.i .i64,.i .i64,.b,.i .i64,.i .i64,.i .i64,.i .i64,.b,.b,.b,.b,.b,.i .i64]) Tryz.underlying74 av6 (ay.sV (t:=114) (s:=14) rfl) au0 av6 (fun cs hc=>Rt hc) h hz
theorem H6 {fuel:Nat} {cs:List Value} {x:DataW H × List MemPlace} (h:DataW.trod enc Tryz.prog w base spare held fuel 75 cs=some x) (hz:IU Tryz.prog 75 x.1):∃ v,∃ xs:List dh,cs=[v]∧aB w v 4 (xs.map dG)∧(∀ a∈xs,True)∧xs.length≤reachBytes:=
 qZ (f:=dG) (q:=fun _=>True) (ks:=[.i .i64,.i .i64,.i .i64,.i .i64]) Tryz.underlying75 av6 (ay.sV (t:=121) (s:=4) rfl) au0 av6 (fun cs hc=>Ru hc) h hz
theorem Rw {fuel:Nat} {cs:List Value} {x:DataW H × List MemPlace} (h:DataW.trod enc Tryz.prog w base spare held fuel 77 cs=some x) (hz:IU Tryz.prog 77 x.1):∃ t:dR,cs=lq t∧(aB w t.ev 14 (t.es.map bG)∧aB w t.dv 4 (t.ds.map dG)∧t.es.length≤t.ec∧t.es.length≤reachBytes∧t.ds.length≤reachBytes):=by
 obtain ⟨hl,n,hf⟩:=tY Tryz.underlying77 h hz
 rw [jK (show fU Tryz.prog 77=some 2 from ay.sV rfl)] at hl
 match cs,hl with
 | [c0,c1],_=>
  have c1s:Tryz.prog.cellsOf 74=1:=by kernel_rfl
  have c2s:Tryz.prog.cellsOf 75=1:=by kernel_rfl
  obtain ⟨_,h0,z0⟩:=hf 0 _ rfl
  obtain ⟨_,h1,z1⟩:=hf 1 _ rfl
  simp only [List.getElem_toArray,List.getElem_cons_zero,List.getElem_cons_succ,c1s,c2s,List.drop_zero,List.drop_succ_cons,List.take_succ_cons,List.take_zero] at h0 h1 z0 z1
  obtain ⟨v0,es,e0,s0,_,l0⟩:=open_entries h0 z0
  obtain ⟨v1,ds,e1,s1,_,l1⟩:=H6 h1 z1
  cases e0;cases e1
  obtain ⟨p0,k0,rfl,_,_⟩:=s0.opened
  obtain ⟨p1,k1,rfl,_,_⟩:=s1.opened
  exact ⟨⟨es,ds,p0,k0,p1,k1⟩,rfl,s0,s1,HY Tryz.underlying74 h0,l0,l1⟩
end
end
section
open Go.ChangeShapes Go.WideShapes Go.ChangeAt Go.RowKit
theorem Vk {cs:List Value} (h:jJ [.i .i64,.b,.b,.b,.i .i64,.b] cs=true):∃ e:BJ,cs=l7 e∧True:=by
 obtain ⟨_,_,rfl,h0,r0⟩:=aJ h
 obtain ⟨_,_,rfl,h1,r1⟩:=aJ r0
 obtain ⟨_,_,rfl,h2,r2⟩:=aJ r1
 obtain ⟨_,_,rfl,h3,r3⟩:=aJ r2
 obtain ⟨_,_,rfl,h4,r4⟩:=aJ r3
 obtain ⟨_,_,rfl,h5,r5⟩:=aJ r4
 obtain ⟨a0,rfl,_⟩:=nM h0
 obtain ⟨a1,rfl⟩:=tZ h1
 obtain ⟨a2,rfl⟩:=tZ h2
 obtain ⟨a3,rfl⟩:=tZ h3
 obtain ⟨a4,rfl,_⟩:=nM h4
 obtain ⟨a5,rfl⟩:=tZ h5
 obtain rfl:=ou r5
 exact ⟨⟨a0,a1,a2,a3,a4,a5⟩,rfl,trivial⟩
theorem Vl {cs:List Value} (h:jJ [.b,.i .i64,.i .i64] cs=true):∃ e:eu,cs=iI e:=by
 obtain ⟨_,_,rfl,h0,r0⟩:=aJ h
 obtain ⟨_,_,rfl,h1,r1⟩:=aJ r0
 obtain ⟨_,_,rfl,h2,r2⟩:=aJ r1
 obtain ⟨a0,rfl⟩:=tZ h0
 obtain ⟨a1,rfl,_⟩:=nM h1
 obtain ⟨a2,rfl,_⟩:=nM h2
 obtain rfl:=ou r2
 exact ⟨⟨a0,a1,a2⟩,rfl⟩
section
variable {H : Type} {enc : TypeId × Value → H} {w : World} {base : Nat} {spare : Nat → Bool} {held : Bool}
theorem JC {fuel:Nat} {cs:List Value} {x:DataW H × List MemPlace} (h:DataW.trod enc Tryz.prog w base spare held fuel 34 cs=some x) (hz:IU Tryz.prog 34 x.1):∃ v,∃ xs:List BJ,cs=[v]∧aB w v 6 (xs.map l7)∧(∀ a∈xs,True)∧xs.length≤reachBytes:=
 qZ (f:=l7) (q:=fun _=>True) (ks:=[.i .i64,.b,.b,.b,.i .i64,.b]) Tryz.underlying34 av6 (ay.sV (t:=51) (s:=6) rfl) au0 av6 (fun cs hc=>Vk hc) h hz
theorem NM {fuel:Nat} {cs:List Value} {x:DataW H × List MemPlace} (h:DataW.trod enc Tryz.prog w base spare held fuel 24 cs=some x) (hz:IU Tryz.prog 24 x.1):∃ v,∃ ws:List Nat,cs=[v]∧uy ws∧aB w v 1 (ws.map uV)∧(∃ q c,v=.slice q ws.length c∧ws.length≤c)∧ws.length≤reachBytes:=by
 obtain ⟨hl,n,hf⟩:=tY Tryz.underlying24 h hz
 rw [jK (show fU Tryz.prog 24=some 1 from ay.sV rfl)] at hl
 match cs,hl with
 | [c0],_=>
  have s0:Tryz.prog.cellsOf 22=1:=by kernel_rfl
  obtain ⟨_,h0,z0⟩:=hf 0 _ rfl
  simp only [List.getElem_toArray,List.getElem_cons_zero,List.getElem_cons_succ,s0,List.drop_zero,List.drop_succ_cons,List.take_succ_cons,List.take_zero] at h0 z0
  obtain ⟨v,ws,e0,s0,w0,l0⟩:=JB h0 z0
  cases e0
  obtain ⟨p0,k0,rfl,_,_⟩:=s0.opened
  exact ⟨_,ws,rfl,w0,s0,⟨_,_,rfl,HY Tryz.underlying22 h0⟩,l0⟩
theorem NP {fuel:Nat} {cs:List Value} {x:DataW H × List MemPlace} (h:DataW.trod enc Tryz.prog w base spare held fuel 31 cs=some x) (hz:IU Tryz.prog 31 x.1):∃ v,∃ ts:List dR,cs=[v]∧qB w v ts∧(∀ t∈ts,t.es.length≤t.ec∧t.es.length≤reachBytes∧t.ds.length≤reachBytes)∧ts.length≤reachBytes:=by
 obtain ⟨p,xs,cap,rfl,hl,hr⟩:=Cm (α:=dR) (R:=fun cs t=>cs=lq t∧(aB w t.ev 14 (t.es.map bG)∧aB w t.dv 4 (t.ds.map dG)∧t.es.length≤t.ec∧t.es.length≤reachBytes∧t.ds.length≤reachBytes)) Tryz.underlying31 (ay.sV (t:=77) (s:=2) rfl) au0 av6 (fun n cs x hx hz=>Rw hx hz) h hz
 obtain ⟨h1,h2⟩:=CB (f:=lq) (q:=fun t=>aB w t.ev 14 (t.es.map bG)∧aB w t.dv 4 (t.ds.map dG)∧t.es.length≤t.ec∧t.es.length≤reachBytes∧t.ds.length≤reachBytes) hl hr
 exact ⟨_,xs,rfl,⟨h1,fun t ht=>(h2 t ht).1,fun t ht=>(h2 t ht).2.1⟩,fun t ht=>(h2 t ht).2.2,hl⟩
theorem dB.Fits.ok {r:dB} (h:r.Fits):r.Ok:=by
 obtain ⟨h0,h1,h2,h3,h4,h5,h6,h7,h8,h9,h10,h11,h12,h13,RN⟩:=h
 exact ⟨h0,h1,h2,h3,h4,h5,h6,h7,h8,h9,h10,h11,h12,h13,RN⟩
theorem BQ {fuel:Nat} {cs:List Value} {x:DataW H × List MemPlace} (h:DataW.trod enc Tryz.prog w base spare held fuel 36 cs=some x) (hz:IU Tryz.prog 36 x.1):∃ wv lv pv ws ts ps r cpu two,cs=(sS wv lv pv r cpu two).toList∧Fp w wv lv pv ws ts ps r:=by
 obtain ⟨hl,n,hf⟩:=tY Tryz.underlying36 h hz
 rw [jK (show fU Tryz.prog 36=some 22 from ay.sV rfl)] at hl
 match cs,hl with
 | [c0,c1,c2,c3,c4,c5,c6,c7,c8,c9,c10,c11,c12,c13,c14,c15,c16,c17,c18,c19,c20,c21],_=>
  have s0:Tryz.prog.cellsOf 24=1:=by kernel_rfl
  have s1:Tryz.prog.cellsOf 30=15:=by kernel_rfl
  have s2:Tryz.prog.cellsOf 31=1:=by kernel_rfl
  have s3:Tryz.prog.cellsOf 3=1:=by kernel_rfl
  have s4:Tryz.prog.cellsOf 33=3:=by kernel_rfl
  have s5:Tryz.prog.cellsOf 34=1:=by kernel_rfl
  obtain ⟨_,h0,z0⟩:=hf 0 _ rfl
  obtain ⟨_,h1,z1⟩:=hf 1 _ rfl
  obtain ⟨_,h2,z2⟩:=hf 2 _ rfl
  obtain ⟨_,h3,z3⟩:=hf 3 _ rfl
  obtain ⟨_,h4,z4⟩:=hf 4 _ rfl
  obtain ⟨_,h5,z5⟩:=hf 5 _ rfl
  simp only [List.getElem_toArray,List.getElem_cons_zero,List.getElem_cons_succ,s0,s1,s2,s3,s4,s5,List.drop_zero,List.drop_succ_cons,List.take_succ_cons,List.take_zero] at h0 z0 h1 z1 h2 z2 h3 z3 h4 z4 h5 z5
  obtain ⟨wv,ws,e0,w0,m0,k0,l0⟩:=NM h0 z0
  obtain ⟨r,e1,r1⟩:=Vj (tX 8 30 [.i .u64,.i .u64,.i .u64,.i .u64,.i .u64,.i .u64,.i .u64,.i .u64,.i .u64,.i .u64,.i .u64,.i .u64,.i .u64,.i .u64,.i .u64] av6 av6 _ _ _ h1)
  obtain ⟨lv,ts,e2,t2,b2,l2⟩:=NP h2 z2
  obtain ⟨k3,e3,_⟩:=DataW.trod_int Tryz.underlying3 h3
  obtain ⟨two,e4⟩:=Vl (tX 8 33 [.b,.i .i64,.i .i64] av6 av6 _ _ _ h4)
  obtain ⟨pv,ps,e5,m5,_,l5⟩:=JC h5 z5
  cases e0;cases e1;cases e2;cases e3;cases e4;cases e5
  exact ⟨_,_,_,ws,ts,ps,r,k3,two,rfl,w0,r1.ok,m0,k0,t2,fun t ht=>(b2 t ht).1,m5,Nat.le_trans l0 au0,Nat.le_trans l2 au0,fun t ht=>⟨Nat.le_trans (b2 t ht).2.1 au0,Nat.le_trans (b2 t ht).2.2 au0⟩,Nat.le_trans l5 au0⟩
end
end
section
attribute [local irreducible] Hy St Ops DH gq iK iD fQ DS fB kz
def Rx (ws:List Nat) (i:Nat):Nat→List Nat
 | 0=>ws
 | k + 1=>(Rx ws i k).set ((3 + i) * 8 + k) (((8 * i + k) <<< 12) ||| 1219)
def Bz (ws:List Nat):Nat→List Nat
 | 0=>ws
 | i + 1=>Rx ((Bz ws i).set (16 + i) (((3 + i) <<< 12) ||| 3)) i 8
def yU (n:Nat):List Nat:=Bz ((((List.replicate (n * 8) 0).set 0 4099).set 8 8195).set 16 12291) 8
theorem BA (ws:List Nat) (i:Nat):∀ k,(Rx ws i k).length=ws.length
 | 0=>rfl
 | k + 1=>by rw [Rx,List.length_set,BA ws i k]
theorem DC (ws:List Nat):∀ i,(Bz ws i).length=ws.length
 | 0=>rfl
 | i + 1=>by rw [Bz,BA,List.length_set,DC ws i]
theorem JD (b m:Nat) (hm:m≤65536):Own 25 1 (.slice (some ⟨b,0,none⟩) m m) [⟨b,madeCells (Value.int .u64 0).cells (m * 1),25⟩] ((List.replicate m 0).map uV):=by
 rw [show madeCells (Value.int .u64 0).cells (m * 1)=((List.replicate m [Value.int .u64 0]).flatten).toArray from CE [.int .u64 0] m 1 rfl au0]
 exact rC b m _ (by rw [List.map_replicate];rfl) rfl (x8 _) au3 au3 ax9
theorem Vm (n:Nat) (h1:11≤n) (h2:n≤64) (w:World):Fn Tryz.prog 30 [.int .i64 (n:Nat)].toArray w [] (fun u hn=>∃ v h,u=.agg #[v]∧Own 25 1 v h ((yU n).map uV)∧aC h hn):=by
 refine enter Tryz.func30 ?_
 refine run ?_
 intro B
 refine run ?_
 rw [show (n:Int) * 8=((n * 8:Nat):Int) by omega]
 refine make (m:=n * 8) (fun M=>?_) at7
 have hO0:=JD M (n * 8) at7
 obtain ⟨JE,hc0⟩:∃ c,c=madeCells (Value.int .u64 0).cells (n * 8 * 1):=⟨_,rfl⟩
 rw [← hc0] at hO0 ⊢
 refine run ?_
 intro X
 obtain ⟨s1,_,_,su⟩:=hO0.PW (k:=0) (by rw [List.length_replicate];omega)
 have su:=su 4099
 obtain ⟨s2,_,_,hO2⟩:=su.PW (k:=8) (by rw [List.length_set,List.length_replicate];omega)
 have hO2:=hO2 8195
 obtain ⟨s3,_,_,hO3⟩:=hO2.PW (k:=16) (by rw [List.length_set,List.length_set,List.length_replicate];omega)
 have hO3:=hO3 12291
 refine dI 12 7 [0,1,2,3,4,5,6,8,10] [7,9,11] [⟨X,#[.slice (some ⟨M,0,none⟩) (n * 8) (n * 8)],24⟩] ?_
 refine bY ?_
 refine pW (b:=M) (tb:=25) (cs:=JE) (cs':=JE.setIfInBounds 0 (.int .u64 (4099:Nat))) (hp':=[⟨X,#[.slice (some ⟨M,0,none⟩) (n * 8) (n * 8)],24⟩,⟨B,#[.slice none 0 0],24⟩]) ?_ (hput:=rfl) (hperm:=p1)
 refine pW (b:=M) (tb:=25) (cs:=JE.setIfInBounds 0 (.int .u64 (4099:Nat))) (cs':=(JE.setIfInBounds 0 (.int .u64 (4099:Nat))).setIfInBounds 8 (.int .u64 (8195:Nat))) (hp':=[⟨X,#[.slice (some ⟨M,0,none⟩) (n * 8) (n * 8)],24⟩,⟨B,#[.slice none 0 0],24⟩]) ?_ (hput:=rfl) (hperm:=p0)
 refine pW (b:=M) (tb:=25) (cs:=(JE.setIfInBounds 0 (.int .u64 (4099:Nat))).setIfInBounds 8 (.int .u64 (8195:Nat))) (cs':=((JE.setIfInBounds 0 (.int .u64 (4099:Nat))).setIfInBounds 8 (.int .u64 (8195:Nat))).setIfInBounds 16 (.int .u64 (12291:Nat))) (hp':=[⟨X,#[.slice (some ⟨M,0,none⟩) (n * 8) (n * 8)],24⟩,⟨B,#[.slice none 0 0],24⟩]) ?_ (hput:=rfl) (hperm:=p0)
 refine aG ?_
 refine cO ?_
 have hl0:((((List.replicate (n * 8) 0).set 0 4099).set 8 8195).set 16 12291).length=n * 8:=by rw [List.length_set,List.length_set,List.length_set,List.length_replicate]
 obtain ⟨W0,hW0⟩:∃ W0,W0=(((List.replicate (n * 8) 0).set 0 4099).set 8 8195).set 16 12291:=⟨_,rfl⟩
 unfold yU
 rw [← hW0] at hO3 hl0 ⊢
 generalize ((JE.setIfInBounds 0 (.int .u64 (4099:Nat))).setIfInBounds 8 (.int .u64 (8195:Nat))).setIfInBounds 16 (.int .u64 (12291:Nat))=ah5 at hO3 ⊢
 clear hO0 su hO2 s1 s2 s3 hc0
 refine run ?_
 refine cu (σ:=Nat × Array Value) (fun s=>[(4,.int .i64 (s.1:Int))]) (fun s=>⟨M,s.2,25⟩::[⟨X,#[.slice (some ⟨M,0,none⟩) (n * 8) (n * 8)],24⟩,⟨B,#[.slice none 0 0],24⟩]) (fun s=>s.1≤8∧Own 25 1 (.slice (some ⟨M,0,none⟩) (n * 8) (n * 8)) [⟨M,s.2,25⟩] ((Bz W0 s.1).map uV)) (fun s=>8 - s.1) (0,ah5) ⟨Nat.zero_le _,hO3⟩ ?_
 rintro ⟨i,cur⟩ m hm ⟨hi,hO⟩
 dsimp only at hm hi hO ⊢
 refine run ?_
 refine aj _ rfl (fun hc=>?_) (fun hc=>?_)
 ·have hlt:i<8:=by simp at hc;omega
  have hlW:=DC W0 i
  refine run ?_
  rw [show (3:Int) + (i:Int)=((3 + i:Nat):Int) by omega,show (16:Int) + (i:Int)=((16 + i:Nat):Int) by omega]
  refine fA au2 (ni rfl rfl (3 + i) 12 rfl rfl au0) ?_
  rw [show (3 + i) <<< 12 % 18446744073709551616=(3 + i) <<< 12 from Nat.mod_eq_of_lt au9]
  refine run ?_
  refine fA au2 (vC rfl rfl ((3 + i) <<< 12) 3 rfl rfl au9 au0) ?_
  obtain ⟨s1,_,_,su⟩:=hO.PW (k:=16 + i) (by rw [hlW,hl0];omega)
  have su:=su (((3 + i) <<< 12) ||| 3)
  refine run ?_
  obtain ⟨Wi,hWi⟩:∃ Wi,Wi=(Bz W0 i).set (16 + i) (((3 + i) <<< 12) ||| 3):=⟨_,rfl⟩
  rw [← hWi] at su
  have ah7:Wi.length=n * 8:=by rw [hWi,List.length_set,hlW,hl0]
  refine cu (σ:=Nat × Array Value) (fun s=>[(5,.int .i64 (s.1:Int))]) (fun s=>⟨M,s.2,25⟩::[⟨X,#[.slice (some ⟨M,0,none⟩) (n * 8) (n * 8)],24⟩,⟨B,#[.slice none 0 0],24⟩]) (fun s=>s.1≤8∧Own 25 1 (.slice (some ⟨M,0,none⟩) (n * 8) (n * 8)) [⟨M,s.2,25⟩] ((Rx Wi i s.1).map uV)) (fun s=>8 - s.1) (0,_) ⟨Nat.zero_le _,su⟩ ?_
  rintro ⟨k,ah8⟩ m2 hm2 ⟨hk,hO2⟩
  dsimp only at hm2 hk hO2 ⊢
  have hl2:=BA Wi i k
  refine run ?_
  refine aj _ rfl (fun hc2=>?_) (fun hc2=>?_)
  ·have hlt2:k<8:=by simp at hc2;omega
   obtain ⟨s2,_,_,hO3⟩:=hO2.PW (k:=(3 + i) * 8 + k) (by rw [hl2,ah7];omega)
   have hO3:=hO3 (((8 * i + k) <<< 12) ||| 1219)
   refine run ?_
   rw [show (8:Int) * (i:Int) + (k:Int)=((8 * i + k:Nat):Int) by omega,show ((3:Int) + (i:Int)) * 8 + (k:Int)=(((3 + i) * 8 + k:Nat):Int) by omega]
   refine fA au2 (ni rfl rfl (8 * i + k) 12 rfl rfl au0) ?_
   rw [show (8 * i + k) <<< 12 % 18446744073709551616=(8 * i + k) <<< 12 from Nat.mod_eq_of_lt au9]
   refine run ?_
   refine fA au2 (vC rfl rfl ((8 * i + k) <<< 12) 1219 rfl rfl au9 au0) ?_
   refine run ?_
   exact bI (k + 1,_) ⟨hlt2,hO3⟩
  ·have hge:k=8:=by simp at hc2;omega
   subst hge
   refine run ?_
   exact bI (i + 1,ah8) ⟨hlt,by rw [Bz,← hWi];exact hO2⟩
 ·have hge:i=8:=by simp at hc;omega
  subst hge
  refine run ?_
  exact gI (cs:=#[.slice (some ⟨M,0,none⟩) (n * 8) (n * 8)]) ⟨_,_,rfl,hO,by (exact ak)⟩
theorem Vo (ws:List Nat) (at_ size:Nat) (h:xZ ws at_ size) (p:Option Addr) (cap:Nat) (w:World):Fn Tryz.prog 53 [.agg #[.slice p ws.length cap],.int .i64 (at_:Nat),.int .i64 (size:Nat)].toArray w [] (fun u _=>u=.int .i64 0):=by
 obtain ⟨h1,h2,h3,h4,h5,h6⟩:=h
 have hg:(!decide ((size:Int)=1) && !decide ((size:Int)=2) && !decide ((size:Int)=4) && !decide ((size:Int)=8))=false:=by
  rcases h5 with rfl | rfl | rfl | rfl<;>rfl
 refine enter Tryz.func53 ?_
 refine run ?_
 intro B
 refine az ?_
 rw [hg]
 refine aW ?_
 refine aj _ rfl (fun hc=>absurd hc au') (fun _=>?_)
 refine run ?_
 refine fA au2 (iG rfl rfl at_ size rfl rfl at7) ?_
 rw [h6]
 refine aW ?_
 exact fin1 rfl
def kM (ws:List Nat) (f:Nat) (l:List bF):Nat→List Nat
 | 0=>ws
 | k + 1=>gG (kM ws f l k) (f * 64 + 4 * k) 4 (l.getD k default).wd
theorem DD (ws:List Nat) (f:Nat) (l:List bF):∀ k,(kM ws f l k).length=ws.length
 | 0=>rfl
 | k + 1=>by rw [kM,gG,List.length_set,DD ws f l k]
theorem BB {ws:List Nat} (h:uy ws) (f:Nat) (l:List bF):∀ k,uy (kM ws f l k)
 | 0=>h
 | k + 1=>Dv (BB h f l k)
theorem X6 (ws:List Nat) (hw:uy ws) (hm:dP ws.length=true) (f:Nat) (l:List bF) (h0:0<l.length) (ap':l.length≤200) (hmay:∀ x∈l,x.may=true) (hin:f * 64 + 4 * l.length≤8 * ws.length) {p:Option Addr} {cap:Nat} {iv:Value} {w:World} (hs:aB w (.slice p ws.length cap) 1 (ws.map uV)) (hl:aB w iv 5 (l.map Kr)):
  Fn Tryz.prog 29 [.agg #[.slice p ws.length cap],.int .i64 (f:Nat),iv].toArray w [] (fun u hn=>∃ v h,u=.agg #[v]∧Own 25 1 v h ((kM ws f l l.length).map uV)∧aC h hn):=by
 obtain ⟨q,c,rfl,hne,_⟩:=id hl.opened
 have BF:=bC hm
 refine enter Tryz.func29 ?_
 refine run ?_
 intro B
 refine run ?_
 intro R
 refine run ?_
 refine cu (σ:=Nat × Value × Hp) (fun s=>[(7,.int .i64 (s.1:Int))]) (fun s=>⟨R,#[.slice none 0 0],24⟩::⟨B,#[s.2.1],24⟩::s.2.2) (fun s=>s.1≤l.length∧((s.1=0∧s.2.1=.slice p ws.length cap)∨Own 25 1 s.2.1 s.2.2 ((kM ws f l s.1).map uV))) (fun s=>l.length - s.1) (0,.slice p ws.length cap,[]) ⟨Nat.zero_le _,.inl ⟨rfl,rfl⟩⟩ ?_
 rintro ⟨k,v,h⟩ m hm2 ⟨hk,hO⟩
 dsimp only at hm2 hk hO ⊢
 have hlk:=DD ws f l k
 have hwk:=BB hw f l k
 obtain ⟨q2,c2,hv⟩:∃ q2 c2,v=.slice q2 (kM ws f l k).length c2:=by
  rcases hO with ⟨rfl,rfl⟩ | hO
  ·exact ⟨_,_,rfl⟩
  ·obtain ⟨q2,c2,e⟩:=hO.opened
   rw [List.length_map] at e
   exact ⟨q2,c2,e⟩
 subst hv
 have hrd:∀ wc hp,Good w [] hp wc→(∀ e∈h,e∈hp)→aB wc (.slice q2 (kM ws f l k).length c2) 1 ((kM ws f l k).map uV):=fun wc hp hG hin=>by
  rcases hO with ⟨rfl,e⟩ | hO
  ·rw [e];exact hs.good hG
  ·exact hO.lie (fun e he=>hG.here e (hin e he)) au1
 refine az ?_
 refine aj _ rfl (fun hc=>?_) (fun hc=>?_)
 ·have hlt:k<l.length:=by simp at hc;omega
  obtain ⟨b,o,rfl⟩:=hne av7
  have hr2:=hl.row hlt
  have hx:=hmay _ (getD_mem hlt)
  have hpl:xZ (kM ws f l k) (f * 64 + 4 * k) 4:=⟨hwk,by rw [hlk];simp only [dP,Bool.and_eq_true,decide_eq_true_eq] at hm;omega,by rw [hlk];omega,by rw [hlk];omega,.inr (.inr (.inl rfl)),by omega⟩
  have hck:kM ws f l (k + 1)=gG (kM ws f l k) (f * 64 + 4 * k) 4 (l.getD k default).wd:=rfl
  generalize l.getD k default=x at hr2 hx hck
  have hF:=bF.EE hx
  have hwl:=bF.VM hF
  refine az ?_
  refine ax (fun wc hG=>Kt x wc) ?_
  rw [hx]
  refine az ?_
  have e64:((f:Int) * 64 + 4 * (k:Int))=((f * 64 + 4 * k:Nat):Int):=by omega
  rw [e64]
  refine aZ (fun _ wc hG=>Vo (kM ws f l k) (f * 64 + 4 * k) 4 hpl _ _ wc) ?_
  refine az ?_
  refine aj _ rfl (fun _=>?_) (fun hc=>absurd hc au3)
  refine run ?_
  refine iQ 13 [0,1,2,3,4,5,6,7,8,9,10,11] [12] [] [] [13] ?_
  refine eX ?_
  refine Az (fun wc hx hG=>CY x hF wc) ?_
  refine jy au2 (fun hx=>zy (p:=((x.wd:Nat):Int)) ay rfl rfl rfl at7 at7) ?_
  refine eX ?_
  rw [e64]
  refine iU (fun wc hG=>He (kM ws f l k) (f * 64 + 4 * k) 4 x.wd hpl (by unfold gm;omega) (hrd wc _ hG (fun e he=>by simp [he]))) ?_ ?_
  ·obtain ⟨a1,b1,o1⟩:=fE (e:=25) (xs:=(gG (kM ws f l k) (f * 64 + 4 * k) 4 x.wd).map uV) (x8 _) (by rw [List.length_map,gG,List.length_set,hlk];omega)
   exact ⟨_,_,a1,b1,rfl,o1,aC.refl _⟩
  refine gW ?_
  rintro u hn ⟨v',h',rfl,g1,hle3⟩
  refine eY ?_
  refine eY ?_
  simp only [DN,List.cons_append,List.nil_append,List.append_nil]
  obtain ⟨q1,c1,e1⟩:=g1.opened
  rw [List.length_map] at e1
  subst e1
  refine pW (b:=B) (tb:=24) (cs:=#[.slice q2 (kM ws f l k).length c2]) (cs':=#[.slice q1 (gG (kM ws f l k) (f * 64 + 4 * k) 4 x.wd).length c1]) (hp':=hn++(⟨R,#[.slice none 0 0],24⟩::h)) ?_ (hput:=rfl) (hperm:=by (exact au))
  refine aG ?_
  refine cO ?_
  refine aI (⟨R,#[.slice none 0 0],24⟩::⟨B,#[.slice q1 (gG (kM ws f l k) (f * 64 + 4 * k) 4 x.wd).length c1],24⟩::h') (cnt1 hle3) ?_
  refine run ?_
  rw [← hck]
  exact bI (k + 1,.slice q1 (kM ws f l (k + 1)).length c1,h') ⟨hlt,.inr (by rw [hck];exact g1)⟩ (h2:=by (exact ak))
 ·have hge:k=l.length:=by simp at hc;omega
  subst hge
  have hO':=hO.resolve_left at7
  refine run ?_
  exact gI (cs:=#[.slice q2 (kM ws f l l.length).length c2]) ⟨_,h,rfl,hO',by (exact ak)⟩
end
section
def EoD (P:Program) (n:Nat) (w0:World) (mu:List Nat) (all:Array Oper) (ds:List (Nat × Nat)) (l:Fm) (hp:Hp) (bu:Fm) (kd:Nat→Kd) (val:Ch→Nat→Value) (k i:Nat) (o:Oper) (R:RT):Prop:=
 wF P n w0 mu all (aA ds bu o.after.toList++l) hp o R∨∃ m Rm,m<k∧kd m=.e Rm∧(∀ c,val c m=(c m).1)∧Region.waitsFor .any all i m=true∧∀ v hn,Rm v hn→wF P n w0 mu all (aA ds ((m,v)::bu) o.after.toList++l) (hn++hp) o R
def yh (P:Program) (n:Nat) (w0:World) (mu:List Nat) (all:Array Oper) (ds:List (Nat × Nat)) (l:Fm) (hp:Hp) (iv:Fm) (X:List (Nat × RT)→Prop):List Nat→List (Nat × RT)→Prop
 | [],Rs=>X Rs
 | i::E,Rs=>∃ o R,all[i]?=some o∧(wF P n w0 mu all (aA ds iv o.after.toList++l) hp o R∨∃ m Rm,lk Rs m=some Rm∧Region.waitsFor .any all i m=true∧∀ v hn,Rm v hn→wF P n w0 mu all (aA ds ((m,v)::iv) o.after.toList++l) (hn++hp) o R)∧(∃ v hn,R v hn)∧yh P n w0 mu all ds l hp iv X E ((i,R)::Rs)
theorem Ry {kd:Nat→Kd} {c:Ch} {listed:Array Bool} {m:Nat} (he:qI (kd m)=true) (hl:listed.getD m false=true):∀ k,m<k→∃ hx,(iV kd c listed k).Perm (hx++(c m).2):=by
 intro k
 induction k with
 | zero=>intro h;omega
 | succ k ih=>
  intro h
  simp only [iV]
  by_cases hmk:m=k
  ·subst hmk
   refine ⟨iV kd c listed m,?_⟩
   rw [show kE kd c listed m=(c m).2 by unfold kE;rw [he,hl];rfl]
   exact List.perm_append_comm
  ·obtain ⟨hx,hp⟩:=ih at7
   exact ⟨kE kd c listed k++hx,by rw [List.append_assoc];exact hp.append_left _⟩
section
variable {P : Program} {n : Nat} {w0 : World} {mu : List Nat} {l : Fm} {hp : Hp} {all : Array Oper} {ds : List (Nat × Nat)}
theorem Rz {iv:Fm} {X:List (Nat × RT)→Prop}:∀ (E:List Nat) (Rs:List (Nat × RT)),E.Nodup→(∀ i∈E,lk Rs i=none)→yh P n w0 mu all ds l hp iv X E Rs →
  (∀ i R,(i,R)∈Rs→lk Rs i=some R∧∃ o,all[i]?=some o∧(wF P n w0 mu all (aA ds iv o.after.toList++l) hp o R∨∃ m Rm,lk Rs m=some Rm∧Region.waitsFor .any all i m=true∧∀ v hn,Rm v hn→wF P n w0 mu all (aA ds ((m,v)::iv) o.after.toList++l) (hn++hp) o R)∧∃ v hn,R v hn) →
  ∃ RE,X RE∧(∀ i,(∃ R,lk RE i=some R)↔i∈E∨∃ R,lk Rs i=some R)∧∀ i R,(i,R)∈RE→lk RE i=some R∧∃ o,all[i]?=some o∧(wF P n w0 mu all (aA ds iv o.after.toList++l) hp o R∨∃ m Rm,lk RE m=some Rm∧Region.waitsFor .any all i m=true∧∀ v hn,Rm v hn→wF P n w0 mu all (aA ds ((m,v)::iv) o.after.toList++l) (hn++hp) o R)∧∃ v hn,R v hn:=by
 intro E
 induction E with
 | nil=>intro Rs _ _ h hs;exact ⟨Rs,h,fun i=>by simp,hs⟩
 | cons i E ih=>
  rintro Rs hnd hno ⟨o,R,ho,hy,yB,h⟩ hs
  rw [List.nodup_cons] at hnd
  have hi:=hno i (List.mem_cons_self ..)
  have hmo:∀ m Rm,lk Rs m=some Rm→lk ((i,R)::Rs) m=some Rm:=fun m Rm hm=>by
   rw [bK,if_neg (by rintro rfl;rw [hi] at hm;cases hm)];exact hm
  obtain ⟨RE,hX,hk,hs2⟩:=ih ((i,R)::Rs) hnd.2 (fun j hj=>by rw [bK,if_neg ax2];exact hno j (List.mem_cons_of_mem _ hj)) h (fun j R' hj=>by
   rcases List.mem_cons.1 hj with hj | hj
   ·cases hj
    refine ⟨by rw [bK,if_pos rfl],o,ho,?_,yB⟩
    rcases hy with hy | ⟨m,Rm,h1,h2⟩
    ·exact .inl hy
    ·exact .inr ⟨m,Rm,hmo m Rm h1,h2⟩
   ·obtain ⟨h1,o',h2,hy',h3⟩:=hs j R' hj
    refine ⟨hmo j R' h1,o',h2,?_,h3⟩
    rcases hy' with hy | ⟨m,Rm,h1,h2⟩
    ·exact .inl hy
    ·exact .inr ⟨m,Rm,hmo m Rm h1,h2⟩)
  refine ⟨RE,hX,fun j=>?_,hs2⟩
  rw [hk,List.mem_cons,bK]
  by_cases hij:i=j
  ·subst hij;simp
  ·rw [if_neg hij]
   constructor
   ·rintro (h | h)
    ·exact .inl (.inr h)
    ·exact .inr h
   ·rintro ((h | h) | h)
    ·exact absurd h.symm hij
    ·exact .inl h
    ·exact .inr h
theorem NQ {iv:Fm} {X Y:List (Nat × RT)→Prop}:∀ (E:List Nat) (Rs:List (Nat × RT)) (Ib:∀ zF,zF.map (·.1)=E.reverse++Rs.map (·.1)→X zF→Y zF),yh P n w0 mu all ds l hp iv X E Rs→yh P n w0 mu all ds l hp iv Y E Rs:=by
 intro E
 induction E with
 | nil=>intro Rs Ib h;exact Ib Rs au3 h
 | cons i E ih=>
  rintro Rs Ib ⟨o,R,h1,h2,h3,h4⟩
  exact ⟨o,R,h1,h2,h3,ih _ (fun zF e=>Ib zF (by rw [e];simp)) h4⟩
end
section
variable {P : Program} {n : Nat} {w0 : World} {mu : List Nat} {l : Fm} {hp : Hp} {Q : Exit → Fm → Hp → Prop} {all : Array Oper} {kd : Nat → Kd} {val : Ch → Nat → Value} {k : Nat}
theorem JF {ds:List (Nat × Nat)} (hds:∀ k d,lk ds k=some d→aP all k=some d) {g:Nat} {Q':Exit→Act→World→Prop} (hk:k≤all.size) (hd:uT all k n=true) (hf:bg l (dstsOf all k)=true) (hback:lF all=true)
  (hS:∀ i o v,i<k→all[i]?=some o→kd i=.s v→(∀ c,val c i=v)∧∃ bu,(∀ j u,look bu j=some u→j<k∧∀ c,val c j=u)∧∀ hx,o7 P n w0 mu all (aA ds bu o.after.toList++l) (hx++hp) o v)
  (hE:∀ i o R,i<k→all[i]?=some o→kd i=.e R→(∀ c,val c i=(c i).1)∧∃ bu,(∀ j u,look bu j=some u→j<k∧∀ c,val c j=u)∧EoD P n w0 mu all ds l hp bu kd val k i o R)
  (hD:∀ c,Valid kd k c→∀ i o,i<k→all[i]?=some o→kd i=.d→∃ bu,(∀ j u,look bu j=some u→j<k∧val c j=u)∧yY P n w0 mu (aA ds bu o.after.toList++l) hp o (val c i))
  (htail:∀ f c listed,leftOf k listed=f→HeadInv .any all k listed→(∀ i,i<k→qI (kd i)=true→listed.getD i true=true)→∀ a w,sF n w0 mu all l hp kd val k c listed a w→wpAny P .any all Q' (f + g) listed a w)
  (jT:∀ listed,HeadInv .any all k listed→∀ i,i<k→qI (kd i)=true→listed.getD i true=false→∀ t,k≤t→t ∉ Region.ready .any all listed):
  ∀ f c listed a w,leftOf k listed=f→HeadInv .any all k listed→sF n w0 mu all l hp kd val k c listed a w→wpAny P .any all Q' (f + g) listed a w:=by
 intro f
 induction f with
 | zero=>
  intro c listed a w hlf inv hm
  refine htail 0 c listed hlf inv (fun i hi _=>?_) a w hm
  cases hc:listed.getD i true with
  | true=>rfl
  | false=>
   exfalso
   have:i∈(List.range k).filter fun i=>!listed.getD i true:=List.mem_filter.2 ⟨List.mem_range.2 hi,by simp only [hc,Bool.not_false]⟩
   have h2:=List.length_pos_of_mem this
   unfold leftOf at hlf
   omega
 | succ f ih=>
  intro c listed a w hlf inv hm
  by_cases lJ:∀ i,i<k→qI (kd i)=true→listed.getD i true=true
  ·exact htail (f + 1) c listed hlf inv lJ a w hm
  obtain ⟨i0,jC,WR,hi0⟩:∃ i,i<k∧qI (kd i)=true∧listed.getD i true=false:=by
   refine Classical.byContradiction fun hno=>lJ fun i hi he=>?_
   cases hc:listed.getD i true with
   | true=>rfl
   | false=>exact absurd ⟨i,hi,he,hc⟩ hno
  rw [show f + 1 + g=(f + g) + 1 by omega]
  refine ⟨fun hnil=>?_,fun i hi=>?_⟩
  ·exfalso
   obtain ⟨i,⟨hik,hil⟩,hmin⟩:=exists_least (p:=fun i=>i<k∧listed.getD i true=false) ⟨i0,jC,hi0⟩
   have hr:i∈Region.ready .any all listed:=by
    rw [mem_ready]
    have hs:i<all.size:=by omega
    refine ⟨hil,all[i],by simp [hs],fun e he hb=>?_⟩
    have hb2:=List.all_eq_true.1 hback i (List.mem_range.2 hs)
    simp only [Array.getElem?_eq_getElem hs] at hb2
    have hb3:=(Array.all_eq_true_iff_forall_mem.1 hb2) e he
    simp only [hb,Bool.not_true,Bool.false_or,Nat.blt_eq] at hb3
    cases hc:listed.getD e.on false with
    | true=>rfl
    | false=>
     have h5:=hmin e.on ⟨by omega,getD_in au6 hc⟩
     omega
   rw [hnil] at hr;cases hr
  ·have hik:i<k:=by
    rcases Nat.lt_or_ge i k with h | h
    ·exact h
    ·exact absurd hi (jT listed inv i0 jC WR hi0 i h)
   obtain ⟨hun,o,ho,hall⟩:=mem_ready.1 hi
   have hsz:i<listed.size:=by rw [inv.size];omega
   have hself:∀ j,j<k→listed.getD j false=true→qI (kd j)=true→c j=c j:=fun _ _ _ _=>rfl
   have hgo:∀ c2 a' w',sF n w0 mu all l hp kd val k c2 (listed.setIfInBounds i true) a' w'→wpAny P .any all Q' (f + g) (listed.setIfInBounds i true) a' w':=fun c2 a' w' h=>
    ih c2 _ _ _ aw0 (inv.set hi hik) h
   have tK:Good w0 mu hp w:=hm.good.sub (List.sublist_append_right _ _)
   unfold wpOp
   simp only [ho]
   cases hkd:kd i with
   | s v=>
    obtain ⟨o6,bu,hiv,hy⟩:=hS i o v hik ho hkd
    have hkn:=dw (i:=i) hds hm hm.valid hself (fun j u hu=>⟨(hiv j u hu).1,(hiv j u hu).2 c⟩) hall
    have hE0:qI (kd i)=false:=by rw [hkd];rfl
    have hnext:∀ w',Good w0 mu (iV kd c listed k++hp) w'→wpAny P .any all Q' (f + g) (listed.setIfInBounds i true) (a.put o.dst v) w':=fun w' hG'=>
     hgo c _ _ (iH hm ho hik hun hsz hd hf hm.valid (fun _ _=>rfl) az5 (fun c' _ _=>o6 c'))
    have h3:=hy (iV kd c listed k)
    unfold o7 at h3
    cases hg:o.guard with
    | none=>
     rw [hg] at h3
     rw [if_pos av2]
     exact .inl (h3 a w hkn hm.good _ _ hnext)
    | some jw=>
     obtain ⟨j,want⟩:=jw
     rw [hg] at h3
     obtain ⟨dj,c0,b,u,hj,hb,hdj,hy,hvv⟩:=h3
     have hw:=gV hkn hg hj hb hdj
     cases hc:(c0 && jd b want) with
     | true=>
      rw [hc] at hw hvv
      rw [if_pos hw]
      rw [Bool.and_eq_true] at hc
      rw [show v=u from hvv] at hnext
      exact .inl (hy hc.1 hc.2 a w hkn hm.good _ _ hnext)
     | false=>
      rw [hc] at hw hvv
      rw [if_neg aw6]
      rw [show v=undef from hvv] at hnext
      exact hnext w hm.good
   | e R=>
    obtain ⟨o6,bu,hiv,hed⟩:=hE i o R hik ho hkd
    have hwl:∀ t,Region.waitsFor .any all i t=true→listed.getD t false=true:=fun t ht=>by
     obtain ⟨oj,h6,e,he,hb,heq⟩:=Region.waitsFor_spec ht
     rw [ho] at h6;cases h6
     rw [← heq]
     exact hall e he hb
    obtain ⟨hg,hy⟩:Region.wanted o (yielded all a.tmps)=true∧∀ (K:Act→World→Prop) (Q:Exit→Act→World→Prop),(∀ v hn w',R v hn→Good w0 mu (hn++(iV kd c listed k++hp)) w'→K (a.put o.dst v) w')→o.wp P a w K Q:=by
     rcases hed with ⟨hg,hy⟩ | ⟨m,Rm,hmk,hkm,hvm,hwm,hy⟩
     ·have hkn:=dw (i:=i) hds hm hm.valid hself (fun j u hu=>⟨(hiv j u hu).1,(hiv j u hu).2 c⟩) hall
      exact ⟨hg _ hkn,fun K Q h=>hy a w _ hkn hm.good K Q h⟩
     ·have hRm:=hm.valid m hmk Rm hkm
      obtain ⟨hg,hy⟩:=hy _ _ hRm
      have hkn:=dw (bu:=(m,(c m).1)::bu) (i:=i) hds hm hm.valid hself (fun j u hu=>by
       rw [dX,bK] at hu
       by_cases hmj:m=j
       ·subst hmj
        rw [if_pos rfl] at hu
        cases hu
        exact ⟨hmk,hvm c⟩
       ·rw [if_neg hmj,← dX] at hu
        exact ⟨(hiv j u hu).1,(hiv j u hu).2 c⟩) hall
      obtain ⟨hx,hpx⟩:=Ry (kd:=kd) (c:=c) (listed:=listed) (m:=m) (by rw [hkm];rfl) (hwl m hwm) k hmk
      refine ⟨hg _ hkn,fun K Q h=>hy a w hx hkn (hm.good.perm (by rw [← List.append_assoc];exact (hpx.append_right _).symm)) K Q fun v hn w' hR hG'=>h v hn w' hR (hG'.perm (List.Perm.append_left _ (by rw [← List.append_assoc];exact hpx.append_right _)))⟩
    rw [if_pos hg]
    refine .inl (hy _ _ fun v hn w' hR hG'=>?_)
    refine hgo (fun t=>if t=i then (v,hn) else c t) _ _ (iH hm ho hik hun hsz hd hf ?_ (fun j hj=>by simp [hj]) ?_ ?_)
    ·intro j hj R' hR'
     by_cases hji:j=i
     ·subst hji
      rw [hkd] at hR'
      cases hR'
      simpa using hR
     ·simp only [hji,if_false]
      exact hm.valid j hj R' hR'
    ·refine hG'.perm ?_
     rw [← List.append_assoc]
     exact (wY ay5 hun hsz k hik).symm.append_right _
    ·intro c' hc' hag
     rw [o6 c',hag i hik (by simp [hsz]) ay5]
     simp
   | d=>
    obtain ⟨bu,hiv,hg,hy⟩:=hD c hm.valid i o hik ho hkd
    have hE0:qI (kd i)=false:=by rw [hkd];rfl
    have hkn:=dw (i:=i) hds hm hm.valid hself hiv hall
    have hrun:=hy a w hkn tK
    rw [if_pos av2]
    refine .inl ?_
    unfold Oper.wp
    rw [hrun]
    refine hgo c _ _ (iH hm ho hik hun hsz hd hf hm.valid (fun _ _=>rfl) ay9 (fun c' hc' hag=>?_))
    obtain ⟨jg,qN,hg2,hy2⟩:=hD c' hc' i o hik ho hkd
    have hag':∀ j,j<k→listed.getD j false=true→qI (kd j)=true→c' j=c j:=fun j hj hl he=>hag j hj (getD_set_true hl) he
    have hrun2:=hy2 a w (dw (i:=i) hds hm hc' hag' qN hall) tK
    rw [hrun] at hrun2
    simp only [Result.ok.injEq,Next.value.injEq,and_true] at hrun2
    exact hrun2.symm
end
section
variable {P : Program} {n : Nat} {w0 : World} {mu : List Nat} {l : Fm} {hp : Hp} {Q : Exit → Fm → Hp → Prop} {ds : List (Nat × Nat)}
theorem JG {ops:List Oper} (k:Nat) (S E D D2 C:List Nat) (hB:mG ops.toArray n k S E D D2 C=true) (hf:bg l (dstsOf ops.toArray ops.toArray.size)=true) (hf1:bg l (dstsOf ops.toArray k)=true) (hsp:splitB k S E D=true) (hds:bM ops 0=ds)
  (h:iK P n w0 mu ops.toArray ds l hp (fun aF=>yh P n w0 mu ops.toArray ds l hp aF (fun Rs=>∀ c,zg c Rs→fQ P n w0 mu ops.toArray ds l [] (fun Gi=>fQ P n w0 mu ops.toArray ds l [] (fun jg=>fB P n w0 mu ops.toArray ds l [] jg (fun aK hc=>Ops P n w0 mu ops.toArray [] (aX ds (aK++jg)++l) hc Q) C [] (sO E c k++hp)) D2 Gi) D (rY c Rs++aF)) E []) S []):kZ P n w0 mu ops.toArray l hp Q:=by
 intro a w hk hG
 simp only [splitB,Bool.and_eq_true,decide_eq_true_eq] at hsp
 obtain ⟨⟨⟨_,hnd⟩,hlt⟩,hcov⟩:=hsp
 have hlt':∀ i∈S++E++D,i<k:=fun i hi=>by have:=List.all_eq_true.1 hlt i hi;simpa using this
 have lg:∀ i,i<k→i∈S∨i∈E∨i∈D:=fun i hi=>by
  have:=bT (List.all_eq_true.1 hcov i (List.mem_range.2 hi))
  simpa [or_assoc] using this
 rw [List.append_assoc,List.nodup_append] at hnd
 obtain ⟨vV,tN,OL⟩:=hnd
 rw [List.nodup_append] at tN
 obtain ⟨yC,D7,Wn⟩:=tN
 obtain ⟨aF,h2,FX,nJ,hsS⟩:=zC S [] vV (fun _ _=>rfl) (fun _ _ h=>by cases h) h (fun i v hv=>by cases hv)
 obtain ⟨Rs,h3,nK,hsE⟩:=Rz E [] yC (fun _ _=>rfl) h2 (fun i R hR=>by cases hR)
 simp only [lk,reduceCtorEq,exists_false,or_false] at nJ nK
 have yj:∀ i R,lk Rs i=some R→lk aF i=none:=fun i R hR=>by
  cases hv:lk aF i with
  | none=>rfl
  | some v=>exact absurd rfl (OL i ((nJ i).1 ⟨v,hv⟩) i (List.mem_append_left _ ((nK i).1 ⟨R,hR⟩)))
 let kd:Nat→Kd:=fun i=>match lk Rs i with | some R=>.e R | none=>match lk aF i with | some v=>.s v | none=>.d
 have jv:∀ i R,kd i=.e R↔lk Rs i=some R:=fun i R=>by
  show (match lk Rs i with | some R=>Kd.e R | none=>match lk aF i with | some v=>.s v | none=>.d)=_↔_
  cases lk Rs i with
  | some R'=>simp
  | none=>cases lk aF i<;>simp
 have zh:∀ i v,kd i=.s v→lk Rs i=none∧lk aF i=some v:=fun i v=>by
  show (match lk Rs i with | some R=>Kd.e R | none=>match lk aF i with | some v=>.s v | none=>.d)=_→_
  cases lk Rs i with
  | some R'=>simp
  | none=>cases lk aF i<;>simp
 have II:∀ i,kd i=.d→lk Rs i=none∧lk aF i=none:=fun i=>by
  show (match lk Rs i with | some R=>Kd.e R | none=>match lk aF i with | some v=>.s v | none=>.d)=_→_
  cases lk Rs i with
  | some R'=>simp
  | none=>cases lk aF i<;>simp
 have Ac:∀ i R,lk Rs i=some R→(i,R)∈Rs:=fun i R h=>iO h
 have hvalid:∀ c,Valid kd k c→zg c Rs:=fun c hc=>wZ Rs fun p hp=>by
  obtain ⟨i,R⟩:=p
  have h1:=(hsE i R hp).1
  exact hc i (hlt' i (List.mem_append_left _ (List.mem_append_right _ ((nK i).1 ⟨R,h1⟩)))) R ((jv i R).2 h1)
 have hex:∀ c,Valid kd k c→∃ sQ,fQ P n w0 mu ops.toArray ds l [] (fun jg=>fB P n w0 mu ops.toArray ds l [] jg (fun aK hc=>Ops P n w0 mu ops.toArray [] (aX ds (aK++jg)++l) hc Q) C [] (sO E c k++hp)) D2 sQ∧Uq sQ∧lD (rY c Rs++aF) sQ∧(∀ i,(∃ v,lk sQ i=some v)↔i∈D∨∃ v,lk (rY c Rs++aF) i=some v)∧∀ i v,lk sQ i=some v→lk (rY c Rs++aF) i=some v∨∃ o bu,ops.toArray[i]?=some o∧lD bu sQ∧yY P n w0 mu (aA ds bu o.after.toList++l) [] o v:=fun c hc=>
  qO D (rY c Rs++aF) D7 (fun i hi=>by
   rw [cZ]
   have e1:lk Rs i=none:=by
    cases hR:lk Rs i with
    | none=>rfl
    | some R=>exact absurd rfl (Wn i ((nK i).1 ⟨R,hR⟩) i hi)
   rw [e1]
   cases hv:lk aF i with
   | none=>rfl
   | some v=>exact absurd rfl (OL i ((nJ i).1 ⟨v,hv⟩) i (List.mem_append_right _ hi))) (fun i v hv=>by
   rw [cZ]
   rcases List.mem_append.1 hv with hv | hv
   ·obtain ⟨rfl,R,hR⟩:=uI Rs hv
    rw [(hsE i R hR).1]
   ·have h1:=FX i v hv
    cases hR:lk Rs i with
    | none=>exact h1
    | some R=>rw [yj i R hR] at h1;cases h1) (fun _ _ h=>h) (h3 c (hvalid c hc)) (fun i v hv=>.inl hv)
 have hch:∃ F:Ch→Fm,∀ c,Valid kd k c→fQ P n w0 mu ops.toArray ds l [] (fun jg=>fB P n w0 mu ops.toArray ds l [] jg (fun aK hc=>Ops P n w0 mu ops.toArray [] (aX ds (aK++jg)++l) hc Q) C [] (sO E c k++hp)) D2 (F c)∧Uq (F c)∧lD (rY c Rs++aF) (F c)∧(∀ i,(∃ v,lk (F c) i=some v)↔i∈D∨∃ v,lk (rY c Rs++aF) i=some v)∧∀ i v,lk (F c) i=some v→lk (rY c Rs++aF) i=some v∨∃ o bu,ops.toArray[i]?=some o∧lD bu (F c)∧yY P n w0 mu (aA ds bu o.after.toList++l) [] o v:=by
  classical
  refine ⟨fun c=>if hc:Valid kd k c then Classical.choose (hex c hc) else [],fun c hc=>?_⟩
  simp only [hc,dif_pos]
  exact Classical.choose_spec (hex c hc)
 obtain ⟨F,hF⟩:=hch
 let val:Ch→Nat→Value:=fun c i=>match kd i with | .s v=>v | .e _=>(c i).1 | .d=>(lk (F c) i).getD undef
 have oI:∀ c,Valid kd k c→∀ i v,lk (F c) i=some v→val c i=v:=fun c hc i v hv=>by
  obtain ⟨_,_,hmo,_,_⟩:=hF c hc
  show (match kd i with | .s v=>v | .e _=>(c i).1 | .d=>(lk (F c) i).getD undef)=v
  cases hkd:kd i with
  | s u=>
   obtain ⟨e1,e2⟩:=zh i u hkd
   have:=hmo i u az6
   rw [hv] at this;cases this;rfl
  | e R=>
   have e1:=(jv i R).1 hkd
   have:=hmo i (c i).1 (by rw [cZ,e1])
   rw [hv] at this;cases this;rfl
  | d=>rw [hv];rfl
 have qx:∀ c,Valid kd k c→∀ i,i<k→∃ v,lk (F c) i=some v:=fun c hc i hi=>by
  obtain ⟨_,_,_,hkk,_⟩:=hF c hc
  rw [hkk i]
  rcases lg i hi with h | h | h
  ·obtain ⟨v,hv⟩:=(nJ i).2 h
   right
   rw [cZ]
   cases lk Rs i with
   | some R=>exact ⟨_,rfl⟩
   | none=>exact ⟨v,hv⟩
  ·obtain ⟨R,hR⟩:=(nK i).2 h
   right
   rw [cZ,hR]
   exact ⟨_,rfl⟩
  ·exact .inl h
 have jH:∀ i v,lk aF i=some v→i<k∧∀ c,val c i=v:=fun i v hv=>by
  refine ⟨hlt' i (List.mem_append_left _ (List.mem_append_left _ ((nJ i).1 ⟨v,hv⟩))),fun c=>?_⟩
  show (match kd i with | .s v=>v | .e _=>(c i).1 | .d=>(lk (F c) i).getD undef)=v
  have:kd i=.s v:=by
   show (match lk Rs i with | some R=>Kd.e R | none=>match lk aF i with | some v=>.s v | none=>.d)=_
   cases hR:lk Rs i with
   | some R=>rw [yj i R hR] at hv;cases hv
   | none=>rw [hv]
  rw [this]
 cases C with
 | nil=>simp [mG] at hB
 | cons t0 C'=>
 simp only [mG,Bool.and_eq_true,decide_eq_true_eq] at hB
 obtain ⟨⟨⟨⟨⟨⟨⟨⟨⟨⟨hks,hd⟩,YR⟩,hback⟩,pq⟩,dO⟩,hSt⟩,hEt⟩,hge⟩,pV⟩,hwt⟩:=hB
 simp only [nC,Bool.and_eq_true,decide_eq_true_eq] at pq
 obtain ⟨⟨Pz,PD⟩,Gj⟩:=pq
 have Ap:∀ j,j∈D2++t0::C'→k≤j:=fun j hj=>by have:=List.all_eq_true.1 hge j hj;simpa using this
 have jP:∀ i d,lk ds i=some d→aP ops.toArray i=some d:=fun i d h=>by rw [← hds] at h;have:=(iZ ops 0 i d h).2;simpa [aP] using this
 have yB:∃ c0:Ch,Valid kd k c0:=by
  have h1:∀ i,∃ x:Value × Hp,∀ R,kd i=.e R→R x.1 x.2:=fun i=>by
   cases hR:lk Rs i with
   | none=>exact ⟨(undef,[]),fun R h=>by rw [(jv i R).1 h] at hR;cases hR⟩
   | some R=>
    obtain ⟨_,o,_,_,v,hn,hv⟩:=hsE i R (Ac i R hR)
    exact ⟨(v,hn),fun R' h=>by rw [(jv i R').1 h] at hR;cases hR;exact hv⟩
  exact ⟨fun i=>Classical.choose (h1 i),fun i hi R hR=>Classical.choose_spec (h1 i) R hR⟩
 obtain ⟨c0,hc0⟩:=yB
 have inv0:HeadInv .any ops.toArray k (Array.replicate ops.toArray.size false):=
  ⟨by simp,fun j oj _ hl=>au5,fun t _ ht=>getD_in ax3 (getD_replicate_false _ _)⟩
 have hleft:leftOf k (Array.replicate ops.toArray.size false)=k:=by
  unfold leftOf
  rw [List.filter_eq_self.2]
  ·simp
  ·intro i hi
   have hi':i<k:=by simpa using hi
   have:(Array.replicate ops.toArray.size false).getD i true=false:=getD_in ax4 (getD_replicate_false _ _)
   simp only [this,Bool.not_false]
 have IJ:∀ m,iV kd c0 (Array.replicate ops.toArray.size false) m=[]:=by
  intro m
  induction m with
  | zero=>rfl
  | succ m ih=>simp only [iV,ih,kE,getD_replicate_false,Bool.and_false,cond_false,List.append_nil]
 have sG:∀ i,i<k→qI (kd i)=mem E i:=fun i hi=>by
  cases hkd:kd i with
  | e R=>rw [mem_of ((nK i).1 ⟨R,(jv i R).1 hkd⟩)];rfl
  | s v=>
   cases hmm:mem E i with
   | false=>rfl
   | true=>obtain ⟨R,hR⟩:=(nK i).2 (bT hmm);rw [(jv i R).2 hR] at hkd;cases hkd
  | d=>
   cases hmm:mem E i with
   | false=>rfl
   | true=>obtain ⟨R,hR⟩:=(nK i).2 (bT hmm);rw [(jv i R).2 hR] at hkd;cases hkd
 have key:=JF jP (P:=P) (n:=n) (w0:=w0) (mu:=mu) (l:=l) (hp:=hp) (all:=ops.toArray) (kd:=kd) (val:=val) (k:=k) (g:=ops.toArray.size - k) (Q':=QQ n w0 mu Q) hks hd hf1 hback
  (fun i o v hi ho hkd=>by
   obtain ⟨e1,e2⟩:=zh i v hkd
   obtain ⟨o',bu,h1,h2,h3⟩:=hsS i v e2
   rw [ho] at h1;cases h1
   exact ⟨(jH i v e2).2,bu,fun j u hu=>jH j u (h2 j u av4),h3⟩)
  (fun i o R hi ho hkd=>by
   have e1:=(jv i R).1 hkd
   obtain ⟨_,o',h1,h2,_⟩:=hsE i R (Ac i R e1)
   rw [ho] at h1;cases h1
   have hve:∀ i R,kd i=.e R→∀ c,val c i=(c i).1:=fun i R hkd c=>by
    show (match kd i with | .s v=>v | .e _=>(c i).1 | .d=>(lk (F c) i).getD undef)=_
    rw [hkd]
   refine ⟨hve i R hkd,aF,fun j u hu=>jH j u av4,?_⟩
   rcases h2 with h2 | ⟨m,Rm,hlm,hwm,h2⟩
   ·exact .inl h2
   ·exact .inr ⟨m,Rm,hlt' m (List.mem_append_left _ (List.mem_append_right _ ((nK m).1 ⟨Rm,hlm⟩))),(jv m Rm).2 hlm,hve m Rm ((jv m Rm).2 hlm),hwm,h2⟩)
  (fun c hcv i o hi ho hkd=>by
   obtain ⟨e1,e2⟩:=II i hkd
   obtain ⟨v,hv⟩:=qx c hcv i hi
   obtain ⟨_,_,_,_,hsp⟩:=hF c hcv
   rw [oI c hcv i v hv]
   rcases hsp i v hv with h0 | ⟨o',bu,h1,h2,h3⟩
   ·rw [cZ,e1] at h0;rw [e2] at h0;cases h0
   ·rw [ho] at h1;cases h1
    refine ⟨bu,fun j u hu=>?_,Gh h3⟩
    have hj:=h2 j u av4
    refine ⟨?_,oI c hcv j u hj⟩
    obtain ⟨_,_,_,hkk,_⟩:=hF c hcv
    rcases (hkk j).1 ⟨u,hj⟩ with h | ⟨v',h⟩
    ·exact hlt' j (List.mem_append_right _ h)
    ·rw [cZ] at h
     cases hR:lk Rs j with
     | some R=>exact hlt' j (List.mem_append_left _ (List.mem_append_right _ ((nK j).1 ⟨R,hR⟩)))
     | none=>rw [hR] at h;exact (jH j v' h).1)
  (fun f c listed hlf inv lJ a w hmid=>?_)
  (fun listed inv i hi hie hun t ht=>?_)
  k c0 _ a { w with drawn:=w.drawn + 1 } hleft inv0 ⟨hk.size,hk.defers,hk.has,hc0,by rw [IJ];exact hG.drawn _,fun i _ hl=>au5⟩
 ·have e:k + (ops.toArray.size - k)=ops.toArray.size:=by omega
  rw [e] at key
  exact key
 ·obtain ⟨hX,Wp,hmo,hkk,hsp1⟩:=hF c hmid.valid
  have PE:∀ i v,lk (F c) i=some v→i<k:=fun i v hv=>by
   rcases (hkk i).1 ⟨v,hv⟩ with h | ⟨v',h⟩
   ·exact hlt' i (List.mem_append_right _ h)
   ·rw [cZ] at h
    cases hR:lk Rs i with
    | some R=>exact hlt' i (List.mem_append_left _ (List.mem_append_right _ ((nK i).1 ⟨R,hR⟩)))
    | none=>rw [hR] at h;exact (jH i v' h).1
  have yZ:=Pz
  rw [List.nodup_append,List.nodup_append] at yZ
  obtain ⟨⟨_,Gl,YS⟩,yM,YT⟩:=yZ
  obtain ⟨jg,hY,hu2,xA,Aq,hsp2⟩:=qO (base:=F c) D2 (F c) Gl (fun i hi=>by
   cases hv:lk (F c) i with
   | none=>rfl
   | some v=>
    have h1:=PE i v hv
    have h2:=Ap i (List.mem_append_left _ hi)
    omega) Wp (fun _ _ h=>h) hX (fun i v hv=>.inl hv)
  have uj:∀ j,k≤j→j<ops.toArray.size→listed.getD j true=false:=fun j h1 h2=>inv.tail j h1 h2
  have uk:∀ i∈(S++E++D++D2)++t0::C',i<ops.toArray.size:=fun i hi=>by have:=List.all_eq_true.1 PD i hi;simpa using this
  have qN:∀ i v,lk jg i=some v→i<ops.toArray.size:=fun i v hv=>by
   rcases (Aq i).1 ⟨v,hv⟩ with h | ⟨v',h⟩
   ·exact uk i (List.mem_append_left _ (List.mem_append_right _ h))
   ·have:=PE i v' h;omega
  have invK:HeadInv .any ops.toArray ops.toArray.size listed:=⟨inv.size,inv.closed,fun t h1 h2=>by omega⟩
  have PG:leftOf ops.toArray.size listed=f + (ops.toArray.size - k):=by rw [uh hks uj,hlf]
  have hbe:∀ m,m≤k→iV kd c listed m=sO E c m:=by
   intro m
   induction m with
   | zero=>intro _;rfl
   | succ m ih=>
    intro hm
    simp only [iV,sO,kE]
    rw [ih at7,sG m at7]
    cases hme:mem E m with
    | false=>rfl
    | true=>
     have h1:=lJ m at7 az4
     have h2:listed.getD m false=true:=by
      cases hcc:listed.getD m false with
      | true=>rfl
      | false=>rw [getD_in au6 hcc] at h1;cases h1
     rw [h2];rfl
  have hgood:Good w0 mu (sO E c k++hp) w:=by rw [← hbe k (Nat.le_refl _)];exact hmid.good
  have Gm:nD n w0 mu ops.toArray l jg [] (sO E c k++hp) listed a w:=by
   refine ⟨hmid.size,hmid.defers,hmid.has,hgood,fun i v hv hl d hdd=>?_,fun i v hv=>by cases hv⟩
   have hik:i<k:=by
    rcases Nat.lt_or_ge i k with h | h
    ·exact h
    ·have h1:=uj i h (qN i v hv)
     rw [getD_both h1] at hl;cases hl
   obtain ⟨v',hv'⟩:=qx c hmid.valid i hik
   have h1:=xA i v' hv'
   rw [hv] at h1;cases h1
   rw [hmid.done i hik hl c hmid.valid (fun _ _ _ _=>rfl) d hdd]
   exact oI c hmid.valid i v hv'
  have PI:=vZ jP (P:=P) (n:=n) (w0:=w0) (mu:=mu) (l:=l) (hp:=hp) (h0:=[]) (all:=ops.toArray) (aF:=jg) (k:=ops.toArray.size) (t0:=t0) (g:=0) (Q':=QQ n w0 mu Q) (X:=fun aK hc=>Ops P n w0 mu ops.toArray [] (aX ds (aK++jg)++l) hc Q) (dn:=mem E) (Nat.le_refl _) YR hf hback (bQ fun b=>by simp [lX])
   (fun i hi hdn=>by
    have:=List.all_eq_true.1 pV i (List.mem_range.2 hi)
    rw [hdn] at this
    simp only [Option.isSome_none,Bool.false_or,Bool.or_eq_true] at this
    rcases this with h | h
    ·exact .inl (Nat.eq_of_beq_eq_true h)
    ·exact .inr h)
   (fun i v hv=>⟨qN i v hv,fun hne=>?_⟩)
   (fun aK h listed inv hall hX a w hmid hEk=>?_)
   (fun listed inv i hi hun t ht hr=>by
    obtain ⟨_,o,ho,_⟩:=mem_ready.1 hr
    have:=(Array.getElem?_eq_some_iff.1 ho).1
    omega)
   (f + (ops.toArray.size - k)) (t0::C') [] (sO E c k++hp) listed a w PG invK (fun i hi=>lJ i (hlt' i (List.mem_append_left _ (List.mem_append_right _ (bT hi)))) av') Gm (fun i v hv=>by cases hv)
   (fun i hi=>⟨uk i (List.mem_append_right _ hi),uj i (Ap i (List.mem_append_right _ hi)) (uk i (List.mem_append_right _ hi)),?_⟩) yM dO (fun i hi hl=>?_) (bQ fun b=>by simp [lX]) (fun _=>aC.right _ _) hY
  ·exact PI
  ·rcases hsp2 i v hv with h0 | ⟨o,bu,h1,h2,h3⟩
   ·rcases hsp1 i v h0 with h0 | ⟨o,bu,h1,h2,h3⟩
    ·rw [cZ] at h0
     cases hR:lk Rs i with
     | some R=>
      rw [mem_of ((nK i).1 ⟨R,hR⟩)] at hne;cases hne
     | none=>
      rw [hR] at h0
      obtain ⟨o,bu,h1,h2,h3⟩:=hsS i v h0
      refine ⟨o,bu,h1,fun j u hu=>?_,fun hx=>?_⟩
      ·refine xA j u (hmo j u ?_)
       have h4:=h2 j u hu
       rw [cZ]
       cases hR2:lk Rs j with
       | some R2=>rw [yj j R2 hR2] at h4;cases h4
       | none=>exact h4
      ·rw [List.all_eq_true.1 hSt i ((nJ i).1 ⟨v,h0⟩)]
       exact h3 hx
    ·exact ⟨o,bu,h1,fun j u hu=>xA j u (h2 j u hu),fun hx=>Am h3⟩
   ·exact ⟨o,bu,h1,h2,fun hx=>Am h3⟩
  ·have lZ:Knows n (aX ds (aK++jg)++l) a:=by
    refine ⟨hmid.size,hmid.defers,fun t v ht=>?_⟩
    rcases dS ht with ht | ⟨_,ht⟩
    ·obtain ⟨j,h1,h2⟩:=gX (fV ht)
     rcases List.mem_append.1 h1 with h1 | h1
     ·exact (hmid.jV j v h1).2 t (jP _ _ h2)
     ·have hj:=hu2 j v h1
      have hjk:=qN j v hj
      refine hmid.nO j v hj ?_ t (jP _ _ h2)
      have h5:=hall j hjk
      cases hcc:listed.getD j false with
      | true=>rfl
      | false=>rw [getD_in au6 hcc] at h5;cases h5
    ·exact hmid.has t v ht
   refine ⟨?_,hX a w lZ hmid.good⟩
   rw [List.eq_nil_iff_forall_not_mem]
   intro i hi
   obtain ⟨hun,o,ho,_⟩:=mem_ready.1 hi
   rw [hall i (Array.getElem?_eq_some_iff.1 ho).1] at hun;cases hun
  ·cases hv:lk jg i with
   | none=>rfl
   | some v=>
    exfalso
    have h2:=Ap i (List.mem_append_right _ hi)
    rcases (Aq i).1 ⟨v,hv⟩ with h | ⟨v',h⟩
    ·exact YT i (List.mem_append_right _ h) i hi rfl
    ·have:=PE i v' h;omega
  ·have h1:=bT (List.all_eq_true.1 Gj i (List.mem_range.2 hi))
   rcases List.mem_append.1 h1 with h1 | h1
   ·left
    rcases List.mem_append.1 h1 with h1 | h1
    ·obtain ⟨v,hv⟩:=qx c hmid.valid i (hlt' i h1)
     exact ⟨v,xA i v hv⟩
    ·exact (Aq i).2 (.inl h1)
   ·exact .inr h1
 ·intro hr
  obtain ⟨_,o,ho,hall⟩:=mem_ready.1 hr
  have hts:t<ops.toArray.size:=(Array.getElem?_eq_some_iff.1 ho).1
  have hwl:∀ j,Region.waitsFor .any ops.toArray t j=true→listed.getD j false=true:=fun j hj=>by
   obtain ⟨oj,h6,e,he,hb,heq⟩:=Region.waitsFor_spec hj
   rw [ho] at h6;cases h6
   rw [← heq];exact hall e he hb
  have h1:=List.all_eq_true.1 hwt t (List.mem_range.2 hts)
  simp only [Bool.or_eq_true] at h1
  rcases h1 with (h1 | h1) | h1
  ·have:t<k:=by simpa using h1
   omega
  ·have h2:=hwl i (List.all_eq_true.1 h1 i (bT (by rw [← sG i hi];exact hie)))
   rw [getD_both hun] at h2;cases h2
  ·obtain ⟨j,hj,h2⟩:=List.any_eq_true.1 h1
   rw [Bool.and_eq_true] at h2
   have h3:=hwl j h2.2
   rw [getD_both (inv.tail j (by simpa using h2.1) (List.mem_range.1 hj))] at h3;cases h3
theorem NR {ops:List Oper} (k:Nat) (S E D D2 C:List Nat) (hB:mG ops.toArray n k S E D D2 C=true) (hf:bg l (dstsOf ops.toArray ops.toArray.size)=true) (hf1:bg l (dstsOf ops.toArray k)=true) (hsp:splitB k S E D=true) (hds:bM ops 0=ds)
  (h:iK P n w0 mu ops.toArray ds l hp (fun aF=>yh P n w0 mu ops.toArray ds l hp aF (fun Rs=>DN (fun iv bl=>fQ P n w0 mu ops.toArray ds l [] (fun Gi=>fQ P n w0 mu ops.toArray ds l [] (fun jg=>fB P n w0 mu ops.toArray ds l [] jg (fun aK hc=>Ops P n w0 mu ops.toArray [] (aX ds (aK++jg)++l) hc Q) C [] (bl++hp)) D2 Gi) D (iv++aF)) Rs) E []) S []):kZ P n w0 mu ops.toArray l hp Q:=by
 refine JG k S E D D2 C hB hf hf1 hsp hds (xk (fun aF h2=>NQ E [] (fun Rs e h3 c hc=>?_) h2) S [] h)
 have:=OO Rs _ c h3 hc
 have he:sO E c k=Ia c (Rs.map (·.1)):=by
  simp only [splitB,Bool.and_eq_true,decide_eq_true_eq] at hsp
  rw [zD,← hsp.1.1.1,e];simp
 rw [he]
 exact this
end
section
variable {n : Nat} {w0 : World} {mu : List Nat} {l : Fm} {hp : Hp} {Q : Exit → Fm → Hp → Prop} {ds : List (Nat × Nat)}
theorem X7 {id:Nat} {ops:List Oper} (k:Nat) (S E D D2 C:List Nat) (h:iK Tryz.prog n w0 mu ops.toArray ds l hp (fun aF=>yh Tryz.prog n w0 mu ops.toArray ds l hp aF (fun Rs=>DN (fun iv bl=>fQ Tryz.prog n w0 mu ops.toArray ds l [] (fun Gi=>fQ Tryz.prog n w0 mu ops.toArray ds l [] (fun jg=>fB Tryz.prog n w0 mu ops.toArray ds l [] jg (fun aK hc=>Ops Tryz.prog n w0 mu ops.toArray [] (aX ds (aK++jg)++l) hc Q) C [] (bl++hp)) D2 Gi) D (iv++aF)) Rs) E []) S [])
  (hds:bM ops 0=ds:=by (simp only [bM,Nat.reduceAdd,Nat.zero_add];rfl)) (hm:Tryz.prog.follows .mixedOrders=true:=by kernel_rfl) (hB:mG ops.toArray n k S E D D2 C=true:=by decide +kernel) (hf:bg l (dstsOf ops.toArray ops.toArray.size)=true:=by rfl) (hf1:bg l (dstsOf ops.toArray k)=true:=by rfl) (hsp:splitB k S E D=true:=by decide +kernel):St Tryz.prog n w0 mu (.region id ops.toArray true) l hp Q:=
 qP hm (NR k S E D D2 C hB hf hf1 hsp hds h)
end
section
variable {n : Nat} {w0 : World} {mu : List Nat} {l : Fm} {hp : Hp} {all : Array Oper} {iv : Fm} {i : Nat} {ds : List (Nat × Nat)} {Z : List (Nat × RT) → Prop} {E : List Nat} {Rs : List (Nat × RT)}
theorem mE (h:iD Tryz.prog n w0 mu all ds l hp iv (fun zF=>yh Tryz.prog n w0 mu all ds l hp iv Z E zF) [i] Rs):yh Tryz.prog n w0 mu all ds l hp iv Z (i::E) Rs:=by
 obtain ⟨o,R,h1,h2,h3,h4⟩:=h
 exact ⟨o,R,h1,.inl h2,h3,h4⟩
theorem mOn (m:Nat) {Rm R:RT} (he:∀ v hn,Rm v hn→iD Tryz.prog n w0 mu all ds l (hn++hp) ((m,v)::iv) (fun zF=>zF=[(i,R)]) [i] []) (hex:∃ v hn,Rm v hn) (h:yh Tryz.prog n w0 mu all ds l hp iv Z E ((i,R)::Rs)) (hm:lk Rs m=some Rm:=by rfl) (hw:Region.waitsFor .any all i m=true:=by decide +kernel):yh Tryz.prog n w0 mu all ds l hp iv Z (i::E) Rs:=by
 obtain ⟨v,hn,hv⟩:=hex
 obtain ⟨o,R',h1,h2,h3,h4⟩:=he v hn hv
 cases h4
 refine ⟨o,R,h1,.inr ⟨m,Rm,hm,hw,fun v hn hv=>?_⟩,h3,h⟩
 obtain ⟨o2,R2,g1,g2,g3,g4⟩:=he v hn hv
 cases g4
 rw [h1] at g1
 cases g1
 exact g2
theorem ah9 (h:Z Rs):yh Tryz.prog n w0 mu all ds l hp iv Z [] Rs:=h
end
end
section
set_option maxRecDepth 200000
def Vp:bF:=⟨1,3,0,0,-7⟩
def Ic:List Nat:=kM (yU 24) 20 [Vp] 1
def X8:dB:=⟨0,0,0,0,0,0,0,0,1280,0,0,0,0,0,0⟩
def ZU:PS:=oZ (KY Ic [([],[])] X8 ⟨0,false,false,false,-1,false⟩) 0 ⟨true,0,0⟩
theorem RD:qH Ic.length [([],[])] 0 ⟨true,0,0⟩=true:=by decide +kernel
theorem ah':(ZU.r.x3,ZU.r.pc,ZU.ls.length,ZU.kind)=(18446744073709551609,1284,1,0):=by decide +kernel
end
section
set_option maxRecDepth 200000
attribute [local irreducible] Hy St Ops DH gq iK iD fQ DS fB kz
theorem H7:uy (yU 24):=by unfold uy;decide +kernel
theorem H8:(yU 24).length=192:=by decide +kernel
theorem DF:Ic.length=192:=by decide +kernel
theorem ZV:∃ S:PS,oZ (KY Ic [([],[])] X8 ⟨0,false,false,false,-1,false⟩) 0 ⟨true,0,0⟩=S∧S.r.x3=18446744073709551609∧S.r.pc=1284∧S.ls.length=1∧S.kind=0:=by
 have h:=ah'
 simp only [Prod.mk.injEq] at h
 exact ⟨ZU,rfl,h.1,h.2.1,h.2.2.1,h.2.2.2⟩
def H9 (cpu:Int) (s:PS) (u:Value):Prop:=∃ p n c q k p2 n2 c2,u=.tuple #[.agg #[.slice p n c],.agg (di s.r).toArray,.slice q s.ls.length k,.agg (kP cpu (.slice p2 n2 c2) s),.int .i64 0]
theorem Rh.keep {cpu:Int} {s:PS} {u:Value} {hn:Hp} (h:Rh cpu s u hn):H9 cpu s u:=by
 obtain ⟨L,h1,rfl,_⟩:=h
 obtain ⟨a,b,e1⟩:=h1.w.opened
 obtain ⟨a2,b2,e2⟩:=h1.l.opened
 obtain ⟨a3,b3,e3⟩:=h1.q.opened
 unfold H9
 rw [e1,e2,e3,show s.ls.length=L.ts.length by rw [← h1.p,List.length_map],List.length_map,List.length_map,List.length_map]
 exact ⟨a,_,b,a2,b2,a3,_,b3,rfl⟩
theorem X9:X8.Ok:=by constructor<;>(unfold gm;decide)
theorem RF {S:PS} (hS:oZ (KY Ic [([],[])] X8 ⟨0,false,false,false,-1,false⟩) 0 ⟨true,0,0⟩=S) {c:Nat} (hcc:Ic.length≤c) {p:Option Addr} {lv:Value} {w:World} (hm:aB w (.slice p Ic.length c) 1 (Ic.map uV)) (hl:aB w lv 2 [lq default]):
  Fn Tryz.prog 16 [.agg #[.slice p Ic.length c],.agg (di X8).toArray,lv,.int .i64 0,.agg (iI ⟨true,0,0⟩).toArray,.agg (l7 ⟨0,false,false,false,-1,false⟩).toArray].toArray w [] (fun u _=>H9 0 S u):=by
 have hno:∀ sz e,aB w (.slice none 0 0) sz []:=fun sz e=>(Own.nil e sz).lie (fun b hb=>by cases hb) au0
 refine (Fh Ic (BB H7 20 [Vp] 1) (by rw [DF];decide) c hcc [default] X8 X9 0 ⟨true,0,0⟩ ⟨0,false,false,false,-1,false⟩ hm ⟨hl,fun t ht=>?_,fun t ht=>?_⟩ (fun t ht=>?_) au0).mono (fun u hn hu=>?_)
 ·obtain rfl:=List.mem_singleton.1 ht;exact hno 14 0
 ·obtain rfl:=List.mem_singleton.1 ht;exact hno 4 0
 ·obtain rfl:=List.mem_singleton.1 ht;exact Nat.le_refl 0
 ·rw [show qH Ic.length ([default].map dR.p) 0 ⟨true,0,0⟩=true from RD,cond_true] at hu
  have:=hu.keep
  rw [show oZ (KY Ic ([default].map dR.p) X8 ⟨0,false,false,false,-1,false⟩) (0:Int).toNat ⟨true,0,0⟩=S from hS] at this
  exact this
def Ie:List Value:=[.int .i64 0,.int .i64 0,.int .i64 0,.int .i64 0,.int .i64 0,.int .i64 0,.int .i64 0,.int .i64 0,.int .i64 0,.int .i64 0,.bool false,.int .i64 0,.int .i64 0,.slice none 0 0,.int .u64 0,.int .u64 0,.int .u64 0,.int .u64 0,.int .u64 0,.int .u64 0,.int .u64 0,.int .u64 0,.int .u64 0,.int .u64 0,.int .u64 0,.int .u64 0,.int .u64 0,.int .u64 0,.int .u64 0]
def JH:List Value:=[.int .u64 0,.int .u64 0,.int .u64 0,.int .u64 0,.int .u64 0,.int .u64 0,.int .u64 0,.int .u64 0,.int .u64 0,.int .u64 0,.int .u64 0,.int .u64 0,.int .u64 0,.int .u64 0,.int .u64 0]
theorem DI (w:World):Fn Tryz.prog 25 [].toArray w [] (fun u _=>u=.bool true):=by
 refine enter Tryz.func25 ?_
 refine run ?_
 refine gY (fun wc hG=>Vm 24 au0 au0 wc) ?_
 rintro _ hn1 ⟨v1,h1,rfl,hA1,hle1⟩
 obtain ⟨q1,c1,x1⟩:=hA1.opened
 rw [List.length_map] at x1
 subst x1
 refine aI h1 (cnt1 hle1) ?_
 refine run ?_
 intro I
 refine gY (fun wc hG=>X6 (yU 24) H7 aw3 20 [Vp] au0 au0 au0 (by rw [H8];decide) (hA1.lie (fun e he=>hG.here e av1) (by rw [List.length_map,H8];decide)) (fZ (xs:=[Kr Vp]) (hG.here _ mh) (fun c hc=>by simp at hc;rcases hc with rfl | rfl<;>rfl) au3)) ?_
 rintro _ hn2 ⟨v2,h2,rfl,hA2,hle2⟩
 replace hA2:Own 25 1 v2 h2 (Ic.map uV):=hA2
 obtain ⟨q2,c2,x2⟩:=hA2.kN
 rw [List.length_map] at x2
 obtain ⟨x2,hcc⟩:=x2
 subst x2
 refine aI h2 (cnt1 hle2) ?_
 refine run ?_
 intro M
 obtain ⟨S,hS,hS3,hSp,hSl,WI⟩:=ZV
 refine X7 15 [0,1,3,4] [2,5,12,13,14] [6,7,8,9,10,11] [17,19] [15,16,18] ?_
 refine eX ?_
 refine mE ?_
 refine YI (m:=1) (sz:=2) (z:=.agg #[.slice none 0 0,.slice none 0 0]) ?_ at7 (hcs:=by exact CE [.slice none 0 0,.slice none 0 0] 1 2 rfl at7)
 refine gW ?_
 refine mOn 2 (R:=fun u _=>H9 0 S u) ?_ ?_ ?_
 ·rintro v hn ⟨b,rfl,rfl⟩
  refine iU (R:=fun u _=>H9 0 S u) (fun wc hG=>RF hS hcc (hA2.lie (fun e he=>hG.here e av1) (by rw [List.length_map,DF];decide)) (fZ (xs:=[lq default]) (hG.here _ mh) (fun c hc=>by simp at hc;rcases hc with rfl | rfl<;>rfl) au3)) ⟨_,[],none,0,0,none,0,none,0,0,rfl⟩ ?_
  exact gW rfl
 ·exact ⟨_,_,0,rfl,rfl⟩
 refine mE ?_
 refine dL ?_
 refine gW ?_
 refine mE ?_
 refine dL (cs:=JH) ?_
 refine gW ?_
 refine mE ?_
 refine dL (cs:=Ie) ?_
 refine gW ?_
 refine ah9 ?_
 rintro _ _ ⟨b5,rfl,rfl⟩ _ _ ⟨b3,rfl,rfl⟩ _ _ ⟨b2,rfl,rfl⟩ u hn3 ⟨p3,n3,c3,q4,k4,p5,n5,c5,rfl⟩ _ hnb ⟨b,rfl,_⟩
 rw [hSl]
 refine mP ?_
 refine aQ ?_
 refine aQ ?_
 refine aQ ?_
 refine aQ ?_
 refine aQ ?_
 refine eY ?_
 refine iy ?_
 refine iy ?_
 refine eY ?_
 simp only [DN,List.cons_append,List.nil_append,List.append_nil]
 refine pW (b:=b2) (tb:=24) (cs:=#[.slice none 0 0]) (cs':=#[.slice p3 n3 c3]) (hp':=⟨b5,Ie.toArray,46⟩::⟨b3,JH.toArray,30⟩::(hn3++(hnb++(⟨M,#[.slice q2 Ic.length c2],24⟩::h2)))) ?_ (hput:=rfl) (hperm:=by (exact au))
 refine iM (b:=b3) (tb:=30) (cs:=JH.toArray) (vs:=di S.r) (o6:=rfl) (di S.r).toArray (hp':=⟨b5,Ie.toArray,46⟩::⟨b2,#[.slice p3 n3 c3],24⟩::(hn3++(hnb++(⟨M,#[.slice q2 Ic.length c2],24⟩::h2)))) ?_ (hperm:=by (exact au))
 refine iM (b:=b5) (tb:=46) (cs:=Ie.toArray) (vs:=(kP 0 (.slice p5 n5 c5) S).toList) (o6:=rfl) (kP 0 (.slice p5 n5 c5) S) (hp':=⟨b3,(di S.r).toArray,30⟩::⟨b2,#[.slice p3 n3 c3],24⟩::(hn3++(hnb++(⟨M,#[.slice q2 Ic.length c2],24⟩::h2)))) ?_ (hperm:=by (exact au))
 refine aG ?_
 refine cO ?_
 refine run ?_
 refine ax (fun wc hG=>Fq 0 wc) ?_
 refine az ?_
 rw [hS3]
 refine az ?_
 rw [hSp]
 refine az ?_
 rw [WI]
 exact fin1 rfl
end
section
set_option maxRecDepth 200000
def dB.nums (r:dB):List Nat:=[r.x0,r.x1,r.x2,r.x3,r.x4,r.x5,r.x6,r.x7,r.pc,r.jM,r.eU,r.oQ,r.zM,r.sJ,r.far]
end
section
attribute [local irreducible] Hy St Ops DH gq iK iD fQ DS fB kz yh
theorem jc {hl ht:Hp} {ts:List dR} {lv:Value} {wc:World} (o2:Own 77 2 lv hl (ts.map lq)) (o3:wC ht ts) (hH:Here (hl++ht) wc) (hn:ts.length<100000):qB wc lv ts:=
 ⟨o2.lie (fun e he=>hH e av1) au1,fun t hm=>((o3 t hm).1 wc (fun e he=>hH e av1)).1,fun t hm=>((o3 t hm).1 wc (fun e he=>hH e av1)).2⟩
theorem Vq {ws:List Nat} {ls:List (List bf × List dh)} {r:dB} {cpu:Int} {two:eu} (pk:BJ) (h64:uy ws) (hr:r.Ok) (hl:ls.length<100000) (h:qH ws.length ls cpu two=true):fD (KY ws ls r pk) cpu.toNat two∧cpu=(cpu.toNat:Int):=by
 simp only [qH,Bool.and_eq_true,decide_eq_true_eq] at h
 obtain ⟨⟨⟨⟨⟨m1,m2⟩,m3⟩,m4⟩,m5⟩,m6⟩:=h
 refine ⟨⟨h64,m1,by show cpu.toNat<ls.length;omega,hl,fun t ht=>?_,⟨m4,m5⟩,hr⟩,by omega⟩
 have h3:=List.all_eq_true.1 m6 t ht
 simp only [Bool.and_eq_true] at h3
 exact Ri h3.1 h3.2
theorem DJ {s:PS} {cpu:Nat} {two:eu} (c:Int) (h:fD s cpu two) (hq:s.seen.length≤100):∃ u hn,Rh c s u hn:=by
 have hm:=bC h.mem
 obtain ⟨a1,b1,o1⟩:=fE (e:=25) (xs:=s.ws.map uV) (x8 _) au1
 obtain ⟨a2,b2,o2⟩:=fE (e:=3) (sz:=1) (xs:=s.seen.map dN) (fun c hc=>by obtain ⟨x,_,rfl⟩:=List.mem_map.1 hc;exact ⟨rfl,rfl⟩) au1
 obtain ⟨v,ha,hs,ts,o3,o4,o5⟩:=Bi (ls:=s.ls) h.len (fun t ht=>(dJ (h.es t ht).vg).2)
 exact ⟨_,_,⟨a1,a2,v,ts,b1,b2,ha,hs⟩,⟨o1,o2,o3,o4,o5⟩,rfl,aC.refl _⟩
theorem JI {s:PS} {cpu:Nat} {two:eu} (c:Int) (wv:Value) (ws:List Nat) (h:fD s cpu two) (hq:s.seen.length≤100):∃ u hn,Ro wv ws c s u hn:=by
 obtain ⟨_,_,L,hL,_,_⟩:=DJ c h hq
 obtain ⟨p,k,e,hk⟩:=hL.w.kN
 rw [List.length_map] at e hk
 exact ⟨_,_,L,⟨.inr hL.w,⟨p,k,e,hk⟩,hL.q,hL.l,hL.t.i,hL.p⟩,rfl,aC.refl _⟩
structure ExS where
 k:Nat
 ws:List Nat
 r:dB
 ts:List dR
 wv:Value
 hw:Hp
 lv:Value
 hl:Hp
 ht:Hp
structure ExI (s:ExS):Prop where
 k:s.k≤25
 uX:uy s.ws
 r:s.r.Ok
 wl:s.ws.length≤3000
 ll:s.ts.length<100000
 el:∀ t∈s.ts,t.es.length + t.ds.length≤3000
 w:Own 25 1 s.wv s.hw (s.ws.map uV)
 l:Own 77 2 s.lv s.hl (s.ts.map lq)
 t:wC s.ht s.ts
set_option maxHeartbeats 4000000 in
theorem BC {w:World} {wv lv pv:Value} {ws:List Nat} {ts:List dR} {ps:List BJ} {r:dB} (cpu:Int) (two:eu) (h:Fp w wv lv pv ws ts ps r):Fn Tryz.prog 3 [.agg (sS wv lv pv r cpu two)].toArray w [] (fun u _=>u=.bool true):=by
 have h':=h
 obtain ⟨q1,c1,rfl,hwc⟩:=h.Rq
 obtain ⟨q2,c2,rfl,hne2,_⟩:=h.tl.rows.opened
 obtain ⟨q3,c3,rfl,UJ,_⟩:=h.sp.opened
 refine enter Tryz.func3 ?_
 refine run ?_
 intro B
 refine aI [⟨B,sS (.slice q1 ws.length c1) (.slice q2 ts.length c2) (.slice q3 ps.length c3) r cpu two,36⟩] (aC.refl _) ?_
 refine JZ (fun wc hG=>NL cpu two (h'.good hG)) ?_
 rintro _ ⟨hb,rfl,hsm⟩
 refine run ?_
 refine aj _ rfl (fun hc=>?_) (fun hc=>?_)
 ·refine run ?_
  exact fin1 rfl
 obtain ⟨hsum,hes⟩:=hsm hc
 refine run ?_
 refine oN 12 10 [0,1,3,4,5,6] [2,7,8,9] [10,11] [⟨B,sS (.slice q1 ws.length c1) (.slice q2 ts.length c2) (.slice q3 ps.length c3) r cpu two,36⟩] ?_
 refine bY ?_
 rw [show (List.take 15 (List.drop 1 (sS (.slice q1 ws.length c1) (.slice q2 ts.length c2) (.slice q3 ps.length c3) r cpu two).toList)).toArray=(di r).toArray from rfl]
 refine iU (fun wc hG=>uO ws _ (h'.sw.good hG) at7) ?_ ?_
 ·obtain ⟨a1,b1,o1⟩:=fE (e:=25) (xs:=ws.map uV) (x8 _) au1
  exact ⟨_,_,a1,b1,rfl,o1,aC.refl _⟩
 refine iU (fun wc hG=>rX ts (h'.tl.good hG) at7 (fun t ht=>by have:=hes t ht;omega)) ?_ ?_
 ·obtain ⟨v,ha,hs,ts',o1,o2,o3⟩:=uS (ls:=ts.map dR.p) au1
  exact ⟨v,_,ha,hs,ts',o1,o2,o3,aC.refl _⟩
 refine dL ?_
 refine dL (cs:=JH) ?_
 refine gW ?_
 rintro _ _ ⟨Rb,rfl,rfl⟩ _ _ ⟨Mb,rfl,rfl⟩ lv0 hn2 ⟨hl0,ht0,ts0,o2,o3,o4,hle2⟩ _ hn1 ⟨wv0,hw0,rfl,o1,hle1⟩
 obtain ⟨qa,ca,xa,hca⟩:=o1.kN
 obtain ⟨qb,cb,xb⟩:=o2.opened
 rw [List.length_map] at xa xb hca
 subst xa xb
 simp only [DN,List.cons_append,List.nil_append,List.append_nil]
 refine pW (b:=Mb) (tb:=24) (cs:=#[.slice none 0 0]) (cs':=#[.slice qa ws.length ca]) (hp':=⟨Rb,JH.toArray,30⟩::(hn2++(hn1++[⟨B,sS (.slice q1 ws.length c1) (.slice q2 ts.length c2) (.slice q3 ps.length c3) r cpu two,36⟩]))) ?_ (hput:=rfl) (hperm:=by (exact au))
 refine iM (b:=Rb) (tb:=30) (cs:=JH.toArray) (vs:=di r) (o6:=rfl) (di r).toArray (hp':=⟨Mb,#[.slice qa ws.length ca],24⟩::(hn2++(hn1++[⟨B,sS (.slice q1 ws.length c1) (.slice q2 ts.length c2) (.slice q3 ps.length c3) r cpu two,36⟩]))) ?_ (hperm:=by (exact au))
 refine aG ?_
 refine cO ?_
 refine run ?_
 have ZW:∀ t∈ts0,t.es.length + t.ds.length≤3000:=fun t ht=>by
  have h1:t.p∈ts.map dR.p:=by rw [← o4];exact List.mem_map.2 ⟨t,ht,rfl⟩
  obtain ⟨t',h2,h3⟩:=List.mem_map.1 h1
  have h4:=hes t' h2
  have h5:t'.es=t.es∧t'.ds=t.ds:=by simpa [dR.p] using h3
  rw [h5.1,h5.2] at h4;exact h4
 have ai1:ts0.length=ts.length:=by simpa using congrArg List.length o4
 refine cu (σ:=ExS) (fun s=>[(6,.int .i64 (s.k:Int)),(5,s.lv)]) (fun s=>⟨Rb,(di s.r).toArray,30⟩::⟨Mb,#[s.wv],24⟩::((s.hw++s.hl++s.ht)++[⟨B,sS (.slice q1 ws.length c1) (.slice q2 ts.length c2) (.slice q3 ps.length c3) r cpu two,36⟩])) ExI (fun s=>25 - s.k) ⟨0,ws,r,ts0,.slice qa ws.length ca,hw0,.slice qb ts0.length cb,hl0,ht0⟩ ⟨Nat.zero_le _,h.uX,h.r,by dsimp only;omega,by dsimp only;omega,ZW,o1,o2,o3⟩ ?_ (hh:=by dsimp only;(refine bQ fun a=>?_;have:=aC.cnt hle1 a;have:=aC.cnt hle2 a;simp only [dV,bH,kG] at *;omega))
 clear o1 o2 o3 o4 hle1 hle2 ZW ai1 hca
 rintro ⟨k,wk,rk,tk,wv,hw,lv,hl,ht⟩ m hm hI
 obtain ⟨hk,hw64,hrk,hwl,hll,hel,o1,o2,o3⟩:=hI
 dsimp only at hm hk hw64 hrk hwl hll hel o1 o2 o3 ⊢
 obtain ⟨qa,ca,xa,hca⟩:=o1.kN
 obtain ⟨qb,cb,xb⟩:=o2.opened
 rw [List.length_map] at xa xb hca
 subst xa xb
 refine az ?_
 refine aj _ rfl (fun hc1=>?_) (fun hc1=>?_)
 ·have hlt:k<ps.length∧k<25:=by simp at hc1;omega
  obtain ⟨b3,y9,rfl⟩:=UJ av7
  have hr3:=h.sp.row hlt.1
  generalize ps.getD k default=pk at hr3
  refine run ?_
  refine gY (fun wc hG=>uO wk _ (o1.lie (fun e he=>hG.here e av1) au1) at7) ?_
  rintro _ hn1 ⟨av,ha,rfl,p1',hle1⟩
  obtain ⟨qc,cc,xc,hcc⟩:=p1'.kN
  rw [List.length_map] at xc hcc
  subst xc
  refine run ?_
  refine gY (fun wc hG=>rX tk (jc o2 o3 (fun e he=>hG.here e au8) hll) at7 (fun t ht=>by have:=hel t ht;omega)) ?_
  rintro bv hn2 ⟨hb2,ht2,tb,p2',RP,ZX,hle2⟩
  obtain ⟨qd,cd,xd⟩:=p2'.opened
  rw [List.length_map] at xd
  subst xd
  refine aI (⟨Rb,(di rk).toArray,30⟩::⟨Mb,#[.slice qa wk.length ca],24⟩::((hw++hl++ht)++(ha++hb2++ht2)++[⟨B,sS (.slice q1 ws.length c1) (.slice q2 ts.length c2) (.slice (some ⟨b3,y9,none⟩) ps.length c3) r cpu two,36⟩])) (by (refine bQ fun a=>?_;have:=aC.cnt hle1 a;have:=aC.cnt hle2 a;simp only [dV,bH,kG] at *;omega)) ?_
  refine run ?_
  intro A
  have htb:tb.length=tk.length:=by simpa using congrArg List.length ZX
  cases Yk:qH wk.length (tk.map dR.p) cpu two with
  | false=>
   refine iQ 22 [0,1,2,3,4,5,6,7,8,9,10,11] [12,19,20,21] [13,14,15,16,17,18] [24,26] [22,23,25] ?_
   refine eX ?_
   rw [show (List.take 3 (List.drop 18 (sS (.slice q1 ws.length c1) (.slice q2 ts.length c2) (.slice (some ⟨b3,y9,none⟩) ps.length c3) r cpu two).toList)).toArray=(iI two).toArray from rfl]
   refine iU (R:=fun u _=>XV u) (fun wc hG=>?_) ⟨_,[],rfl⟩ ?_
   ·refine (Fh wk hw64 at7 cc hcc tb rk hrk cpu two pk (p1'.lie (fun e he=>hG.here e av1) au1) (jc p2' RP (fun e he=>hG.here e au8) at7) (fun t ht=>(RP t ht).2) at7).mono (fun u hn hu=>?_)
    rw [ZX,Yk,cond_false] at hu
    exact hu
   refine dL ?_
   refine dL (cs:=JH) ?_
   refine dL (cs:=Ie) ?_
   refine gW ?_
   rintro _ _ ⟨O,rfl,rfl⟩ _ _ ⟨X,rfl,rfl⟩ _ _ ⟨Nb,rfl,rfl⟩ _ hn3 rfl
   refine mP ?_
   refine aQ ?_
   refine aQ ?_
   refine aQ ?_
   refine aQ ?_
   refine aQ ?_
   refine eY ?_
   refine iy ?_
   refine iy ?_
   refine eY ?_
   simp only [DN,List.cons_append,List.nil_append,List.append_nil]
   refine pW (b:=Nb) (tb:=24) (cs:=#[.slice none 0 0]) (cs':=#[.slice none 0 0]) (hp':=⟨O,Ie.toArray,46⟩::⟨X,JH.toArray,30⟩::(hn3++(⟨A,#[.slice qc wk.length cc],24⟩::⟨Rb,(di rk).toArray,30⟩::⟨Mb,#[.slice qa wk.length ca],24⟩::((hw++hl++ht)++(ha++hb2++ht2)++[⟨B,sS (.slice q1 ws.length c1) (.slice q2 ts.length c2) (.slice (some ⟨b3,y9,none⟩) ps.length c3) r cpu two,36⟩])))) ?_ (hput:=rfl) (hperm:=by (exact au))
   refine iM (b:=X) (tb:=30) (cs:=JH.toArray) (vs:=di kJ) (o6:=rfl) (di kJ).toArray (hp':=⟨O,Ie.toArray,46⟩::⟨Nb,#[.slice none 0 0],24⟩::(hn3++(⟨A,#[.slice qc wk.length cc],24⟩::⟨Rb,(di rk).toArray,30⟩::⟨Mb,#[.slice qa wk.length ca],24⟩::((hw++hl++ht)++(ha++hb2++ht2)++[⟨B,sS (.slice q1 ws.length c1) (.slice q2 ts.length c2) (.slice (some ⟨b3,y9,none⟩) ps.length c3) r cpu two,36⟩])))) ?_ (hperm:=by (exact au))
   refine iM (b:=O) (tb:=46) (cs:=Ie.toArray) (vs:=(kP 0 (.slice none 0 0) mg).toList) (o6:=rfl) (kP 0 (.slice none 0 0) mg) (hp':=⟨X,(di kJ).toArray,30⟩::⟨Nb,#[.slice none 0 0],24⟩::(hn3++(⟨A,#[.slice qc wk.length cc],24⟩::⟨Rb,(di rk).toArray,30⟩::⟨Mb,#[.slice qa wk.length ca],24⟩::((hw++hl++ht)++(ha++hb2++ht2)++[⟨B,sS (.slice q1 ws.length c1) (.slice q2 ts.length c2) (.slice (some ⟨b3,y9,none⟩) ps.length c3) r cpu two,36⟩])))) ?_ (hperm:=by (exact au))
   refine aG ?_
   refine cO ?_
   refine run ?_
   rw [show (List.take 3 (List.drop 18 (sS (.slice q1 ws.length c1) (.slice q2 ts.length c2) (.slice (some ⟨b3,y9,none⟩) ps.length c3) r cpu two).toList)).toArray=(iI two).toArray from rfl]
   refine ax (fun wc hG=>Ld wk at7 tk at7 cpu two ⟨_,_,rfl,hca⟩ (jc o2 o3 (fun e he=>hG.here e au8) hll)) ?_
   rw [Yk]
   refine aW ?_
   refine ax (fun wc hG=>Fq 1 wc) ?_
   refine az ?_
   refine aj _ rfl (fun hc=>absurd hc aw3) (fun _=>?_)
   refine run ?_
   refine ax (fun wc hG=>DI wc) ?_
   refine run ?_
   exact fin1 rfl
  | true=>
   obtain ⟨hok,ZY⟩:=Vq pk hw64 hrk au1 Yk
   obtain ⟨S,hS⟩:∃ S,oZ (KY wk (tk.map dR.p) rk pk) cpu.toNat two=S:=⟨_,rfl⟩
   obtain ⟨Fv,ZZ⟩:=step_ok hok
   rw [hS] at Fv ZZ
   refine iQ 22 [0,1,2,3,4,5,6,7,8,9,10,11] [12,19,20,21] [13,14,15,16,17,18] [24,26] [22,23,25] ?_
   refine eX ?_
   rw [show (List.take 3 (List.drop 18 (sS (.slice q1 ws.length c1) (.slice q2 ts.length c2) (.slice (some ⟨b3,y9,none⟩) ps.length c3) r cpu two).toList)).toArray=(iI two).toArray from rfl]
   refine iU (R:=Rh cpu S) (fun wc hG=>?_) (DJ cpu Fv (by have:S.seen.length≤0 + 50:=ZZ;omega)) ?_
   ·refine (Fh wk hw64 at7 cc hcc tb rk hrk cpu two pk (p1'.lie (fun e he=>hG.here e av1) au1) (jc p2' RP (fun e he=>hG.here e au8) at7) (fun t ht=>(RP t ht).2) at7).mono (fun u hn hu=>?_)
    rw [ZX,Yk,cond_true,hS] at hu
    exact hu
   refine dL ?_
   refine dL (cs:=JH) ?_
   refine dL (cs:=Ie) ?_
   refine gW ?_
   rintro _ _ ⟨O,rfl,rfl⟩ _ _ ⟨X,rfl,rfl⟩ _ _ ⟨Nb,rfl,rfl⟩ _ hn3 ⟨L,hL,rfl,hle3⟩
   obtain ⟨pe,ce,xe⟩:=hL.w.opened
   obtain ⟨pf,cf,xf⟩:=hL.l.opened
   obtain ⟨pg,cg,xg⟩:=hL.q.opened
   rw [List.length_map] at xe xf xg
   have g1:=hL.w
   have g2:=hL.l
   have g3:=hL.q
   rw [xe] at g1 ⊢
   rw [xf] at g2 ⊢
   rw [xg] at g3 ⊢
   refine mP ?_
   refine aQ ?_
   refine aQ ?_
   refine aQ ?_
   refine aQ ?_
   refine aQ ?_
   refine eY ?_
   refine iy ?_
   refine iy ?_
   refine eY ?_
   simp only [DN,List.cons_append,List.nil_append,List.append_nil]
   refine pW (b:=Nb) (tb:=24) (cs:=#[.slice none 0 0]) (cs':=#[.slice pe S.ws.length ce]) (hp':=⟨O,Ie.toArray,46⟩::⟨X,JH.toArray,30⟩::(hn3++(⟨A,#[.slice qc wk.length cc],24⟩::⟨Rb,(di rk).toArray,30⟩::⟨Mb,#[.slice qa wk.length ca],24⟩::((hw++hl++ht)++(ha++hb2++ht2)++[⟨B,sS (.slice q1 ws.length c1) (.slice q2 ts.length c2) (.slice (some ⟨b3,y9,none⟩) ps.length c3) r cpu two,36⟩])))) ?_ (hput:=rfl) (hperm:=by (exact au))
   refine iM (b:=X) (tb:=30) (cs:=JH.toArray) (vs:=di S.r) (o6:=rfl) (di S.r).toArray (hp':=⟨O,Ie.toArray,46⟩::⟨Nb,#[.slice pe S.ws.length ce],24⟩::(hn3++(⟨A,#[.slice qc wk.length cc],24⟩::⟨Rb,(di rk).toArray,30⟩::⟨Mb,#[.slice qa wk.length ca],24⟩::((hw++hl++ht)++(ha++hb2++ht2)++[⟨B,sS (.slice q1 ws.length c1) (.slice q2 ts.length c2) (.slice (some ⟨b3,y9,none⟩) ps.length c3) r cpu two,36⟩])))) ?_ (hperm:=by (exact au))
   refine iM (b:=O) (tb:=46) (cs:=Ie.toArray) (vs:=(kP cpu (.slice pg S.seen.length cg) S).toList) (o6:=rfl) (kP cpu (.slice pg S.seen.length cg) S) (hp':=⟨X,(di S.r).toArray,30⟩::⟨Nb,#[.slice pe S.ws.length ce],24⟩::(hn3++(⟨A,#[.slice qc wk.length cc],24⟩::⟨Rb,(di rk).toArray,30⟩::⟨Mb,#[.slice qa wk.length ca],24⟩::((hw++hl++ht)++(ha++hb2++ht2)++[⟨B,sS (.slice q1 ws.length c1) (.slice q2 ts.length c2) (.slice (some ⟨b3,y9,none⟩) ps.length c3) r cpu two,36⟩])))) ?_ (hperm:=by (exact au))
   refine aG ?_
   refine cO ?_
   refine run ?_
   rw [show (List.take 3 (List.drop 18 (sS (.slice q1 ws.length c1) (.slice q2 ts.length c2) (.slice (some ⟨b3,y9,none⟩) ps.length c3) r cpu two).toList)).toArray=(iI two).toArray from rfl]
   refine ax (fun wc hG=>Ld wk at7 tk at7 cpu two ⟨_,_,rfl,hca⟩ (jc o2 o3 (fun e he=>hG.here e au8) hll)) ?_
   rw [Yk]
   refine aW ?_
   have hR:=fun {wc:World} (a1:aB wc (.slice qa wk.length ca) 1 (wk.map uV)) (a2:qB wc (.slice qb tk.length cb) tk)=>NK wk hw64 ca hca tk rk hrk cpu.toNat two pk a1 a2 at7 (by rw [← ZY];exact Yk)
   rw [hS] at hR
   simp only [← ZY] at hR
   refine iQ 21 [0,1,2,3,4,5,6,7,8,9,10,11] [12,18,19,20] [13,14,15,16,17] [23] [21,22,24] ?_
   refine eX ?_
   rw [show (List.take 3 (List.drop 18 (sS (.slice q1 ws.length c1) (.slice q2 ts.length c2) (.slice (some ⟨b3,y9,none⟩) ps.length c3) r cpu two).toList)).toArray=(iI two).toArray from rfl]
   refine iU (R:=Ro (.slice qa wk.length ca) wk cpu S) (fun wc hG=>hR (o1.lie (fun e he=>hG.here e av1) au1) (jc o2 o3 (fun e he=>hG.here e au8) hll)) (JI cpu _ _ Fv (by have:S.seen.length≤0 + 50:=ZZ;omega)) ?_
   refine dL ?_
   refine dL (cs:=JH) ?_
   refine dL (cs:=Ie) ?_
   refine gW ?_
   rintro _ _ ⟨O2,rfl,rfl⟩ _ _ ⟨X2,rfl,rfl⟩ _ _ ⟨N2,rfl,rfl⟩ _ hn4 ⟨M,hM,rfl,yT⟩
   obtain ⟨ph,ch,xh,hch⟩:=hM.c
   obtain ⟨pi,ci,xi⟩:=hM.l.opened
   obtain ⟨pj,cj,xj⟩:=hM.q.opened
   rw [List.length_map] at xi xj
   have k1:=hM.w
   have k2:=hM.l
   have k3:=hM.q
   rw [xh] at k1 ⊢
   rw [xi] at k2 ⊢
   rw [xj] at k3 ⊢
   refine mP ?_
   refine aQ ?_
   refine aQ ?_
   refine aQ ?_
   refine aQ ?_
   refine eY ?_
   refine iy ?_
   refine eY ?_
   simp only [DN,List.cons_append,List.nil_append,List.append_nil]
   refine pW (b:=N2) (tb:=24) (cs:=#[.slice none 0 0]) (cs':=#[.slice ph S.ws.length ch]) (hp':=⟨O2,Ie.toArray,46⟩::⟨X2,JH.toArray,30⟩::(hn4++(⟨O,kP cpu (.slice pg S.seen.length cg) S,46⟩::⟨X,(di S.r).toArray,30⟩::⟨Nb,#[.slice pe S.ws.length ce],24⟩::(hn3++(⟨A,#[.slice qc wk.length cc],24⟩::⟨Rb,(di rk).toArray,30⟩::⟨Mb,#[.slice qa wk.length ca],24⟩::((hw++hl++ht)++(ha++hb2++ht2)++[⟨B,sS (.slice q1 ws.length c1) (.slice q2 ts.length c2) (.slice (some ⟨b3,y9,none⟩) ps.length c3) r cpu two,36⟩])))))) ?_ (hput:=rfl) (hperm:=by (exact au))
   refine iM (b:=X2) (tb:=30) (cs:=JH.toArray) (vs:=di S.r) (o6:=rfl) (di S.r).toArray (hp':=⟨O2,Ie.toArray,46⟩::⟨N2,#[.slice ph S.ws.length ch],24⟩::(hn4++(⟨O,kP cpu (.slice pg S.seen.length cg) S,46⟩::⟨X,(di S.r).toArray,30⟩::⟨Nb,#[.slice pe S.ws.length ce],24⟩::(hn3++(⟨A,#[.slice qc wk.length cc],24⟩::⟨Rb,(di rk).toArray,30⟩::⟨Mb,#[.slice qa wk.length ca],24⟩::((hw++hl++ht)++(ha++hb2++ht2)++[⟨B,sS (.slice q1 ws.length c1) (.slice q2 ts.length c2) (.slice (some ⟨b3,y9,none⟩) ps.length c3) r cpu two,36⟩])))))) ?_ (hperm:=by (exact au))
   refine iM (b:=O2) (tb:=46) (cs:=Ie.toArray) (vs:=(kP cpu (.slice pj S.seen.length cj) S).toList) (o6:=rfl) (kP cpu (.slice pj S.seen.length cj) S) (hp':=⟨X2,(di S.r).toArray,30⟩::⟨N2,#[.slice ph S.ws.length ch],24⟩::(hn4++(⟨O,kP cpu (.slice pg S.seen.length cg) S,46⟩::⟨X,(di S.r).toArray,30⟩::⟨Nb,#[.slice pe S.ws.length ce],24⟩::(hn3++(⟨A,#[.slice qc wk.length cc],24⟩::⟨Rb,(di rk).toArray,30⟩::⟨Mb,#[.slice qa wk.length ca],24⟩::((hw++hl++ht)++(ha++hb2++ht2)++[⟨B,sS (.slice q1 ws.length c1) (.slice q2 ts.length c2) (.slice (some ⟨b3,y9,none⟩) ps.length c3) r cpu two,36⟩])))))) ?_ (hperm:=by (exact au))
   refine aG ?_
   refine cO ?_
   refine run ?_
   refine aI ((⟨O2,kP cpu (.slice pj S.seen.length cj) S,46⟩::⟨X2,(di S.r).toArray,30⟩::⟨N2,#[.slice ph S.ws.length ch],24⟩::⟨O,kP cpu (.slice pg S.seen.length cg) S,46⟩::⟨X,(di S.r).toArray,30⟩::⟨Nb,#[.slice pe S.ws.length ce],24⟩::⟨A,#[.slice qc wk.length cc],24⟩::⟨Rb,(di rk).toArray,30⟩::⟨Mb,#[.slice qa wk.length ca],24⟩::((M.hl++M.hs++(M.hw++M.ht))++(L.hl++L.hs++(L.hw++L.ht))++(hw++hl++ht)++(ha++hb2++ht2)++[⟨B,sS (.slice q1 ws.length c1) (.slice q2 ts.length c2) (.slice (some ⟨b3,y9,none⟩) ps.length c3) r cpu two,36⟩]))) (by (refine bQ fun a=>?_;have:=aC.cnt hle3 a;have:=aC.cnt yT a;simp only [dV,bH,kG] at *;omega)) ?_
   have hin:∀ {wc:World} {hx:Hp},Good w [] ((⟨O2,kP cpu (.slice pj S.seen.length cj) S,46⟩::⟨X2,(di S.r).toArray,30⟩::⟨N2,#[.slice ph S.ws.length ch],24⟩::⟨O,kP cpu (.slice pg S.seen.length cg) S,46⟩::⟨X,(di S.r).toArray,30⟩::⟨Nb,#[.slice pe S.ws.length ce],24⟩::⟨A,#[.slice qc wk.length cc],24⟩::⟨Rb,(di rk).toArray,30⟩::⟨Mb,#[.slice qa wk.length ca],24⟩::((M.hl++M.hs++(M.hw++M.ht))++(L.hl++L.hs++(L.hw++L.ht))++(hw++hl++ht)++(ha++hb2++ht2)++[⟨B,sS (.slice q1 ws.length c1) (.slice q2 ts.length c2) (.slice (some ⟨b3,y9,none⟩) ps.length c3) r cpu two,36⟩]))) wc→(∀ e∈hx,e∈(⟨O2,kP cpu (.slice pj S.seen.length cj) S,46⟩::⟨X2,(di S.r).toArray,30⟩::⟨N2,#[.slice ph S.ws.length ch],24⟩::⟨O,kP cpu (.slice pg S.seen.length cg) S,46⟩::⟨X,(di S.r).toArray,30⟩::⟨Nb,#[.slice pe S.ws.length ce],24⟩::⟨A,#[.slice qc wk.length cc],24⟩::⟨Rb,(di rk).toArray,30⟩::⟨Mb,#[.slice qa wk.length ca],24⟩::((M.hl++M.hs++(M.hw++M.ht))++(L.hl++L.hs++(L.hw++L.ht))++(hw++hl++ht)++(ha++hb2++ht2)++[⟨B,sS (.slice q1 ws.length c1) (.slice q2 ts.length c2) (.slice (some ⟨b3,y9,none⟩) ps.length c3) r cpu two,36⟩])))→Here hx wc:=fun hG hx e he=>hG.here e (hx e he)
   have hsw:S.ws.length≤512:=(bC Fv.mem).2.1
   refine ax (fun wc hG=>Fq 0 wc) ?_
   refine az ?_
   have sN:∀ {wc:World},Good w [] ((⟨O2,kP cpu (.slice pj S.seen.length cj) S,46⟩::⟨X2,(di S.r).toArray,30⟩::⟨N2,#[.slice ph S.ws.length ch],24⟩::⟨O,kP cpu (.slice pg S.seen.length cg) S,46⟩::⟨X,(di S.r).toArray,30⟩::⟨Nb,#[.slice pe S.ws.length ce],24⟩::⟨A,#[.slice qc wk.length cc],24⟩::⟨Rb,(di rk).toArray,30⟩::⟨Mb,#[.slice qa wk.length ca],24⟩::((M.hl++M.hs++(M.hw++M.ht))++(L.hl++L.hs++(L.hw++L.ht))++(hw++hl++ht)++(ha++hb2++ht2)++[⟨B,sS (.slice q1 ws.length c1) (.slice q2 ts.length c2) (.slice (some ⟨b3,y9,none⟩) ps.length c3) r cpu two,36⟩]))) wc→aB wc (.slice pe S.ws.length ce) 1 (S.ws.map uV):=fun hG=>g1.lie (fun e he=>hG.here e av1) au1
   have sM:∀ {wc:World},Good w [] ((⟨O2,kP cpu (.slice pj S.seen.length cj) S,46⟩::⟨X2,(di S.r).toArray,30⟩::⟨N2,#[.slice ph S.ws.length ch],24⟩::⟨O,kP cpu (.slice pg S.seen.length cg) S,46⟩::⟨X,(di S.r).toArray,30⟩::⟨Nb,#[.slice pe S.ws.length ce],24⟩::⟨A,#[.slice qc wk.length cc],24⟩::⟨Rb,(di rk).toArray,30⟩::⟨Mb,#[.slice qa wk.length ca],24⟩::((M.hl++M.hs++(M.hw++M.ht))++(L.hl++L.hs++(L.hw++L.ht))++(hw++hl++ht)++(ha++hb2++ht2)++[⟨B,sS (.slice q1 ws.length c1) (.slice q2 ts.length c2) (.slice (some ⟨b3,y9,none⟩) ps.length c3) r cpu two,36⟩]))) wc→aB wc (.slice ph S.ws.length ch) 1 (S.ws.map uV):=fun hG=>by
    rcases k1 with ⟨e1,e2⟩ | k1
    ·rw [e1,e2];exact o1.lie (fun e he=>hG.here e av1) au1
    ·exact k1.lie (fun e he=>hG.here e av1) au1
   refine aZ (fun _ wc hG=>Em S.ws _ _ (sN hG) (sM hG)) ?_
   refine az ?_
   rw [ac9 S.r S.r,decide_eq_true (rfl:S.r=S.r)]
   have NG:L.ts.length<100000∧M.ts.length<100000:=by
    have e1:L.ts.length=S.ls.length:=by rw [← hL.p,List.length_map]
    have e2:M.ts.length=S.ls.length:=by rw [← hM.p,List.length_map]
    have e3:=Fv.len
    omega
   refine aZ (fun _ wc hG=>Bv L.ts M.ts (jc (hl:=L.hl) (ht:=L.ht) g2 hL.t.i (fun e he=>hG.here e au8) NG.1) (jc (hl:=M.hl) (ht:=M.ht) k2 hM.t (fun e he=>hG.here e au8) NG.2) (by rw [hL.p,hM.p])) ?_
   refine az ?_
   refine aZ (fun _ wc hG=>Vd cpu _ _ S (g3.lie (fun e he=>hG.here e av1) (by rw [List.length_map];have:S.seen.length≤0 + 50:=ZZ;omega)) (k3.lie (fun e he=>hG.here e av1) (by rw [List.length_map];have:S.seen.length≤0 + 50:=ZZ;omega))) ?_
   refine az ?_
   refine aZ (fun _ wc hG=>Em wk _ _ (p1'.lie (fun e he=>hG.here e av1) au1) (o1.lie (fun e he=>hG.here e av1) au1)) ?_
   refine az ?_
   refine aZ (fun _ wc hG=>Bv tb tk (jc (hl:=hb2) (ht:=ht2) p2' RP (fun e he=>hG.here e au8) at7) (jc (hl:=hl) (ht:=ht) o2 o3 (fun e he=>hG.here e au8) hll) ZX) ?_
   refine az ?_
   refine aj _ rfl (fun hc=>absurd hc au0) (fun _=>?_)
   refine run ?_
   refine dH L.hw (⟨O2,kP cpu (.slice pj S.seen.length cj) S,46⟩::⟨O,kP cpu (.slice pg S.seen.length cg) S,46⟩::⟨X,(di S.r).toArray,30⟩::⟨Nb,#[.slice pe S.ws.length ce],24⟩::(⟨X2,(di S.r).toArray,30⟩::⟨N2,#[.slice ph S.ws.length ch],24⟩::⟨A,#[.slice qc wk.length cc],24⟩::⟨Rb,(di rk).toArray,30⟩::⟨Mb,#[.slice qa wk.length ca],24⟩::((M.hl++M.hs++(M.hw++M.ht))++(L.hs++(L.hl++L.ht))++(hw++hl++ht)++(ha++hb2++ht2)++[⟨B,sS (.slice q1 ws.length c1) (.slice q2 ts.length c2) (.slice (some ⟨b3,y9,none⟩) ps.length c3) r cpu two,36⟩]))) (fun wc hG=>Fj S.ws Fv.uX g1 hG.dD at7) (fun v hn hR=>?_) au
   obtain rfl:=hR
   refine aI ((⟨X2,(di S.r).toArray,30⟩::⟨N2,#[.slice ph S.ws.length ch],24⟩::⟨A,#[.slice qc wk.length cc],24⟩::⟨Rb,(di rk).toArray,30⟩::⟨Mb,#[.slice qa wk.length ca],24⟩::((M.hl++M.hs++(M.hw++M.ht))++(L.hl++L.ht)++(hw++hl++ht)++(ha++hb2++ht2)++[⟨B,sS (.slice q1 ws.length c1) (.slice q2 ts.length c2) (.slice (some ⟨b3,y9,none⟩) ps.length c3) r cpu two,36⟩]))) ak ?_
   refine run ?_
   refine dH (L.hl++L.ht) ((⟨X2,(di S.r).toArray,30⟩::⟨N2,#[.slice ph S.ws.length ch],24⟩::⟨A,#[.slice qc wk.length cc],24⟩::⟨Rb,(di rk).toArray,30⟩::⟨Mb,#[.slice qa wk.length ca],24⟩::((M.hl++M.hs++(M.hw++M.ht))++([])++(hw++hl++ht)++(ha++hb2++ht2)++[⟨B,sS (.slice q1 ws.length c1) (.slice q2 ts.length c2) (.slice (some ⟨b3,y9,none⟩) ps.length c3) r cpu two,36⟩]))) (fun wc hG=>Hw L.ts g2 hL.t hG.dD NG.1) (fun v hn hR=>?_) au
   obtain rfl:=hR
   refine aI ((⟨X2,(di S.r).toArray,30⟩::⟨N2,#[.slice ph S.ws.length ch],24⟩::⟨A,#[.slice qc wk.length cc],24⟩::⟨Rb,(di rk).toArray,30⟩::⟨Mb,#[.slice qa wk.length ca],24⟩::((M.hl++M.hs++(M.hw++M.ht))++([])++(hw++hl++ht)++(ha++hb2++ht2)++[⟨B,sS (.slice q1 ws.length c1) (.slice q2 ts.length c2) (.slice (some ⟨b3,y9,none⟩) ps.length c3) r cpu two,36⟩]))) ak ?_
   refine run ?_
   refine ax (fun wc hG=>Em wk _ _ (p1'.lie (fun e he=>hG.here e av1) au1) (o1.lie (fun e he=>hG.here e av1) au1)) ?_
   refine az ?_
   refine aZ (fun _ wc hG=>Bv tb tk (jc (hl:=hb2) (ht:=ht2) p2' RP (fun e he=>hG.here e au8) at7) (jc (hl:=hl) (ht:=ht) o2 o3 (fun e he=>hG.here e au8) hll) ZX) ?_
   refine az ?_
   refine aj _ rfl (fun hc=>absurd hc au0) (fun _=>?_)
   refine run ?_
   have Z4:∀ t∈M.ts,t.es.length≤8∧t.ds.length≤8:=fun t ht=>by
    have h1:t.p∈S.ls:=by rw [← hM.p];exact List.mem_map.2 ⟨t,ht,rfl⟩
    exact (dJ (Fv.es _ h1).vg).2
   refine oN 7 5 [0,2,3] [1,4] [5,6] [⟨X2,(di S.r).toArray,30⟩] ?_
   refine bY ?_
   refine iU (fun wc hG=>uO S.ws (.slice ph S.ws.length ch) (by
    rcases k1 with ⟨e1,e2⟩ | k1
    ·rw [e1,e2];exact o1.lie (fun e he=>hG.here e av1) au1
    ·exact k1.lie (fun e he=>hG.here e av1) au1) at7) ?_ ?_
   ·obtain ⟨a1,b1,o1⟩:=fE (e:=25) (xs:=S.ws.map uV) (x8 _) au1
    exact ⟨_,_,a1,b1,rfl,o1,aC.refl _⟩
   refine iU (fun wc hG=>rX M.ts (jc (hl:=M.hl) (ht:=M.ht) k2 hM.t (fun e he=>hG.here e au8) NG.2) NG.2 (fun t ht=>by have:=Z4 t ht;omega)) ?_ ?_
   ·obtain ⟨v,ha,hs,ts',o1,o2,o3⟩:=uS (ls:=M.ts.map dR.p) (by rw [List.length_map];exact NG.2)
    exact ⟨v,_,ha,hs,ts',o1,o2,o3,aC.refl _⟩
   refine gW ?_
   rintro lv7 Zr ⟨hl7,ht7,ts7,r2,r3,r4,BP⟩ _ hn6 ⟨wv7,hw7,rfl,r1,ai2⟩
   obtain ⟨pk7,ck7,xk7,ai5⟩:=r1.kN
   obtain ⟨pl7,cl7,xl7⟩:=r2.opened
   rw [List.length_map] at xk7 xl7 ai5
   subst xk7 xl7
   simp only [DN,List.cons_append,List.nil_append,List.append_nil]
   refine pW (b:=Mb) (tb:=24) (cs:=#[.slice qa wk.length ca]) (cs':=#[.slice pk7 S.ws.length ck7]) (hp':=⟨X2,(di S.r).toArray,30⟩::⟨N2,#[.slice ph S.ws.length ch],24⟩::⟨A,#[.slice qc wk.length cc],24⟩::⟨Rb,(di rk).toArray,30⟩::(Zr++(hn6++((M.hl++M.hs++(M.hw++M.ht))++[]++(hw++hl++ht)++(ha++hb2++ht2)++[⟨B,sS (.slice q1 ws.length c1) (.slice q2 ts.length c2) (.slice (some ⟨b3,y9,none⟩) ps.length c3) r cpu two,36⟩])))) ?_ (hput:=rfl) (hperm:=by (exact au))
   refine iM (b:=Rb) (tb:=30) (cs:=(di rk).toArray) (vs:=di S.r) (o6:=rfl) (di S.r).toArray (hp':=⟨Mb,#[.slice pk7 S.ws.length ck7],24⟩::⟨X2,(di S.r).toArray,30⟩::⟨N2,#[.slice ph S.ws.length ch],24⟩::⟨A,#[.slice qc wk.length cc],24⟩::(Zr++(hn6++((M.hl++M.hs++(M.hw++M.ht))++[]++(hw++hl++ht)++(ha++hb2++ht2)++[⟨B,sS (.slice q1 ws.length c1) (.slice q2 ts.length c2) (.slice (some ⟨b3,y9,none⟩) ps.length c3) r cpu two,36⟩])))) ?_ (hperm:=by (exact au))
   refine aG ?_
   refine cO ?_
   refine run ?_
   have ai6:∀ t∈ts7,t.es.length + t.ds.length≤3000:=fun t ht=>by
    have h1:t.p∈M.ts.map dR.p:=by rw [← r4];exact List.mem_map.2 ⟨t,ht,rfl⟩
    obtain ⟨t',h2,h3⟩:=List.mem_map.1 h1
    have h4:=Z4 t' h2
    have h5:t'.es=t.es∧t'.ds=t.ds:=by simpa [dR.p] using h3
    rw [h5.1,h5.2] at h4;omega
   have aq9:ts7.length=M.ts.length:=by simpa using congrArg List.length r4
   exact bI (⟨k + 1,S.ws,S.r,ts7,.slice pk7 S.ws.length ck7,hw7,.slice pl7 ts7.length cl7,hl7,ht7⟩:ExS) (hm:=by dsimp only;omega) ⟨by dsimp only;omega,Fv.uX,Fv.r,by dsimp only;omega,by dsimp only;omega,ai6,r1,r2,r3⟩ (h2:=by dsimp only;(refine bQ fun a=>?_;have:=aC.cnt ai2 a;have:=aC.cnt BP a;simp only [dV,bH,kG] at *;omega))
 ·refine run ?_
  refine ax (fun wc hG=>DI wc) ?_
  refine run ?_
  exact fin1 rfl
theorem BD {w:World} {wv lv pv:Value} {ws:List Nat} {ts:List dR} {ps:List BJ} {r:dB} {cpu:Int} {two:eu} (h:Fp w wv lv pv ws ts ps r):Fn Tryz.prog 3 [.agg (sS wv lv pv r cpu two)].toArray w [] (fun u _=>u=.bool true):=BC cpu two h
end
end Go.Proofs.YtndklbjnofdgeaaGreat
