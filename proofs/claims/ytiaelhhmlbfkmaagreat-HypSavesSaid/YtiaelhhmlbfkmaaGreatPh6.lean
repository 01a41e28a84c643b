/- Texts of one's own, merged: the engine, what the functions do, plain laws. -/
import Derived.Test.YtiaelhhmlbfkmaaGreatPh5
namespace Go.Proofs.YtiaelhhmlbfkmaaGreat
open Go.RowKit
set_option linter.unusedVariables false
set_option linter.unusedSimpArgs false
set_option maxRecDepth 20000
section
attribute [local irreducible] Hy St Ops DH dG je iI gJ DS gY mP
section
variable {L : HL} {H : HyD} {cpu : Nat} {c : wQ} {X : Nat} {pv gv ov : Value} {w : World} {p7 p8 p9 : Option Addr} {n7 n8 n9 k7 k8 k9 : Nat}
theorem Xd (h:yw L H) (hW:H.kL) (yz:cpu<H.cs.length) (hk:c.kind=8) (hvm:1≤c.vm∧c.vm≤4) (nP:0≤c.iy∧c.iy<((H.vu (c.vm - 1).toNat).vs.length:Int)) (hN:dD (L.hp X [pv,gv,ov] 119) w):
  Fn Tryz.prog 58 [.pointer (some ⟨X,0,none⟩),.int .i64 (cpu:Int),pY c,.agg #[.slice p7 n7 k7,.slice p8 n8 k8,.slice p9 n9 k9]].toArray w ((L.hp X [pv,gv,ov] 119).map (·.b)) (HR X [pv,gv,ov] 119 (H.Kz cpu c.vm c.iy)):=by
 obtain ⟨K_,n_,wR,o9,KG,pK⟩:=c;dsimp only at hk;subst hk;obtain ⟨wv,cv,vv,rv,cs,vs,hw,hc,ht,hvv,hz,hr⟩:=L;have h':=h;obtain ⟨PG,gw,IB,gt,Aj,gz,gr,ec,ev⟩:=h;dsimp only at gw IB gt Aj gz gr ec ev;have KX:cs.length=H.cs.length:=bj1;obtain ⟨gc,cc,iG,rfl,rfl,csz,pX,vI⟩:=IB.lY (k:=cpu) be5;generalize Io:cs.getD cpu default=cp at pX vI;have Xc:=pX 15 _ rfl;have yC:cpu<cs.length:=be5;have hc3:=hW.c3
 refine bU _ hN Tryz.func58 ?_
 simp only [HL.hp,HL.rest] at hN ⊢
 refine tJ (⟨X,#[wv,.slice (some ⟨gc,0,none⟩) cs.length cc,vv,rv,pv,gv,ov],119⟩::⟨gc,iG,84⟩::(hw++(ht++(hvv++(hz++hr))))) aj ?_
 refine run ?_
 intro Cb Ib
 refine az ?_
 refine gB ((⟨wv,.slice (some ⟨gc,0,none⟩) cs.length cc,vv,rv,cs,vs,hw,[⟨gc,iG,84⟩],ht,hvv,hz,hr⟩:HL).hp X [pv,gv,ov] 119) [⟨Ib,#[.slice p7 n7 k7,.slice p8 n8 k8,.slice p9 n9 k9],38⟩,⟨Cb,#[.int .i64 8,.int .i64 n_,.int .i64 wR,.int .i64 o9,.int .i64 KG,.int .i64 pK],63⟩] (fun wc hG=>am4 _ H h' cpu yz hW.r be5 ⟨8,n_,wR,o9,KG,pK⟩ ⟨hvm.1,by rw [hW.v];exact hvm.2⟩ (by rw [hW.v];decide) nP hG.fV) (fun v hn hR=>?_) bi9
 obtain ⟨rfl,L2,h2,hle⟩:=hR
 refine run ?_
 exact fin0 ⟨rfl,L2,h2,yu hle aj⟩
theorem KH (h:yw L H) (hW:H.kL) (yz:cpu<H.cs.length) (hk:c.kind=5) (hf:16≤c.frame∧c.frame + 5≤((H.ws.length / 8:Nat):Int)) {P P2:PtD} (hPn:P.Len) (ZG:P2.Len)
  (hP:∀ w' hp,Good w ((L.hp X [pv,gv,ov] 119).map (·.b)) hp w'→fD w' pv gv ov P) (hPo:∀ b o n k,gv=.slice (some ⟨b,o,none⟩) n k→b ∉ (L.hp X [pv,gv,ov] 119).map (·.b)) (hP2:∀ w' hp,Good w ((L.hp X [pv,gv,ov] 119).map (·.b)) hp w'→fD w' (.slice p7 n7 k7) (.slice p8 n8 k8) (.slice p9 n9 k9) P2) (KF:∀ b o n k,Value.slice p8 n8 k8=.slice (some ⟨b,o,none⟩) n k→b ∉ (L.hp X [pv,gv,ov] 119).map (·.b)) (hN:dD (L.hp X [pv,gv,ov] 119) w):
  Fn Tryz.prog 58 [.pointer (some ⟨X,0,none⟩),.int .i64 (cpu:Int),pY c,.agg #[.slice p7 n7 k7,.slice p8 n8 k8,.slice p9 n9 k9]].toArray w ((L.hp X [pv,gv,ov] 119).map (·.b)) (HR X [pv,gv,ov] 119 (H.vC c.frame (HyD.Sr P P2))):=by
 obtain ⟨K_,n_,wR,o9,KG,pK⟩:=c;dsimp only at hk;subst hk;obtain ⟨wv,cv,vv,rv,cs,vs,hw,hc,ht,hvv,hz,hr⟩:=L;have h':=h;obtain ⟨PG,gw,IB,gt,Aj,gz,gr,ec,ev⟩:=h;dsimp only at gw IB gt Aj gz gr ec ev;have KX:cs.length=H.cs.length:=bj1;obtain ⟨gc,cc,iG,rfl,rfl,csz,pX,vI⟩:=IB.lY (k:=cpu) be5;generalize Io:cs.getD cpu default=cp at pX vI;have Xc:=pX 15 _ rfl;have yC:cpu<cs.length:=be5;have hc3:=hW.c3
 refine bU _ hN Tryz.func58 ?_
 simp only [HL.hp,HL.rest] at hN ⊢
 refine tJ (⟨X,#[wv,.slice (some ⟨gc,0,none⟩) cs.length cc,vv,rv,pv,gv,ov],119⟩::⟨gc,iG,84⟩::(hw++(ht++(hvv++(hz++hr))))) aj ?_
 refine run ?_
 intro Cb Ib
 refine az ?_
 refine gB ((⟨wv,.slice (some ⟨gc,0,none⟩) cs.length cc,vv,rv,cs,vs,hw,[⟨gc,iG,84⟩],ht,hvv,hz,hr⟩:HL).hp X [pv,gv,ov] 119) [⟨Ib,#[.slice p7 n7 k7,.slice p8 n8 k8,.slice p9 n9 k9],38⟩,⟨Cb,#[.int .i64 5,.int .i64 n_,.int .i64 wR,.int .i64 o9,.int .i64 KG,.int .i64 pK],63⟩] (fun wc hG=>SG _ H h' hW ⟨5,n_,wR,o9,KG,pK⟩ hf hG.fV (hP wc _ hG) hPn hPo (hP2 wc _ hG) ZG KF) (fun v hn hR=>?_) bi9
 obtain ⟨rfl,L2,h2,hle⟩:=hR
 refine run ?_
 exact fin0 ⟨rfl,L2,h2,yu hle aj⟩
theorem KI (h:yw L H) (hW:H.kL) (yz:cpu<H.cs.length) (hk:c.kind=3) (hvm:1≤c.vm∧c.vm≤4) (hf:0≤c.frame∧c.frame<64) (hfs:0<(H.vu (c.vm - 1).toNat).fs.length) (hN:dD (L.hp X [pv,gv,ov] 119) w):
  Fn Tryz.prog 58 [.pointer (some ⟨X,0,none⟩),.int .i64 (cpu:Int),pY c,.agg #[.slice p7 n7 k7,.slice p8 n8 k8,.slice p9 n9 k9]].toArray w ((L.hp X [pv,gv,ov] 119).map (·.b)) (HR X [pv,gv,ov] 119 (H.yH c.vm c.frame c.mid)):=by
 obtain ⟨K_,n_,wR,o9,KG,pK⟩:=c;dsimp only at hk;subst hk;obtain ⟨wv,cv,vv,rv,cs,vs,hw,hc,ht,hvv,hz,hr⟩:=L;have h':=h;obtain ⟨PG,gw,IB,gt,Aj,gz,gr,ec,ev⟩:=h;dsimp only at gw IB gt Aj gz gr ec ev;have KX:cs.length=H.cs.length:=bj1;obtain ⟨gc,cc,iG,rfl,rfl,csz,pX,vI⟩:=IB.lY (k:=cpu) be5;generalize Io:cs.getD cpu default=cp at pX vI;have Xc:=pX 15 _ rfl;have yC:cpu<cs.length:=be5;have hc3:=hW.c3
 dsimp only at hvm hf hfs ⊢
 refine bU _ hN Tryz.func58 ?_
 simp only [HL.hp,HL.rest] at hN ⊢
 refine tJ (⟨X,#[wv,.slice (some ⟨gc,0,none⟩) cs.length cc,vv,rv,pv,gv,ov],119⟩::⟨gc,iG,84⟩::(hw++(ht++(hvv++(hz++hr))))) aj ?_
 refine run ?_
 intro Cb Ib
 refine az ?_
 refine drawM 7 [0,1,2,4,5] [3,6] [] ?_
 refine fU ?_
 refine jB (R:=fun u hn=>∃ C,u=.func (.func 218) [].toArray [.pointer (some ⟨C,0,none⟩)].toArray∧aC [⟨C,#[.int .i64 n_],3⟩] hn) (fun wc hG=>KC n_ wc) ⟨_,_,0,rfl,aC.refl _⟩ ?_
 refine Pv ?_
 refine jS ?_
 rintro _ _ ⟨Z,rfl,rfl⟩ _ hnC ⟨C,rfl,al7⟩
 refine iW ?_
 refine qU ?_
 simp only [List.cons_append,List.nil_append]
 refine aP (⟨Z,#[.int .i64 wR],3⟩::⟨C,#[.int .i64 n_],3⟩::⟨Ib,#[.slice p7 n7 k7,.slice p8 n8 k8,.slice p9 n9 k9],38⟩::⟨Cb,#[.int .i64 3,.int .i64 n_,.int .i64 wR,.int .i64 o9,.int .i64 KG,.int .i64 pK],63⟩::⟨X,#[wv,.slice (some ⟨gc,0,none⟩) cs.length cc,vv,rv,pv,gv,ov],119⟩::⟨gc,iG,84⟩::(hw++(ht++(hvv++(hz++hr))))) (cnt1 al7) ?_
 refine gB ((⟨wv,.slice (some ⟨gc,0,none⟩) cs.length cc,vv,rv,cs,vs,hw,[⟨gc,iG,84⟩],ht,hvv,hz,hr⟩:HL).hp X [pv,gv,ov] 119) (⟨Z,#[.int .i64 wR],3⟩::⟨C,#[.int .i64 n_],3⟩::⟨Ib,#[.slice p7 n7 k7,.slice p8 n8 k8,.slice p9 n9 k9],38⟩::[⟨Cb,#[.int .i64 3,.int .i64 n_,.int .i64 wR,.int .i64 o9,.int .i64 KG,.int .i64 pK],63⟩]) (fun wc hG=>PI _ H h' hW (F:=218) (us:=[.pointer (some ⟨C,0,none⟩)]) (fun _=>jF (1 + n_)) [wR] (fun f hf'=>by rw [List.mem_singleton.1 hf'];exact hf) (fun _ _=>EY be5 be5) (gV (xs:=[wR].map dA) (hG.here ⟨Z,#[.int .i64 wR],3⟩ be7) (fun c hc=>(D6 _ c hc).1) be7) (fun b o n k e hm=>?_) (fun f hf' w' hp hg=>?_) hG.fV) (fun v hn2 hR=>?_) bi9
 ·cases e
  exact hG.DU (e:=⟨Z,#[.int .i64 wR],3⟩) be7 hm
 ·exact FP C n_ f ⟨by omega,by omega⟩ w' ((hG.sV hg).cell1 (t:=3) be7)
 obtain ⟨rfl,L2,h2,hle2⟩:=hR
 refine aP (⟨Ib,#[.slice p7 n7 k7,.slice p8 n8 k8,.slice p9 n9 k9],38⟩::⟨Cb,#[.int .i64 3,.int .i64 n_,.int .i64 wR,.int .i64 o9,.int .i64 KG,.int .i64 pK],63⟩::(L2.hp X [pv,gv,ov] 119)) (cnt1 hle2) ?_
 refine run ?_
 refine drawM 8 [0,1,2,3,4,5,6,7] [] [] ?_
 refine fU ?_
 refine G6 (fun wc hx9 hG=>al6 wR wc) ?_
 refine fU ?_
 refine jS ?_
 refine iW ?_
 refine qU ?_
 simp only [List.cons_append,List.nil_append]
 have hW2:(H.hst wR.toNat (jF (1 + n_))).kL:=hW.hst _
 refine gB (L2.hp X [pv,gv,ov] 119) (⟨Ib,#[.slice p7 n7 k7,.slice p8 n8 k8,.slice p9 n9 k9],38⟩::[⟨Cb,#[.int .i64 3,.int .i64 n_,.int .i64 wR,.int .i64 o9,.int .i64 KG,.int .i64 pK],63⟩]) (fun wc hG=>SC L2 _ h2 hW2 n_ hvm hfs o9 (aU wR 0) hG.fV) (fun v hn3 hR=>?_) aJ
 obtain ⟨rfl,L3,h3,hle3⟩:=hR
 refine run ?_
 exact fin0 ⟨rfl,L3,h3,yu hle3 aj⟩
theorem SK (h:yw L H) (hW:H.kL) (yz:cpu<H.cs.length) (hk:c.kind=7) (hvm:1≤c.vm∧c.vm≤4) (hv1:(H.vu (c.vm - 1).toNat).vs.length<10000) (hN:dD (L.hp X [pv,gv,ov] 119) w):
  Fn Tryz.prog 58 [.pointer (some ⟨X,0,none⟩),.int .i64 (cpu:Int),pY c,.agg #[.slice p7 n7 k7,.slice p8 n8 k8,.slice p9 n9 k9]].toArray w ((L.hp X [pv,gv,ov] 119).map (·.b)) (HR X [pv,gv,ov] 119 (H.PD c.vm)):=by
 obtain ⟨K_,n_,wR,o9,KG,pK⟩:=c;dsimp only at hk;subst hk;obtain ⟨wv,cv,vv,rv,cs,vs,hw,hc,ht,hvv,hz,hr⟩:=L;have h':=h;obtain ⟨PG,gw,IB,gt,Aj,gz,gr,ec,ev⟩:=h;dsimp only at gw IB gt Aj gz gr ec ev;have KX:cs.length=H.cs.length:=bj1;obtain ⟨gc,cc,iG,rfl,rfl,csz,pX,vI⟩:=IB.lY (k:=cpu) be5;generalize Io:cs.getD cpu default=cp at pX vI;have Xc:=pX 15 _ rfl;have yC:cpu<cs.length:=be5;have hc3:=hW.c3
 dsimp only at hvm hv1 ⊢
 have evl:vs.length=4:=by rw [← hW.v,← ev,List.length_map]
 obtain ⟨i,hi⟩:∃ i,i=(n_ - 1).toNat:=⟨_,rfl⟩
 have hi4:i<vs.length:=by omega
 have hu:=Dy ev i
 rw [show H.vs.getD i default=H.vu i from rfl] at hu
 obtain ⟨g,cap,cur,rfl,rfl,hsz,sJ,hput⟩:=Aj.lY hi4
 obtain ⟨za,zb,⟨z1,z2,z3,o1,o2,o3,zl,hza⟩,hzz,qH⟩:=gz.out hi4
 rw [← hi,← hu] at hv1
 generalize SI:vs.getD i default=vm at hu sJ hput o1 o2 o3 zl qH hv1
 simp only [jH.u] at hv1
 obtain ⟨qv,cvv,ev3,aI9⟩:=o3.oq
 rw [List.length_map] at ev3 aI9
 have nv5:=sJ 5 _ rfl
 rw [ev3] at nv5
 have o3':=o3
 rw [ev3] at o3'
 refine bU _ hN Tryz.func58 ?_
 simp only [HL.hp,HL.rest] at hN ⊢
 refine tJ (⟨X,#[wv,.slice (some ⟨gc,0,none⟩) cs.length cc,.slice (some ⟨g,0,none⟩) vs.length cap,rv,pv,gv,ov],119⟩::⟨gc,iG,84⟩::⟨g,cur,111⟩::(z3++(z1++(z2++(zb++(hw++(ht++hr))))))) bf6 ?_
 refine run ?_
 intro Cb Ib
 refine az ?_
 refine zn 17 13 [0,1,2,3,4,5,6,7,8,9,10,11,14,15] [(12,false),(13,false),(16,false)] [⟨X,#[wv,.slice (some ⟨gc,0,none⟩) cs.length cc,.slice (some ⟨g,0,none⟩) vs.length cap,rv,pv,gv,ov],119⟩,⟨Cb,#[.int .i64 7,.int .i64 n_,.int .i64 wR,.int .i64 o9,.int .i64 KG,.int .i64 pK],63⟩] ?_
 refine jT ?_
 refine UT (fun wc hx9 hG=>KD (m:=vs.length) (uJ (tl:=[pv,gv,ov]) (hG.here ⟨X,#[wv,.slice (some ⟨gc,0,none⟩) cs.length cc,.slice (some ⟨g,0,none⟩) vs.length cap,rv,pv,gv,ov],119⟩ be7)) n_ be5 be5) ?_
 rw [← hi]
 refine jT ?_
 refine CP (fun wc hx9 hG=>KD (m:=vs.length) (uJ (tl:=[pv,gv,ov]) (hG.here ⟨X,#[wv,.slice (some ⟨gc,0,none⟩) cs.length cc,.slice (some ⟨g,0,none⟩) vs.length cap,rv,pv,gv,ov],119⟩ be7)) n_ be5 be5) ?_
 rw [← hi]
 refine jT ?_
 refine xC ?_
 refine CO [.int .u64 0,.int .u64 0,.int .u64 0,.int .u64 0,.int .u64 0,.int .u64 0,.int .u64 0,.int .u64 0,.int .u64 0,.int .u64 0,.int .u64 0,.int .u64 0,.int .u64 0,.int .u64 0,.int .u64 0,.int .i64 (-1)] (fun Z=>?_)
 refine dw ?_
 refine az0 (c:=[.int .u64 0,.int .u64 0,.int .u64 0,.int .u64 0,.int .u64 0,.int .u64 0,.int .u64 0,.int .u64 0,.int .u64 0,.int .u64 0,.int .u64 0,.int .u64 0,.int .u64 0,.int .u64 0,.int .u64 0,.int .i64 (-1)]) (hp':=⟨Z,([.int .u64 0,.int .u64 0,.int .u64 0,.int .u64 0,.int .u64 0,.int .u64 0,.int .u64 0,.int .u64 0,.int .u64 0,.int .u64 0,.int .u64 0,.int .u64 0,.int .u64 0,.int .u64 0,.int .u64 0,.int .i64 (-1)]:List Value).toArray,131⟩::⟨Ib,#[.slice p7 n7 k7,.slice p8 n8 k8,.slice p9 n9 k9],38⟩::⟨Cb,#[.int .i64 7,.int .i64 n_,.int .i64 wR,.int .i64 o9,.int .i64 KG,.int .i64 pK],63⟩::⟨X,#[wv,.slice (some ⟨gc,0,none⟩) cs.length cc,.slice (some ⟨g,0,none⟩) vs.length cap,rv,pv,gv,ov],119⟩::⟨gc,iG,84⟩::⟨g,cur,111⟩::(z1++(z2++(zb++(hw++(ht++hr)))))) o3' (bQ (m:=16) mh rfl) be9 aJ aj (fun v' ha' hA2=>?_)
 have hA3:Own 131 16 v' ha' ((vm.vs++([⟨dK,-1⟩]:List Iy)).map Fg):=by
  rw [List.map_append]
  exact hA2.own
 obtain ⟨q9,c9,e9⟩:=hA3.opened
 rw [List.length_map,List.length_append,List.length_singleton] at e9
 subst e9
 have hnew:=hput 5 [(.slice q9 (vm.vs.length + 1) c9)] { vm with vs:=vm.vs++([⟨dK,-1⟩]:List Iy),vp:=q9,vk:=c9 } be7 (by simp only [zO,jH.vv,List.length_append,List.length_singleton];rfl) ⟨rfl,rfl⟩
 refine xC ?_
 refine rq (v:=(.slice q9 (vm.vs.length + 1) c9)) ay (b:=g) (cs:=cur) (cs':=putAt cur (i * 6 + 5) [(.slice q9 (vm.vs.length + 1) c9)]) (tb:=111) (off:=i * 6 + 5) (vs:=[(.slice q9 (vm.vs.length + 1) c9)]) (hp':=ha'++(⟨Z,([.int .u64 0,.int .u64 0,.int .u64 0,.int .u64 0,.int .u64 0,.int .u64 0,.int .u64 0,.int .u64 0,.int .u64 0,.int .u64 0,.int .u64 0,.int .u64 0,.int .u64 0,.int .u64 0,.int .u64 0,.int .i64 (-1)]:List Value).toArray,131⟩::⟨Ib,#[.slice p7 n7 k7,.slice p8 n8 k8,.slice p9 n9 k9],38⟩::⟨Cb,#[.int .i64 7,.int .i64 n_,.int .i64 wR,.int .i64 o9,.int .i64 KG,.int .i64 pK],63⟩::⟨X,#[wv,.slice (some ⟨gc,0,none⟩) cs.length cc,.slice (some ⟨g,0,none⟩) vs.length cap,rv,pv,gv,ov],119⟩::⟨gc,iG,84⟩::(z1++(z2++(zb++(hw++(ht++hr))))))) rfl rfl rfl rfl rfl rfl aJ rfl (by show i * 6 + 5 + 1≤_;omega) rfl aj ?_
 refine dw ?_
 refine QZ ?_
 refine lg ?_
 refine run ?_
 have hmore:H.PD n_=⟨H.ws,H.cs,H.vs.set i ⟨vm.live,vm.dying,vm.aO,vm.fs,vm.fr,vm.vs++([⟨dK,-1⟩]:List Iy)⟩,H.rs⟩:=by
  unfold HyD.PD HyD.WR
  rw [← hi,← hu]
  rfl
 rw [hmore]
 refine fin0 ⟨rfl,⟨wv,.slice (some ⟨gc,0,none⟩) cs.length cc,.slice (some ⟨g,0,none⟩) vs.length cap,rv,cs,vs.set i { vm with vs:=vm.vs++([⟨dK,-1⟩]:List Iy),vp:=q9,vk:=c9 },hw,[⟨gc,iG,84⟩],ht,[⟨g,_,111⟩],(z1++(z2++ha'))++zb,hr⟩,⟨PG,gw,IB,gt,hnew,qH _ _ ⟨z1,z2,ha',o1,o2,?_,⟨zl.1,zl.2.1,?_⟩,aC.refl _⟩,gr,ec,?_⟩,?_⟩
 ·simp only [jH.vv,List.length_append,List.length_singleton]
  exact hA3
 ·rw [List.length_append,List.length_singleton]
  omega
 ·dsimp only
  rw [List.map_set,ev];rfl
 ·simp only [HL.hp,HL.rest]
  (exact aj)
end
end
section
attribute [local irreducible] Hy St Ops DH dG
section
variable {P : PtD} {Y : Lay} {bx tx : Nat} {w : World} {pv gv ov : Value}
structure Xe (K:Int):Prop where
 k1:decide (K=1)=false
 k2:decide (K=2)=false
 k3:decide (K=3)=false
 k4:decide (K=4)=false
 k5:decide (K=5)=false
 k6:decide (K=6)=false
 k7:decide (K=7)=false
 k8:decide (K=8)=false
 k9:decide (K=9)=false
 k10:decide (K=10)=false
 k11:decide (K=11)=false
theorem Ip (h:bJ P Y) (hN:dD (Y.hd P bx 158) w) {K:Int} (hK:Xe K) (vm fr mid vc cc cpu:Int):Fn Tryz.prog 113 [.pointer (some ⟨bx,0,none⟩),.int .i64 cpu,pY ⟨K,vm,fr,mid,vc,cc⟩].toArray w ((Y.hd P bx 158).map (·.b)) (dR bx 158 (.error 9)):=by
 refine bU _ hN Tryz.func113 ?_
 refine run ?_
 intro C
 refine run ?_
 refine ah _ rfl (fun hp=>by rw [hK.k1] at hp;cases hp) (fun _=>?_)
 refine run ?_
 refine ah _ rfl (fun hp=>by rw [hK.k2] at hp;cases hp) (fun _=>?_)
 refine run ?_
 refine ah _ rfl (fun hp=>by rw [hK.k3] at hp;cases hp) (fun _=>?_)
 refine run ?_
 refine ah _ rfl (fun hp=>by rw [hK.k4] at hp;cases hp) (fun _=>?_)
 refine run ?_
 refine ah _ rfl (fun hp=>by rw [hK.k5] at hp;cases hp) (fun _=>?_)
 refine run ?_
 refine ah _ rfl (fun hp=>by rw [hK.k6] at hp;cases hp) (fun _=>?_)
 refine run ?_
 refine ah _ rfl (fun hp=>by rw [hK.k7] at hp;cases hp) (fun _=>?_)
 refine run ?_
 refine ah _ rfl (fun hp=>by rw [hK.k8] at hp;cases hp) (fun _=>?_)
 refine run ?_
 refine fin1 ?_
 rfl
end
end
section
attribute [local irreducible] Hy St Ops DH dG
theorem Own.setRow {e:Nat} {v:Value} {h:Hp} {xs:List jv} (hA:Own e 2 v h (xs.map dS)) {k:Nat} (hk:k<xs.length):∃ g cap cur,v=.slice (some ⟨g,0,none⟩) xs.length cap∧h=[⟨g,cur,e⟩]∧k * 2 + 2≤cur.size ∧
  ∀ z:jv,Own e 2 v [⟨g,putAt cur (k * 2) (dS z),e⟩] ((xs.set k z).map dS):=by
 obtain ⟨g,cap,cur,rfl,rfl,hr⟩:=hA.row (n:=xs.length) be7 be5
 have hall:∀ c∈xs.map dS,c.length=2:=fun c hc=>(lG c hc).1
 have hi:(xs.map dS)[k]?=some (dS (xs.getD k default)):=by
  rw [List.getElem?_map,List.getD_eq_getElem?_getD,List.getElem?_eq_getElem hk];rfl
 have hsz:=hr.size
 have hle:=hr.le
 refine ⟨g,cap,cur,rfl,rfl,by omega,fun z=>⟨lG,.inr ⟨g,cap,_,by simp,rfl,?_⟩⟩⟩
 have h2:=hr.put hall hi (k:=0) (vs:=dS z) (by simp [dS])
 have e2:((xs.set k z).map dS).length=xs.length:=by simp
 rw [e2,List.map_set]
 exact h2
section
variable {P : PtD} {Y : Lay} {w : World}
end
end
section
attribute [local irreducible] Hy St Ops DH dG
namespace PtD
def FT (r:Except Int PtD):Prop:=∀ e,r=.error e→e ≠ 0
theorem am8 {e:Int} (h:e ≠ 0):FT (.error e):=fun _ h2=>by cases h2;exact h
theorem ZJ {b:Bool} {x y:Except Int PtD} (h1:FT x) (h2:FT y):FT (bif b then x else y):=by cases b<;>assumption
theorem az7 {Q:PtD}:FT (.ok Q):=fun _ h=>by cases h
theorem am9 (P:PtD) (cpu:Nat) (c:wQ):FT (P.Sm cpu c):=by
 unfold Sm WQ NW rO lI oK nD pJ o7 moreL Ij vS yB
 repeat' first
  | exact am8 be6
  | exact az7
  | refine ZJ ?_ ?_
end PtD
theorem SN {P:PtD} {w:World} {pv gv ov:Value} (h:fD w pv gv ov P) (hs:P.Small 1000) (cpu:Nat) (hc:cpu<P.on.length) (c:wQ) (hw:c.Wf):
  Fn Tryz.prog 56 [.agg #[pv,gv,ov],.int .i64 (cpu:Int),pY c].toArray w [] (DoR (bif P.may then P.Sm cpu c else .error 1)):=by
 refine Wq h hs cpu hc c _ (PtD.am9 P cpu c) (fun hm hv Y bx w hO hN=>?_) (fun hm hv Y bx w hO hN=>?_)
 ·obtain ⟨K,vm,fr,mid,vc,cc⟩:=c
  rw [PtD.Sm,show decide ((P.st cpu).vm=0)=true by simp [hv],cond_true,PtD.WQ]
  dsimp only
  rcases Classical.em (K=1) with rfl | h1
  ·exact Ah hO hm hN cpu vm fr mid vc cc hw
  rcases Classical.em (K=2) with rfl | h2
  ·exact yD hO hm hN cpu vm fr mid vc cc hw
  rcases Classical.em (K=3) with rfl | h3
  ·exact zA hO hm hN cpu vm fr mid vc cc hw
  rcases Classical.em (K=4) with rfl | h4
  ·exact yA hO hm hN cpu vm fr mid vc cc hw
  rcases Classical.em (K=5) with rfl | h5
  ·exact zB hO hm hN cpu vm fr mid vc cc hw
  rcases Classical.em (K=6) with rfl | h6
  ·exact yE hO hm hN cpu vm fr mid vc cc hw
  rcases Classical.em (K=7) with rfl | h7
  ·exact DR hO hN cpu vm fr mid vc cc
  rcases Classical.em (K=8) with rfl | h8
  ·exact EE hO hN cpu hc vm fr mid vc cc hw
  rw [decide_eq_false h1,decide_eq_false h2,decide_eq_false h3,decide_eq_false h4,decide_eq_false h5,decide_eq_false h6,decide_eq_false h7,decide_eq_false h8]
  simp only [cond_false]
  rcases Classical.em (K=9) with rfl | h9
  ·exact pW hO hN (.inl rfl) vm fr mid vc cc cpu
  rcases Classical.em (K=10) with rfl | h10
  ·exact pW hO hN (.inr (.inl rfl)) vm fr mid vc cc cpu
  rcases Classical.em (K=11) with rfl | h11
  ·exact pW hO hN (.inr (.inr rfl)) vm fr mid vc cc cpu
  have hK:Xe K:=⟨by simp [h1],by simp [h2],by simp [h3],by simp [h4],by simp [h5],by simp [h6],by simp [h7],by simp [h8],by simp [h9],by simp [h10],by simp [h11]⟩
  exact Ip hO hN hK vm fr mid vc cc cpu
 ·obtain ⟨K,vm,fr,mid,vc,cc⟩:=c
  rw [PtD.Sm,show decide ((P.st cpu).vm=0)=false by simp [hv],cond_false,PtD.NW]
  dsimp only
  rcases Classical.em (K=10) with rfl | h10
  ·exact Af hO hm hN vm fr mid vc cc cpu hc hv
  rcases Classical.em (K=11) with rfl | h11
  ·exact Ag hO hm hN vm fr mid vc cc cpu hc hv
  rcases Classical.em (K=9) with rfl | h9
  ·exact Ae hO hm hN vm fr mid vc cc cpu hc hv
  rw [decide_eq_false h10,decide_eq_false h11,decide_eq_false h9]
  simp only [cond_false]
  exact DT hO hN K vm fr mid vc cc cpu hc (decide_eq_false h10) (decide_eq_false h11) (decide_eq_false h9)
end
section
attribute [local irreducible] Hy St Ops DH dG je iI gJ DS gY mP
theorem KJ {w0 wc:World} {mu:List Nat} {hi rest hn:Hp} (hG:Good w0 mu (hi++rest) wc) (hs:∀ e∈hn,e∈rest) {pv gv ov:Value} {P:PtD} (hP:∀ w,Here hn w→fD w pv gv ov P) (h0:0<P.aA.length):∀ b o n k,gv=.slice (some ⟨b,o,none⟩) n k→b ∉ hi.map (·.b):=by
 intro b o n k e hm
 subst e
 obtain ⟨x,hx,rfl⟩:=List.mem_map.1 hm
 obtain ⟨A,B,rfl⟩:=List.append_of_mem hx
 have jh:(x::(A++B++rest)).Perm (A++x::B++rest):=by
  rw [← List.cons_append]
  exact (List.perm_middle (l₁:=A) (l₂:=B)).symm.append_right rest
 have hG2:=hG.perm jh
 have hG3:=hG2.row #[]
 have hH:Here hn (wc.setRow x.b #[]):=fun e he=>hG3.here e (List.mem_cons_of_mem _ (List.mem_append_right _ (hs e he)))
 obtain ⟨_,⟨vv,mv,hg,_⟩,_,_⟩:=hP _ hH
 have hr:=(aF.aH8 hg (i:=0) (by rw [List.getElem?_map,List.getElem?_range h0];rfl))
 have hc:=au hr
 rw [cell_of_block (hG3.here _ (List.mem_cons_self ..))] at hc
 simp at hc
def zV (H:HyD) (u:Value) (hn:Hp):Prop:=∃ L:HL,u=.tuple #[.agg #[L.wv,L.cv,L.vv,L.rv],.int .i64 0]∧yw L H∧aC L.rest hn
theorem BD {w:World} {wv cv vv rv:Value} {H:HyD} (h:MX w wv cv vv rv H) (hok:H.ok=true) (cpu:Nat) (yz:cpu<H.cs.length) (c:wQ) (hw:c.Wf) {P2:PtD} (hd:H.aQ.Sm cpu c=.ok P2) (hs:H.aQ.Small 1000) {H2:HyD}
  (hdo:∀ (L:HL) (X:Nat) (p4 p5 p6 p7 p8 p9:Option Addr) (n4 n5 n6 n7 n8 n9 k4 k5 k6 k7 k8 k9:Nat) (w:World),yw L H→dD (L.hp X [.slice p4 n4 k4,.slice p5 n5 k5,.slice p6 n6 k6] 119) w →
   (∀ w' hp,Good w ((L.hp X [.slice p4 n4 k4,.slice p5 n5 k5,.slice p6 n6 k6] 119).map (·.b)) hp w'→fD w' (.slice p4 n4 k4) (.slice p5 n5 k5) (.slice p6 n6 k6) H.aQ)→(∀ b o n k,Value.slice p5 n5 k5=.slice (some ⟨b,o,none⟩) n k→b ∉ (L.hp X [.slice p4 n4 k4,.slice p5 n5 k5,.slice p6 n6 k6] 119).map (·.b)) →
   (∀ w' hp,Good w ((L.hp X [.slice p4 n4 k4,.slice p5 n5 k5,.slice p6 n6 k6] 119).map (·.b)) hp w'→fD w' (.slice p7 n7 k7) (.slice p8 n8 k8) (.slice p9 n9 k9) P2)→(∀ b o n k,Value.slice p8 n8 k8=.slice (some ⟨b,o,none⟩) n k→b ∉ (L.hp X [.slice p4 n4 k4,.slice p5 n5 k5,.slice p6 n6 k6] 119).map (·.b)) →
   Fn Tryz.prog 58 [.pointer (some ⟨X,0,none⟩),.int .i64 (cpu:Int),pY c,.agg #[.slice p7 n7 k7,.slice p8 n8 k8,.slice p9 n9 k9]].toArray w ((L.hp X [.slice p4 n4 k4,.slice p5 n5 k5,.slice p6 n6 k6] 119).map (·.b)) (HR X [.slice p4 n4 k4,.slice p5 n5 k5,.slice p6 n6 k6] 119 H2)):
  Fn Tryz.prog 26 [.agg #[wv,cv,vv,rv],.int .i64 (cpu:Int),pY c].toArray w [] (zV H2):=by
 have h':=h
 have hL:JU H:=nN (by simp only [HyD.ok,Bool.and_eq_true] at hok;exact hok.1.1.1)
 have hlook:H.kK=true:=by simp only [HyD.ok,Bool.and_eq_true] at hok;exact hok.1.1.1
 have hmay:H.aQ.may=true:=by simp only [HyD.ok,Bool.and_eq_true] at hok;exact hok.1.1.2.1.1
 have Au:=dh hL.m
 have hc1:=hL.c1
 have hc3:=hL.c3
 have hv4:=hL.v
 obtain ⟨cs,vs,e1,e2,_,hH⟩:=h.ex
 have hcl:cs.length=H.cs.length:=by rw [← e1,List.length_map]
 obtain ⟨q,cap,rfl,hne,_⟩:=hH.ws.opened
 obtain ⟨q2,cap2,rfl,hne2,_⟩:=hH.cs.rows.opened
 obtain ⟨q3,cap3,rfl,DC,_⟩:=hH.vs.rows.opened
 obtain ⟨q4,cap4,rfl,NC,_⟩:=hH.rs.opened
 refine enter Tryz.func26 ?_
 refine run ?_
 intro Hb Cb Rb
 refine run ?_
 refine ak (fun wc hG=>zT (h'.good hG)) ?_
 rw [hok]
 refine az ?_
 refine ah _ rfl (fun hc=>absurd hc bf2) (fun hc=>?_)
 refine az ?_
 refine dJ (fun wc hG=>ND (h'.good hG)) ?_
 intro u hn hu
 unfold Bz at hu
 rw [hlook] at hu
 obtain ⟨p4,p5,p6,k4,k5,k6,n4,n5,n6,rfl,hPw⟩:=hu
 refine az ?_
 intro Wb
 have hon:H.aQ.on.length=H.cs.length:=by unfold HyD.aQ;dsimp only;rw [List.length_map]
 refine dJ (fun wc hG=>SN (hPw wc (fun e he=>hG.here e bf8)) hs cpu (by rw [hon];exact yz) c hw) ?_
 rw [hmay,cond_true,hd]
 rintro _ hn2 ⟨Y,rfl,hO,hle⟩
 refine aP (⟨Wb,#[.slice p4 n4 k4,.slice p5 n5 k5,.slice p6 n6 k6],38⟩::(Y.in++(hn++[⟨Rb,#[.slice none 0 0,.slice none 0 0,.slice none 0 0,.slice none 0 0],29⟩,⟨Cb,#[.int .i64 c.kind,.int .i64 c.vm,.int .i64 c.frame,.int .i64 c.mid,.int .i64 c.iy,.int .i64 c.l9],63⟩,⟨Hb,#[.slice q H.ws.length cap,.slice q2 cs.length cap2,.slice q3 vs.length cap3,.slice q4 H.rs.length cap4],29⟩]))) (cnt1 hle) ?_
 refine az ?_
 intro Vb
 refine dJ (fun wc hG=>FQ (h'.good hG) be5 be5 be5 p4 p5 p6 n4 n5 n6 k4 k5 k6) ?_
 rintro _ hn3 ⟨X,L,rfl,hL3,hle3⟩
 refine aP (⟨Rb,#[.slice none 0 0,.slice none 0 0,.slice none 0 0,.slice none 0 0],29⟩::⟨Vb,#[Y.pv P2,Y.gv P2,Y.ov P2],38⟩::⟨Cb,#[.int .i64 c.kind,.int .i64 c.vm,.int .i64 c.frame,.int .i64 c.mid,.int .i64 c.iy,.int .i64 c.l9],63⟩::(Y.in++(hn++(L.hp X [.slice p4 n4 k4,.slice p5 n5 k5,.slice p6 n6 k6] 119)))) (cnt1 hle3) ?_
 refine az ?_
 have hIs:∀ w',Here Y.in w'→fD w' (Y.pv P2) (Y.gv P2) (Y.ov P2) P2:=fun w' hh=>hO.ax5 hh
 have hg4:H.aQ.aA.length=4:=by unfold HyD.aQ;simp
 have aX3:P2.aA.length=4:=hO.n.g4
 refine gB (L.hp X [.slice p4 n4 k4,.slice p5 n5 k5,.slice p6 n6 k6] 119) (⟨Rb,#[.slice none 0 0,.slice none 0 0,.slice none 0 0,.slice none 0 0],29⟩::⟨Vb,#[Y.pv P2,Y.gv P2,Y.ov P2],38⟩::⟨Cb,#[.int .i64 c.kind,.int .i64 c.vm,.int .i64 c.frame,.int .i64 c.mid,.int .i64 c.iy,.int .i64 c.l9],63⟩::(Y.in++hn)) (fun wc hG=>hdo L X p4 p5 p6 (some ⟨Y.pb,0,none⟩) (some ⟨Y.gb,0,none⟩) (some ⟨Y.ob,0,none⟩) n4 n5 n6 P2.pages.length P2.aA.length P2.on.length k4 k5 k6 Y.ED Y.Ic Y.Ie wc hL3 hG.fV
  (fun w' hp hg=>hPw w' (fun e he=>(hG.sV hg).here e bf8)) (KJ hG (fun e he=>by simp [he]) hPw be5) (fun w' hp hg=>hIs w' (fun e he=>(hG.sV hg).here e (by simp only [List.mem_append,List.mem_cons,he,true_or,or_true]))) (KJ hG (fun e he=>by simp only [List.mem_append,List.mem_cons,he,true_or,or_true]) hIs be5)) (fun v hn4 hR=>?_) aJ
 obtain ⟨rfl,L2,h2,En⟩:=hR
 obtain ⟨wv2,XE,vv2,rv2,cs2,vs2,hw2,hc2,ht2,hv2,hz2,hr2⟩:=L2
 obtain ⟨y1,y2,y3⟩:=h2.w.opened
 obtain ⟨y4,y5,y6⟩:=h2.c.opened
 obtain ⟨y7,y8,y9⟩:=h2.v.opened
 obtain ⟨y10,y11,y12⟩:=h2.r.opened
 dsimp only at y3 y6 y9 y12
 subst y3 y6 y9 y12
 simp only [HL.hp,HL.rest] at En
 refine aP (⟨Rb,#[.slice none 0 0,.slice none 0 0,.slice none 0 0,.slice none 0 0],29⟩::⟨X,#[.slice y1 (List.map uV H2.ws).length y2,.slice y4 (List.map QT cs2).length y5,.slice y7 (List.map zO vs2).length y8,.slice y10 (List.map nT H2.rs).length y11,.slice p4 n4 k4,.slice p5 n5 k5,.slice p6 n6 k6],119⟩::(hw2++(hc2++(ht2++(hv2++(hz2++hr2)))))) (cnt1 En) ?_
 refine az ?_
 refine jl ?_
 exact ⟨_,rfl,h2,by simp only [HL.rest];(exact aj)⟩
theorem SQ {w:World} {wv cv vv rv:Value} {H:HyD} (h:MX w wv cv vv rv H) (hok:H.ok=true) (cpu:Nat) (yz:cpu<H.cs.length) (hvm:1≤(H.cu cpu).vm∧(H.cu cpu).vm≤4) (nP:0≤(H.cu cpu).vc∧(H.cu cpu).vc<((H.vu ((H.cu cpu).vm - 1).toNat).vs.length:Int)):
  Fn Tryz.prog 32 [.agg #[wv,cv,vv,rv],.int .i64 (cpu:Int)].toArray w [] (zV (H.yG cpu)):=by
 have h':=h
 have hL:JU H:=nN (by simp only [HyD.ok,Bool.and_eq_true] at hok;exact hok.1.1.1)
 have Au:=dh hL.m
 have hc1:=hL.c1
 have hc3:=hL.c3
 have hv4:=hL.v
 obtain ⟨cs,vs,e1,e2,_,hH⟩:=h.ex
 have hcl:cs.length=H.cs.length:=by rw [← e1,List.length_map]
 obtain ⟨q,cap,rfl,hne,_⟩:=hH.ws.opened
 obtain ⟨q2,cap2,rfl,hne2,_⟩:=hH.cs.rows.opened
 obtain ⟨b2,o2,rfl⟩:=hne2 bi5
 obtain ⟨q3,cap3,rfl,DC,_⟩:=hH.vs.rows.opened
 obtain ⟨q4,cap4,rfl,NC,_⟩:=hH.rs.opened
 have aJ1:cpu<cs.length:=by omega
 have hr:=hH.cs.rows.row aJ1
 have huc:=yj e1 cpu
 rw [show H.cs.getD cpu default=H.cu cpu from rfl] at huc
 have aJ2:=au (bg (k:=15) (n:=1) hr rfl)
 rw [show (cs.getD cpu default).vm=(H.cu cpu).vm by rw [← huc];rfl] at aJ2
 refine enter Tryz.func32 ?_
 refine run ?_
 intro Hb Rb
 refine run ?_
 refine ak (fun wc hG=>zT (h'.good hG)) ?_
 rw [hok]
 refine az ?_
 refine ah _ rfl (fun hc=>absurd hc bf2) (fun hc=>?_)
 refine az ?_
 refine ah _ rfl (fun hc=>absurd hc bf2) (fun hc=>?_)
 refine az ?_
 refine dJ (fun wc hG=>FQ (h'.good hG) be5 be5 be5 none none none 0 0 0 0 0 0) ?_
 rintro _ hn3 ⟨X,L,rfl,hL3,hle3⟩
 refine aP (⟨Rb,#[.slice none 0 0,.slice none 0 0,.slice none 0 0,.slice none 0 0],29⟩::(L.hp X [.slice none 0 0,.slice none 0 0,.slice none 0 0] 119)) (cnt1 hle3) ?_
 refine az ?_
 refine gB (L.hp X [.slice none 0 0,.slice none 0 0,.slice none 0 0] 119) [⟨Rb,#[.slice none 0 0,.slice none 0 0,.slice none 0 0,.slice none 0 0],29⟩] (fun wc hG=>ZI L H hL3 cpu yz hL.r be5 (by rw [hv4];exact hvm) be5 nP hG.fV) (fun v hn4 hR=>?_) aJ
 obtain ⟨rfl,L2,h2,En⟩:=hR
 obtain ⟨wv2,XE,vv2,rv2,cs2,vs2,hw2,hc2,ht2,hv2,hz2,hr2⟩:=L2
 obtain ⟨y1,y2,y3⟩:=h2.w.opened
 obtain ⟨y4,y5,y6⟩:=h2.c.opened
 obtain ⟨y7,y8,y9⟩:=h2.v.opened
 obtain ⟨y10,y11,y12⟩:=h2.r.opened
 dsimp only at y3 y6 y9 y12
 subst y3 y6 y9 y12
 simp only [HL.hp,HL.rest] at En
 refine aP (⟨Rb,#[.slice none 0 0,.slice none 0 0,.slice none 0 0,.slice none 0 0],29⟩::⟨X,#[.slice y1 (List.map uV (H.yG cpu).ws).length y2,.slice y4 (List.map QT cs2).length y5,.slice y7 (List.map zO vs2).length y8,.slice y10 (List.map nT (H.yG cpu).rs).length y11,.slice none 0 0,.slice none 0 0,.slice none 0 0],119⟩::(hw2++(hc2++(ht2++(hv2++(hz2++hr2)))))) (cnt1 En) ?_
 refine az ?_
 refine jl ?_
 exact ⟨_,rfl,h2,by simp only [HL.rest];(exact aj)⟩
end
def iD (F C:Nat):HyD:=⟨dI (F * 8) (qA F 64),List.replicate C ⟨dK,0,0,[],[]⟩,List.replicate 4 ⟨false,false,0,[],[],[]⟩,List.replicate C dK⟩
def okE (r:Except Int PtD):Bool:=match r with | .ok _=>true | .error _=>false
def PO (r:Except Int PtD):PtD:=match r with | .ok P=>P | .error _=>⟨[],[],[]⟩
theorem Iq {r:Except Int PtD} (h:okE r=true):r=.ok (PO r):=by
 cases r with
 | ok P=>rfl
 | error e=>cases h
def jr (C:Nat):HyD:=(iD 32 C).vC 16 0
def jQ:HyD:=(jr 2).PD 1
def D8 (cpu:Nat):HyD:=jQ.Kz cpu 1 0
theorem Xf:(iD 32 1).ok=true:=by decide +kernel
theorem Xg:(iD 32 2).ok=true:=by decide +kernel
theorem SS:(jr 1).ok=true:=by decide +kernel
theorem SV:(jr 2).ok=true:=by decide +kernel
theorem Xh:jQ.ok=true:=by decide +kernel
theorem SX:(D8 0).ok=true:=by decide +kernel
theorem SY:(D8 1).ok=true:=by decide +kernel
theorem aJ3:∀ C,C<3→0<C→okE ((iD 32 C).aQ.Sm 0 ⟨5,0,16,0,0,0⟩)=true∧HyD.Sr (iD 32 C).aQ (PO ((iD 32 C).aQ.Sm 0 ⟨5,0,16,0,0,0⟩))=0:=by decide +kernel
theorem aJ4:okE ((jr 2).aQ.Sm 0 ⟨7,1,0,0,0,0⟩)=true:=by decide +kernel
theorem aJ5:∀ cpu,cpu<2→okE (jQ.aQ.Sm cpu ⟨8,1,0,0,0,0⟩)=true:=by decide +kernel
theorem aJ6:okE ((jr 1).aQ.Sm 0 ⟨3,1,25,3,0,0⟩)=true:=by decide +kernel
theorem PR:∀ C,C<3→(jr C).cs.length=C∧(jr C).vs.length=4:=by decide +kernel
theorem Xi:((jr 1).yH 1 25 3).cs.length=1∧((jr 1).yH 1 25 3).vs.length=4∧(((jr 1).yH 1 25 3).vu 0).live=true:=by decide +kernel
def dead:qK:=⟨false,false,0,[],[],[]⟩
def uK (a b s:pU):HyD:=⟨jQ.ws,[⟨a,0,0,[],[]⟩,⟨b,0,0,[],[]⟩],[⟨true,false,1,[16,17,18,19,20],[17,18,19,20],[⟨s,-1⟩]⟩,dead,dead,dead],[dK,dK]⟩
def Ar:Nat→pU→pU→pU→HyD
 | 0,a,b,t=>⟨jQ.ws,[⟨t,1,0,[],[]⟩,⟨b,0,0,[],[]⟩],[⟨true,false,1,[16,17,18,19,20],[17,18,19,20],[⟨dK,0⟩]⟩,dead,dead,dead],[a,dK]⟩
 | _,a,b,t=>⟨jQ.ws,[⟨a,0,0,[],[]⟩,⟨t,1,0,[],[]⟩],[⟨true,false,1,[16,17,18,19,20],[17,18,19,20],[⟨dK,1⟩]⟩,dead,dead,dead],[dK,b]⟩
theorem Xj:jQ.cs=[⟨dK,0,0,[],[]⟩,⟨dK,0,0,[],[]⟩]:=by rfl
theorem Xk:jQ.vs=[⟨true,false,1,[16,17,18,19,20],[17,18,19,20],[⟨dK,-1⟩]⟩,dead,dead,dead]:=by rfl
theorem Xl:jQ.rs=[dK,dK]:=by rfl
theorem yJ:jQ=uK dK dK dK:=by
 have:∀ H:HyD,H=⟨H.ws,H.cs,H.vs,H.rs⟩:=fun H=>rfl
 rw [this jQ,Xj,Xk,Xl]
 rfl
theorem D9 (a b s:pU):(uK a b s).bare=jQ:=by rw [yJ];rfl
theorem Xm (cpu:Nat) (h:cpu<2):D8 cpu=Ar cpu dK dK dK:=by
 match cpu,h with
 | 0,_=>unfold D8;rw [yJ];rfl
 | 1,_=>unfold D8;rw [yJ];rfl
theorem KL (cpu:Nat) (h:cpu<2) (a b t:pU):(Ar cpu a b t).bare=D8 cpu:=by
 rw [Xm cpu h]
 match cpu,h with
 | 0,_=>rfl
 | 1,_=>rfl
theorem PS (a b s:pU):(uK a b s).aQ=jQ.aQ:=by
 rw [← D9 a b s]
 exact ((uK a b s).zu).symm
theorem ac7 (a b s:pU):(uK a b s).ok=true:=by
 refine HyD.Po (by rw [D9];exact Xh) (fun i hi=>?_) (fun c hc=>?_)
 ·match i,hi with
  | 0,_=>rfl
  | 1,_=>rfl
  | 2,_=>rfl
  | 3,_=>rfl
 ·match c,hc with
  | 0,_=>exact (by decide:(!decide ((0:Int)=0) || decide (dK=dK))=true)
  | 1,_=>exact (by decide:(!decide ((0:Int)=0) || decide (dK=dK))=true)
theorem an0 (cpu:Nat) (h:cpu<2) (a b t:pU):(Ar cpu a b t).ok=true:=by
 refine HyD.Po (by rw [KL cpu h];match cpu,h with | 0,_=>exact SX | 1,_=>exact SY) (fun i hi=>?_) (fun c hc=>?_)
 ·match cpu,h,i,hi with
  | 0,_,0,_=>exact (by decide:(true && true)=true)
  | 0,_,1,_=>rfl
  | 0,_,2,_=>rfl
  | 0,_,3,_=>rfl
  | 1,_,0,_=>exact (by decide:(true && true)=true)
  | 1,_,1,_=>rfl
  | 1,_,2,_=>rfl
  | 1,_,3,_=>rfl
 ·match cpu,h,c,hc with
  | 0,_,0,_=>rfl
  | 0,_,1,_=>exact (by decide:(!decide ((0:Int)=0) || decide (dK=dK))=true)
  | 1,_,0,_=>exact (by decide:(!decide ((0:Int)=0) || decide (dK=dK))=true)
  | 1,_,1,_=>rfl
theorem ZK (a b s:pU):(uK a b s).Kz 0 1 0=Ar 0 a b s:=rfl
theorem ZL (a b s:pU):(uK a b s).Kz 1 1 0=Ar 1 a b s:=rfl
theorem Xn (a b t:pU):(Ar 0 a b t).yG 0=uK a b t:=rfl
theorem Xo (a b t:pU):(Ar 1 a b t).yG 1=uK a b t:=rfl
section
attribute [local irreducible] Hy St Ops DH dG je iI gJ DS gY mP
theorem KN (F C:Nat) (hF1:24≤F) (hF:F≤64) (hC1:1≤C) (hC:C≤3) (w:World):Fn Tryz.prog 15 [.int .i64 (F:Int),.int .i64 (C:Int)].toArray w [] (fun u hn=>∃ p1 c1 p2 c2 p3 c3 p4 c4,u=.agg #[.slice p1 (F * 8) c1,.slice p2 C c2,.slice p3 4 c3,.slice p4 C c4]∧(F * 8≤c1∧4≤c3)∧∀ w,Here hn w→MJ w (.slice p1 (F * 8) c1) (.slice p2 C c2) (.slice p3 4 c3) (.slice p4 C c4) (dI (F * 8) (qA F 64)) (List.replicate C MK) (List.replicate 4 vm0) (List.replicate C dK)):=by
 refine enter Tryz.func15 ?_
 refine run ?_
 intro R
 refine run ?_
 refine dJ (fun wc hG=>YO F C hF be5 hC wc) ?_
 rintro u hn ⟨pv,gv,ov,rfl,hP⟩
 refine Vd fun w1 hG1=>?_
 have hP1:=hP w1 (fun b hb=>hG1.here b (List.mem_append_left _ hb))
 obtain ⟨p1,pc1,rfl,_⟩:=hP1.pages.opened
 obtain ⟨p3,pc3,rfl,_⟩:=hP1.on.opened
 obtain ⟨g,gc,rfl,_⟩:∃ g gc,gv=.slice g (fO F C).aA.length gc∧True:=by
  obtain ⟨vv,mv,⟨⟨g,gc,e,_⟩,hl⟩,_⟩:=hP1.aA
  simp only [List.length_map,List.length_range] at e hl
  exact ⟨g,gc,e,trivial⟩
 clear hP1 hG1
 refine run ?_
 intro X
 refine drawM 10 [0,1,2,4,7] [3,5,6,8] [9] ?_
 refine fU ?_
 refine jB (fun wc hG=>QU F be5 hF (fO F C).pages Vs (hP wc (fun b hb=>hG.here b bi7)).pages) ?_ ?_
 ·obtain ⟨v,h1,hO⟩:=MG (e:=47) ((sK (F * 8) (dW (fO F C).pages) 64).ws.map uV) (fun c hc=>by obtain ⟨x,_,rfl⟩:=List.mem_map.1 hc;exact ⟨rfl,rfl⟩) (by rw [List.length_map,JC be5,eu];omega)
  exact ⟨_,h1,v,h1,rfl,hO,aC.refl _⟩
 refine I7 (m:=C) (sz:=19) (z:=.agg #[.int .u64 0,.int .u64 0,.int .u64 0,.int .u64 0,.int .u64 0,.int .u64 0,.int .u64 0,.int .u64 0,.int .u64 0,.int .u64 0,.int .u64 0,.int .u64 0,.int .u64 0,.int .u64 0,.int .u64 0,.int .i64 0,.int .i64 0,.slice none 0 0,.slice none 0 0]) ?_ be5 (hcs:=by exact oM [.int .u64 0,.int .u64 0,.int .u64 0,.int .u64 0,.int .u64 0,.int .u64 0,.int .u64 0,.int .u64 0,.int .u64 0,.int .u64 0,.int .u64 0,.int .u64 0,.int .u64 0,.int .u64 0,.int .u64 0,.int .i64 0,.int .i64 0,.slice none 0 0,.slice none 0 0] C 19 rfl be5)
 refine I7 (m:=4) (sz:=6) (z:=.agg #[.bool false,.bool false,.int .i64 0,.slice none 0 0,.slice none 0 0,.slice none 0 0]) ?_ be5 (hcs:=by exact oM [.bool false,.bool false,.int .i64 0,.slice none 0 0,.slice none 0 0,.slice none 0 0] 4 6 rfl be5)
 refine I7 (m:=C) (sz:=15) (z:=.agg #[.int .u64 0,.int .u64 0,.int .u64 0,.int .u64 0,.int .u64 0,.int .u64 0,.int .u64 0,.int .u64 0,.int .u64 0,.int .u64 0,.int .u64 0,.int .u64 0,.int .u64 0,.int .u64 0,.int .u64 0]) ?_ be5 (hcs:=by exact oM [.int .u64 0,.int .u64 0,.int .u64 0,.int .u64 0,.int .u64 0,.int .u64 0,.int .u64 0,.int .u64 0,.int .u64 0,.int .u64 0,.int .u64 0,.int .u64 0,.int .u64 0,.int .u64 0,.int .u64 0] C 15 rfl be5)
 refine jS ?_
 rintro _ _ ⟨Bh,rfl,rfl⟩ _ _ ⟨Bv,rfl,rfl⟩ _ _ ⟨Bc,rfl,rfl⟩ u hn2 ⟨v2,h2,rfl,hO,hle2⟩
 rw [JC be5] at hO
 obtain ⟨q,cap,e2,ac8⟩:=hO.oq
 rw [List.length_map,eu] at e2 ac8
 subst e2
 refine tN ?_
 refine iW ?_
 refine qU ?_
 simp only [List.cons_append,List.nil_append]
 obtain ⟨CC,hCC⟩:∃ G:Array Value,G=((List.replicate C [.int .u64 0,.int .u64 0,.int .u64 0,.int .u64 0,.int .u64 0,.int .u64 0,.int .u64 0,.int .u64 0,.int .u64 0,.int .u64 0,.int .u64 0,.int .u64 0,.int .u64 0,.int .u64 0,.int .u64 0,.int .i64 0,.int .i64 0,.slice none 0 0,.slice none 0 0]).flatten).toArray:=⟨_,rfl⟩
 obtain ⟨VC,hVC⟩:∃ G:Array Value,G=((List.replicate 4 [.bool false,.bool false,.int .i64 0,.slice none 0 0,.slice none 0 0,.slice none 0 0]).flatten).toArray:=⟨_,rfl⟩
 obtain ⟨RC,hRC⟩:∃ G:Array Value,G=((List.replicate C [.int .u64 0,.int .u64 0,.int .u64 0,.int .u64 0,.int .u64 0,.int .u64 0,.int .u64 0,.int .u64 0,.int .u64 0,.int .u64 0,.int .u64 0,.int .u64 0,.int .u64 0,.int .u64 0,.int .u64 0]).flatten).toArray:=⟨_,rfl⟩
 rw [← hCC,← hVC,← hRC]
 refine aP (⟨R,#[.slice none 0 0,.slice none 0 0,.slice none 0 0,.slice none 0 0],29⟩::⟨Bh,RC,78⟩::⟨Bv,VC,111⟩::⟨Bc,CC,84⟩::h2) (cnt1 hle2) ?_
 refine run ?_
 refine eF (cs:=#[.slice q (F * 8) cap,.slice (some ⟨Bc,0,none⟩) C C,.slice (some ⟨Bv,0,none⟩) 4 4,.slice (some ⟨Bh,0,none⟩) C C]) ?_
 subst hCC hVC hRC
 exact ⟨_,_,_,_,_,_,_,_,rfl,⟨ac8,Nat.le_refl 4⟩,fun w' hw'=>⟨lu.dI (OZ _ _),hO.lie (hw'.sub fun e he=>by simp [he]) (by simp [eu];omega),MI.zero (t:=84) (hw' _ (.tail _ (.tail _ (.tail _ (.head _))))) be5,Eo.zero (t:=111) (hw' _ (.tail _ (.tail _ (.head _)))) be5,YS (t:=78) (hw' _ (.tail _ (.head _))) be5⟩⟩
theorem vF (n:Int) (w:World):Fn Tryz.prog 27 [.int .i64 n].toArray w [] (fun u _=>u=.int .i64 n):=by
 refine enter Tryz.func27 ?_
 refine run ?_
 exact fin1 rfl
theorem mg {x:Int} (h:-1000≤x∧x≤1000):I64 x:=by unfold I64;omega
theorem S9 (F C:Nat) (hF:F≤64) (hC:C≤3):(iD F C).Fit:=by
 refine ⟨⟨by simp [iD,eu];omega,by simp [iD];omega,by simp [iD],by simp [iD];omega⟩,fun c hc=>?_,fun v hv=>?_⟩
 ·rw [List.eq_of_mem_replicate hc];exact ⟨by decide,by decide,mg be6,mg be6⟩
 ·rw [List.eq_of_mem_replicate hv];exact ⟨by decide,by decide,by decide,by simp,by simp,by simp⟩
theorem KO {F C:Nat} (hF:F≤64) (hC:C≤3) {w:World} {p1 p2 p3 p4:Option Addr} {c1 c2 c3 c4:Nat} (h:MJ w (.slice p1 (F * 8) c1) (.slice p2 C c2) (.slice p3 4 c3) (.slice p4 C c4) (dI (F * 8) (qA F 64)) (List.replicate C MK) (List.replicate 4 vm0) (List.replicate C dK)) (h1:F * 8≤c1) (h3:4≤c3):MX w (.slice p1 (F * 8) c1) (.slice p2 C c2) (.slice p3 4 c3) (.slice p4 C c4) (iD F C):=by
 refine ⟨S9 F C hF hC,⟨p3,c3,by simp [iD],by simp [iD];exact h3⟩,⟨p1,c1,by simp [iD,eu],by simp [iD,eu];exact h1⟩,List.replicate C MK,List.replicate 4 vm0,by rw [List.map_replicate];rfl,by rw [List.map_replicate];rfl,fun c hc=>by rw [List.eq_of_mem_replicate hc];decide,h⟩
def Ea (P:PtD):Bool:=decide (P.pages.length≤1000) && decide (P.aA.length≤1000) && decide (P.on.length≤1000) && allB P.aA.length fun i=>decide ((P.gs i).aN.length≤1000) && decide ((P.gs i).maps.length≤1000)
theorem yK {P:PtD} (h:Ea P=true):P.Small 1000:=by
 simp only [Ea,Bool.and_eq_true,decide_eq_true_eq] at h
 refine ⟨h.1.1.1,h.1.1.2,h.1.2,fun i hi=>?_⟩
 have:=bM.1 h.2 i hi
 simpa only [Bool.and_eq_true,decide_eq_true_eq] using this
theorem HyD.kL.of {H:HyD} (hok:H.ok=true) (hw:lu H.ws):H.kL:=by
 simp only [HyD.ok,Bool.and_eq_true] at hok
 obtain ⟨⟨⟨h1,⟨h2,h3⟩,h4⟩,h5⟩,h6⟩:=hok
 have hL:=nN h1
 refine ⟨hL.m,hw,HostT.of hL h3,hL.c1,hL.c3,hL.r,hL.v,fun c hc=>?_⟩
 obtain ⟨j,hj,rfl⟩:=List.getElem_of_mem hc
 have:=bM.1 h6 j hj
 simp only [HyD.sound,Bool.and_eq_true] at this
 have h9:=this.1
 rw [show H.cu j=H.cs[j] by unfold HyD.cu;rw [List.getD_eq_getElem?_getD,List.getElem?_eq_getElem hj];rfl] at h9
 exact h9
theorem KP:∀ C,C<3→Ea (iD 32 C).aQ=true:=by decide +kernel
theorem Xp:∀ C,C<3→0<C→(PO ((iD 32 C).aQ.Sm 0 ⟨5,0,16,0,0,0⟩)).may=true:=by decide +kernel
theorem Xq:∀ C,C<3→0<C→(iD 32 C).ok=true:=by
 intro C h1 h2
 match C,h1,h2 with
 | 1,_,_=>exact Xf
 | 2,_,_=>exact Xg
theorem zW (C:Nat) (h1:C<3) (h2:0<C) {w:World} {wv cv vv rv:Value} (h:MX w wv cv vv rv (iD 32 C)):Fn Tryz.prog 26 [.agg #[wv,cv,vv,rv],.int .i64 ((0:Nat):Int),pY ⟨5,0,16,0,0,0⟩].toArray w [] (zV (jr C)):=by
 have hok:=Xq C h1 h2
 have hw64:lu (iD 32 C).ws:=lu.dI (OZ _ _)
 have hW:=HyD.kL.of hok hw64
 have hmay:(iD 32 C).aQ.may=true:=by simp only [HyD.ok,Bool.and_eq_true] at hok;exact hok.1.1.2.1.1
 obtain ⟨hd,hn⟩:=aJ3 C h1 h2
 have hsv:jr C=(iD 32 C).vC 16 (HyD.Sr (iD 32 C).aQ (PO ((iD 32 C).aQ.Sm 0 ⟨5,0,16,0,0,0⟩))):=by rw [hn];rfl
 rw [hsv]
 have hcl:0<(iD 32 C).cs.length:=by simp [iD];exact h2
 refine BD h hok 0 hcl ⟨5,0,16,0,0,0⟩ bh5 (Iq hd) (yK (KP C h1)) (fun L X p4 p5 p6 p7 p8 p9 n4 n5 n6 n7 n8 n9 k4 k5 k6 k7 k8 k9 wc hL hN hP hPo hP2 KF=>?_)
 exact KH hL hW hcl rfl ⟨by decide,by simp [iD,eu]⟩ (Bq hmay) (Bq (Xp C h1 h2)) hP hPo hP2 KF hN
def smI (x:Int):Bool:=decide (-1000≤x) && decide (x≤1000)
theorem KQ {x:Int} (h:smI x=true):I64 x:=by
 simp only [smI,Bool.and_eq_true,decide_eq_true_eq] at h
 exact mg h
def Ec (H:HyD):Bool:=decide (H.ws.length<100000) && decide (H.cs.length<100000) && decide (H.vs.length<100000) && decide (H.rs.length<100000) && H.cs.all (fun c=>decide (c.es.length<100000) && decide (c.ds.length<100000) && smI c.vm && smI c.vc) && H.vs.all fun v=>decide (v.fs.length<100000) && decide (v.fr.length<100000) && decide (v.vs.length<100000) && v.fs.all smI && v.fr.all smI && v.vs.all fun c=>smI c.on
theorem Ir {H:HyD} (h:Ec H=true):H.Fit:=by
 simp only [Ec,Bool.and_eq_true,decide_eq_true_eq,List.all_eq_true] at h
 obtain ⟨⟨⟨⟨⟨h1,h2⟩,h3⟩,h4⟩,h5⟩,h6⟩:=h
 exact ⟨⟨h1,h2,h3,h4⟩,fun c hc=>⟨(h5 c hc).1.1.1,(h5 c hc).1.1.2,KQ (h5 c hc).1.2,KQ (h5 c hc).2⟩,fun v hv=>⟨(h6 v hv).1.1.1.1.1,(h6 v hv).1.1.1.1.2,(h6 v hv).1.1.1.2,fun x hx=>KQ ((h6 v hv).1.1.2 x hx),fun x hx=>KQ ((h6 v hv).1.2 x hx),fun x hx=>KQ ((h6 v hv).2 x hx)⟩⟩
theorem ac9:∀ C,C<3→Ec (jr C)=true:=by decide +kernel
theorem az':Ec jQ=true:=by decide +kernel
theorem aA0 (a b s:pU):Ec (uK a b s)=true:=by
 have:Ec (uK a b s)=Ec (uK a b s).bare:=rfl
 rw [this,D9]
 exact az'
theorem aA1:∀ c,c<2→Ec (D8 c)=true:=by decide +kernel
theorem aA2 (cpu:Nat) (h:cpu<2) (a b s:pU):Ec (Ar cpu a b s)=true:=by
 have:Ec (Ar cpu a b s)=Ec (Ar cpu a b s).bare:=by
  match cpu,h with
  | 0,_=>rfl
  | 1,_=>rfl
 rw [this,KL cpu h]
 exact aA1 cpu h
def aA3 (ws:List Nat):Bool:=ws.all fun x=>decide (x<18446744073709551616)
theorem Oa {ws:List Nat} (h:aA3 ws=true):lu ws:=fun x hx=>by
 have:=List.all_eq_true.1 h x hx
 simpa using this
theorem ad1:∀ C,C<3→aA3 (jr C).ws=true:=by decide +kernel
theorem aA4:lu jQ.ws:=Oa bg4
theorem aA5 (a b s:pU):lu (uK a b s).ws:=aA4
theorem PT:∀ C,C<3→Ea (jr C).aQ=true:=by decide +kernel
theorem ZM:Ea jQ.aQ=true:=by decide +kernel
theorem yL:∀ C,C<3→0<C→(jr C).ok=true:=by
 intro C h1 h2
 match C,h1,h2 with
 | 1,_,_=>exact SS
 | 2,_,_=>exact SV
theorem KR {L:HL} (hL:yw L (jr 1)) {w:World} (hh:Here L.rest w):Fn Tryz.prog 26 [.agg #[L.wv,L.cv,L.vv,L.rv],.int .i64 ((0:Nat):Int),pY ⟨3,1,25,3,0,0⟩].toArray w [] (zV ((jr 1).yH 1 25 3)):=by
 have hW:=HyD.kL.of (yL 1 be6 be6) (Oa (ad1 1 be6))
 refine BD (hL.hv (Ir (ac9 1 be6)) hh) (yL 1 be6 be6) 0 (Nat.lt_of_lt_of_le Nat.zero_lt_one hW.c1) ⟨3,1,25,3,0,0⟩ bh5 (Iq aJ6) (yK (PT 1 be6)) (fun L X p4 p5 p6 p7 p8 p9 n4 n5 n6 n7 n8 n9 k4 k5 k6 k7 k8 k9 wc hL hN hP hPo hP2 KF=>?_)
 exact KI hL hW (Nat.lt_of_lt_of_le Nat.zero_lt_one hW.c1) rfl be6 be6 bg4 hN
theorem Tc {L:HL} (hL:yw L (jr 2)) {w:World} (hh:Here L.rest w):Fn Tryz.prog 26 [.agg #[L.wv,L.cv,L.vv,L.rv],.int .i64 ((0:Nat):Int),pY ⟨7,1,0,0,0,0⟩].toArray w [] (zV jQ):=by
 have hW:=HyD.kL.of (yL 2 be6 be6) (Oa (ad1 2 be6))
 refine BD (hL.hv (Ir (ac9 2 be6)) hh) (yL 2 be6 be6) 0 (Nat.lt_of_lt_of_le Nat.zero_lt_one hW.c1) ⟨7,1,0,0,0,0⟩ bh5 (Iq aJ4) (yK (PT 2 be6)) (fun L X p4 p5 p6 p7 p8 p9 n4 n5 n6 n7 n8 n9 k4 k5 k6 k7 k8 k9 wc hL hN hP hPo hP2 KF=>?_)
 exact SK hL hW (Nat.lt_of_lt_of_le Nat.zero_lt_one hW.c1) rfl be6 bg4 hN
theorem Xr (cpu:Nat) (hc:cpu<2) (a b s:pU) {L:HL} (hL:yw L (uK a b s)) {w:World} (hh:Here L.rest w):Fn Tryz.prog 26 [.agg #[L.wv,L.cv,L.vv,L.rv],.int .i64 (cpu:Int),pY ⟨8,1,0,0,0,0⟩].toArray w [] (zV (Ar cpu a b s)):=by
 have hW:=HyD.kL.of (ac7 a b s) (aA5 a b s)
 have hcl:cpu<(uK a b s).cs.length:=hc
 have e:(uK a b s).Kz cpu 1 0=Ar cpu a b s:=by
  match cpu,hc with
  | 0,_=>exact ZK a b s
  | 1,_=>exact ZL a b s
 rw [← e]
 refine BD (hL.hv (Ir (aA0 a b s)) hh) (ac7 a b s) cpu hcl ⟨8,1,0,0,0,0⟩ bh5 (by rw [PS];exact Iq (aJ5 cpu hc)) (by rw [PS];exact yK ZM) (fun L X p4 p5 p6 p7 p8 p9 n4 n5 n6 n7 n8 n9 k4 k5 k6 k7 k8 k9 wc hL hN hP hPo hP2 KF=>?_)
 exact Xd hL hW hcl rfl be6 ⟨by decide,(by decide:(0:Int)<((1:Nat):Int))⟩ hN
theorem ZN (cpu:Nat) (hc:cpu<2) (a b s:pU) {L:HL} (hL:yw L (Ar cpu a b s)) {w:World} (hh:Here L.rest w):Fn Tryz.prog 32 [.agg #[L.wv,L.cv,L.vv,L.rv],.int .i64 (cpu:Int)].toArray w [] (zV (uK a b s)):=by
 have e:(Ar cpu a b s).yG cpu=uK a b s∧((Ar cpu a b s).cu cpu).vm=1∧((Ar cpu a b s).cu cpu).vc=0∧((Ar cpu a b s).vu 0).vs.length=1∧cpu<(Ar cpu a b s).cs.length:=by
  match cpu,hc with
  | 0,_=>exact ⟨Xn a b s,rfl,rfl,rfl,(by decide:(0:Nat)<2)⟩
  | 1,_=>exact ⟨Xo a b s,rfl,rfl,rfl,(by decide:(1:Nat)<2)⟩
 obtain ⟨e1,e2,e3,e4,e5⟩:=e
 rw [← e1]
 exact SQ (hL.hv (Ir (aA2 cpu hc a b s)) hh) (an0 cpu hc a b s) cpu e5 (by rw [e2];decide) (by rw [e2,e3];rw [show ((1:Int) - 1).toNat=0 from rfl,e4];decide)
theorem yM {L:HL} {H:HyD} (h:yw L H) {n:Nat} (hn:H.cs.length=n):L.cs.length=n:=by
 have:=congrArg List.length h.ec
 rw [List.length_map] at this
 omega
theorem Xt {L:HL} {H:HyD} (h:yw L H) {n:Nat} (hn:H.vs.length=n):L.vs.length=n:=by
 have:=congrArg List.length h.ev
 rw [List.length_map] at this
 omega
theorem Td (w:World):Fn Tryz.prog 30 [].toArray w [] (fun u _=>u=.bool true):=by
 refine enter Tryz.func30 ?_
 refine run ?_
 refine dJ (fun wc hG=>KN 32 1 be6 be6 be6 be6 wc) ?_
 rintro _ hn ⟨p1,c1,p2,c2,p3,c3,p4,c4,rfl,⟨hc1,hc3⟩,hH⟩
 refine run ?_
 refine dJ (fun wc hG=>zW 1 be6 be6 (KO be6 be6 (hH wc (fun e he=>hG.here e bf8)) hc1 hc3)) ?_
 rintro _ hn2 ⟨L,rfl,hL,hle⟩
 have aA6:=yM hL (PR 1 be6).1
 have aA7:=Xt hL (PR 1 be6).2
 obtain ⟨wvx,cvx,vvx,rvx,csx,vsx,hwx,hcx,htx,hvx,hzx,hrx⟩:=L
 obtain ⟨ax1,bx1,fx1⟩:=hL.w.opened
 obtain ⟨ax2,bx2,fx2⟩:=hL.c.opened
 obtain ⟨ax3,bx3,fx3⟩:=hL.v.opened
 obtain ⟨ax4,bx4,fx4⟩:=hL.r.opened
 dsimp only at aA6 aA7 fx1 fx2 fx3 fx4
 rw [List.length_map,aA6] at fx2
 rw [List.length_map,aA7] at fx3
 subst fx1 fx2 fx3 fx4
 refine run ?_
 intro Eb
 refine run ?_
 refine dJ (fun wc hG=>KR hL (fun e he=>hG.here e (by have:=hle.mem he;simp [this]))) ?_
 rintro _ hn3 ⟨M,rfl,hM,hle3⟩
 have aA8:=yM hM Xi.1
 have an2:=Xt hM Xi.2.1
 obtain ⟨wvy,cvy,vvy,rvy,csy,vsy,hwy,hcy,hty,hvy,hzy,hry⟩:=M
 obtain ⟨ay1,by1,fy1⟩:=hM.w.opened
 obtain ⟨ay2,by2,fy2⟩:=hM.c.opened
 obtain ⟨ay3,by3,fy3⟩:=hM.v.opened
 obtain ⟨ay4,by4,fy4⟩:=hM.r.opened
 dsimp only at aA8 an2 fy1 fy2 fy3 fy4
 rw [List.length_map,aA8] at fy2
 rw [List.length_map,an2] at fy3
 subst fy1 fy2 fy3 fy4
 obtain ⟨g,cap,cur,e7,rfl,hsz,sJ,_⟩:=hM.v.lY (k:=0) bj8
 dsimp only at e7
 rw [an2] at e7
 cases e7
 have n0:=sJ 0 _ rfl
 have hlv:(vsy.getD 0 default).live=true:=by
  have:=Dy hM.ev 0
  have h2:=congrArg qK.live this
  exact h2.trans Xi.2.2
 rw [hlv] at n0
 simp only [Nat.zero_mul,Nat.zero_add] at n0
 simp only [HL.rest] at hle3
 dsimp only
 refine aP (⟨Eb,#[.slice ax1 (List.map uV (jr 1).ws).length bx1,.slice ax2 1 bx2,.slice ax3 4 bx3,.slice ax4 (List.map nT (jr 1).rs).length bx4],29⟩::⟨g,cur,111⟩::[]) (cnt1 hle3) ?_
 refine run ?_
 refine ak (fun wc hG=>vF 0 wc) ?_
 refine aI ?_
 refine dO (fun _ wc hG=>vF 0 wc) ?_
 refine aI ?_
 exact fin1 rfl
structure XH where
 k:Nat
 p1:Option Addr
 p2:Option Addr
 p3:Option Addr
 p4:Option Addr
 c1:Nat
 c2:Nat
 c3:Nat
 c4:Nat
 h:Hp
abbrev XH.v (s:XH):Array Value:=#[.slice s.p1 256 s.c1,.slice s.p2 2 s.c2,.slice s.p3 4 s.c3,.slice s.p4 2 s.c4]
def XH.own (s:XH) (H:HyD):Prop:=∃ L:HL,yw L H∧(L.wv=.slice s.p1 256 s.c1∧L.cv=.slice s.p2 2 s.c2∧L.vv=.slice s.p3 4 s.c3∧L.rv=.slice s.p4 2 s.c4)∧aC L.rest s.h
def SvI (s:XH):Prop:=(s.k=0∧∀ w,Here s.h w→MX w (.slice s.p1 256 s.c1) (.slice s.p2 2 s.c2) (.slice s.p3 4 s.c3) (.slice s.p4 2 s.c4) (iD 32 2))∨(s.k=1∧s.own (jr 2))∨(s.k=2∧s.own jQ)
theorem ad2:(jr 2).ws.length=256∧(jr 2).rs.length=2:=by decide +kernel
theorem Ed:jQ.ws.length=256∧jQ.cs.length=2∧jQ.vs.length=4∧jQ.rs.length=2:=by decide +kernel
theorem Iu {H:HyD} (h1:H.ws.length=256) (h2:H.cs.length=2) (h3:H.vs.length=4) (h4:H.rs.length=2) {u:Value} {hn:Hp} (h:zV H u hn) (k:Nat):∃ s:XH,s.k=k∧u=.tuple #[.agg s.v,.int .i64 0]∧s.own H∧aC s.h hn:=by
 obtain ⟨L,rfl,hL,hle⟩:=h
 have KX:=yM hL h2
 have evl:=Xt hL h3
 obtain ⟨q1,c1,e1⟩:=hL.w.opened
 obtain ⟨q2,c2,e2⟩:=hL.c.opened
 obtain ⟨q3,c3,e3⟩:=hL.v.opened
 obtain ⟨q4,c4,e4⟩:=hL.r.opened
 rw [List.length_map,h1] at e1
 rw [List.length_map,KX] at e2
 rw [List.length_map,evl] at e3
 rw [List.length_map,h4] at e4
 exact ⟨⟨k,q1,q2,q3,q4,c1,c2,c3,c4,L.rest⟩,rfl,by rw [e1,e2,e3,e4],⟨L,hL,⟨e1,e2,e3,e4⟩,aC.refl _⟩,hle⟩
def aA9:Nat→wQ
 | 0=>⟨5,0,16,0,0,0⟩
 | _=>⟨7,1,0,0,0,0⟩
theorem Xu (s:XH) (hk:s.k<2) (hI:SvI s) {w:World} (hh:Here s.h w):Fn Tryz.prog 26 [.agg s.v,.int .i64 0,pY (aA9 s.k)].toArray w [] (fun u hn=>∃ s':XH,u=.tuple #[.agg s'.v,.int .i64 0]∧s'.k=s.k + 1∧SvI s'∧aC s'.h hn):=by
 rcases hI with ⟨e,hH⟩ | ⟨e,L,hL,⟨f1,f2,f3,f4⟩,hle⟩ | ⟨e,_⟩
 ·rw [e]
  refine Fn.mono (zW 2 be6 be6 (hH w hh)) fun u hn hu=>?_
  obtain ⟨s',g1,g2,g3,g4⟩:=Iu ad2.1 (PR 2 be6).1 (PR 2 be6).2 ad2.2 hu 1
  exact ⟨s',g2,g1,.inr (.inl ⟨g1,g3⟩),g4⟩
 ·rw [e]
  have hd:=Tc hL (w:=w) (fun x hx=>hh x (hle.mem hx))
  rw [f1,f2,f3,f4] at hd
  refine Fn.mono hd fun u hn hu=>?_
  obtain ⟨s',g1,g2,g3,g4⟩:=Iu Ed.1 Ed.2.1 Ed.2.2.1 Ed.2.2.2 hu 2
  exact ⟨s',g2,g1,.inr (.inr ⟨g1,g3⟩),g4⟩
 ·omega
theorem aA' (cpu:Nat) (hc:cpu<2) (a b t:pU):(Ar cpu a b t).ws.length=256∧(Ar cpu a b t).cs.length=2∧(Ar cpu a b t).vs.length=4∧(Ar cpu a b t).rs.length=2:=by
 match cpu,hc with
 | 0,_=>exact ⟨Ed.1,rfl,rfl,rfl⟩
 | 1,_=>exact ⟨Ed.1,rfl,rfl,rfl⟩
theorem aK2 (a b t:pU):(uK a b t).ws.length=256∧(uK a b t).cs.length=2∧(uK a b t).vs.length=4∧(uK a b t).rs.length=2:=⟨Ed.1,rfl,rfl,rfl⟩
def EF (x:Int):Nat:=(IntKind.u64.wrap x).toNat
theorem KT (x:Int):IntKind.u64.wrap x=((EF x:Nat):Int):=by
 unfold EF
 rw [Int.toNat_of_nonneg]
 unfold IntKind.wrap
 simp [IntKind.bits,IntKind.signed]
 omega
def aB0 (t:pU) (i v:Nat):pU:=match i with
 | 0=>{ t with x0:=v }
 | 1=>{ t with x1:=v }
 | 2=>{ t with x2:=v }
 | 3=>{ t with x3:=v }
 | 4=>{ t with x4:=v }
 | _=>{ t with x5:=v }
theorem Oc (t:pU) (i:Nat) (h:i<6) (v:Nat):putAt (nT t).toArray (i % 8) [.int .u64 (v:Int)]=(nT (aB0 t i v)).toArray:=by
 match i,h with
 | 0,_=>rfl
 | 1,_=>rfl
 | 2,_=>rfl
 | 3,_=>rfl
 | 4,_=>rfl
 | 5,_=>rfl
def vU (r:pU) (i:Nat):pU:={ r with pc:=i,x2:=77 }
theorem Xv {L:HL} {a b t:pU} (hL:yw L (uK a b t)) {cpu:Nat} (hc:cpu<2) (i:Nat) {g cc:Nat} {iG:Array Value} (hcv:L.cv=.slice (some ⟨g,0,none⟩) 2 cc) (hhc:L.hc=[⟨g,iG,84⟩]):∃ a2 b2 cs2,yw { L with cs:=cs2,hc:=[⟨g,(iG.setIfInBounds (cpu * 19 + 8) (.int .u64 (i:Int))).setIfInBounds (cpu * 19 + 2) (.int .u64 77),84⟩] } (uK a2 b2 t)∧(∀ t',((uK a2 b2 t').cu cpu).r=vU ((uK a b t).cu cpu).r i):=by
 have KX:=yM hL (show (uK a b t).cs.length=2 from rfl)
 have huc:=yj hL.ec cpu
 rw [show (uK a b t).cs.getD cpu default=(uK a b t).cu cpu from rfl] at huc
 have hO:=hL.c
 rw [hcv,hhc] at hO
 obtain ⟨g1,c1,SE,e1,e2,sz1,aK3,an3⟩:=hO.lY (k:=cpu) be5
 cases e2
 rw [KX] at e1 an3
 cases e1
 obtain ⟨cp,hcp⟩:∃ cp,cp=L.cs.getD cpu default:=⟨_,rfl⟩
 rw [← hcp] at huc aK3 an3
 have o1:=an3 8 [.int .u64 (i:Int)] { cp with r:={ cp.r with pc:=i } } be7 rfl ⟨rfl,rfl⟩
 simp only [putAt] at o1
 obtain ⟨g2,c2,NR,e1,e2,sz2,aY4,an4⟩:=o1.lY (k:=cpu) (by rw [List.length_set];omega)
 cases e2
 rw [List.length_set,KX] at e1 an4
 cases e1
 have hg:(L.cs.set cpu { cp with r:={ cp.r with pc:=i } }).getD cpu default={ cp with r:={ cp.r with pc:=i } }:=by
  rw [List.getD_eq_getElem?_getD,List.getElem?_set_self be5];rfl
 rw [hg] at an4
 have o2:=an4 2 [.int .u64 77] { cp with r:=vU cp.r i } be7 rfl ⟨rfl,rfl⟩
 simp only [putAt] at o2
 rw [List.set_set] at o2
 have XF:cp.u=⟨cp.r,0,0,[],[]⟩∧((uK a b t).cu cpu).r=cp.r:=by
  match cpu,hc with
  | 0,_=>
   have h1:=congrArg qJ.vm huc
   have h2:=congrArg qJ.vc huc
   have h3:=congrArg qJ.es huc
   have h4:=congrArg qJ.ds huc
   exact ⟨by simp only [qB.u] at h1 h2 h3 h4 ⊢;rw [h1,h2,h3,h4];rfl,(congrArg qJ.r huc).symm⟩
  | 1,_=>
   have h1:=congrArg qJ.vm huc
   have h2:=congrArg qJ.vc huc
   have h3:=congrArg qJ.es huc
   have h4:=congrArg qJ.ds huc
   exact ⟨by simp only [qB.u] at h1 h2 h3 h4 ⊢;rw [h1,h2,h3,h4];rfl,(congrArg qJ.r huc).symm⟩
 have hct:L.cs.map (·.t)=(L.cs.set cpu { cp with r:=vU cp.r i }).map (·.t):=by
  rw [List.map_set,jY]
  rw [List.getElem?_map,hcp,List.getD_eq_getElem?_getD,List.getElem?_eq_getElem be5];rfl
 have Tf:qB.u { cp with r:=vU cp.r i }=⟨vU cp.r i,0,0,[],[]⟩:=by
  have:=XF.1
  simp only [qB.u,qJ.mk.injEq] at this ⊢
  exact ⟨trivial,this.2⟩
 obtain ⟨hw64,hw,hcc,ht,hv,hz,hr,hec,hev⟩:=hL
 obtain rfl | rfl:cpu=0∨cpu=1:=by omega
 ·refine ⟨vU cp.r i,b,L.cs.set 0 { cp with r:=vU cp.r i },⟨hw64,hw,by rw [hcv];exact o2,by dsimp only;rw [← hct];exact ht,hv,hz,hr,?_,hev⟩,fun t'=>by rw [XF.2];rfl⟩
  dsimp only
  rw [List.map_set,hec,Tf];rfl
 ·refine ⟨a,vU cp.r i,L.cs.set 1 { cp with r:=vU cp.r i },⟨hw64,hw,by rw [hcv];exact o2,by dsimp only;rw [← hct];exact ht,hv,hz,hr,?_,hev⟩,fun t'=>by rw [XF.2];rfl⟩
  dsimp only
  rw [List.map_set,hec,Tf];rfl
theorem Xw {L:HL} {cpu:Nat} (hc:cpu<2) {a b t:pU} (hL:yw L (Ar cpu a b t)) (t3:pU) {g:Nat} {X3:Array Value} (ho:Own 84 19 L.cv [⟨g,X3,84⟩] ((L.cs.set cpu { L.cs.getD cpu default with r:=t3 }).map QT)):yw { L with cs:=L.cs.set cpu { L.cs.getD cpu default with r:=t3 },hc:=[⟨g,X3,84⟩] } (Ar cpu a b t3):=by
 have KX:=yM hL (aA' cpu hc a b t).2.1
 have huc:=yj hL.ec cpu
 obtain ⟨cp,hcp⟩:∃ cp,cp=L.cs.getD cpu default:=⟨_,rfl⟩
 rw [← hcp] at huc ho ⊢
 have hct:L.cs.map (·.t)=(L.cs.set cpu { cp with r:=t3 }).map (·.t):=by
  rw [List.map_set,jY]
  rw [List.getElem?_map,hcp,List.getD_eq_getElem?_getD,List.getElem?_eq_getElem be5];rfl
 obtain ⟨hw64,hw,hcc,ht,hv,hz,hr,hec,hev⟩:=hL
 obtain rfl | rfl:cpu=0∨cpu=1:=by omega
 ·have Tf:qB.u { cp with r:=t3 }=⟨t3,1,0,[],[]⟩:=by
   have h1:=congrArg qJ.vm huc
   have h2:=congrArg qJ.vc huc
   have h3:=congrArg qJ.es huc
   have h4:=congrArg qJ.ds huc
   simp only [qB.u] at h1 h2 h3 h4 ⊢
   rw [h1,h2,h3,h4];rfl
  refine ⟨hw64,hw,ho,by dsimp only;rw [← hct];exact ht,hv,hz,hr,?_,hev⟩
  dsimp only
  rw [List.map_set,hec,Tf];rfl
 ·have Tf:qB.u { cp with r:=t3 }=⟨t3,1,0,[],[]⟩:=by
   have h1:=congrArg qJ.vm huc
   have h2:=congrArg qJ.vc huc
   have h3:=congrArg qJ.es huc
   have h4:=congrArg qJ.ds huc
   simp only [qB.u] at h1 h2 h3 h4 ⊢
   rw [h1,h2,h3,h4];rfl
  refine ⟨hw64,hw,ho,by dsimp only;rw [← hct];exact ht,hv,hz,hr,?_,hev⟩
  dsimp only
  rw [List.map_set,hec,Tf];rfl
theorem PU {n:Nat} {w0:World} {mu:List Nat} {l:Fm} {hp:Hp} {Q:Exit→Fm→Hp→Prop} {c:Code} (h:∀ w,Good w0 mu hp w→St Tryz.prog n w0 mu c l hp Q):St Tryz.prog n w0 mu c l hp Q:=by
 unfold St at h ⊢
 exact fun a w hk hg=>h w hg a w hk hg
structure LvS where
 i:Nat
 s:XH
 a:pU
 b:pU
 t:pU
set_option maxHeartbeats 1000000 in
theorem Oe {w:World} {u0 u1 u2 u3 u4:Option Addr} {k0 k1 k2 k3 m0 m1 m2 m3 mc:Nat} (A:List DK) (hA:aF w (.slice u4 A.length mc) 8 (A.map Ws)) (hq:A ≠ []→∃ b o,u4=some ⟨b,o,none⟩):Fn Tryz.prog 14 [.agg #[.slice u0 k0 m0,.slice u1 k1 m1,.slice u2 k2 m2,.slice u3 k3 m3,.slice u4 A.length mc]].toArray w [] (fun u _=>u=.bool true):=by
 refine enter Tryz.func14 ?_
 refine run ?_
 intro Pb
 refine run ?_
 refine dJ (fun wc hG=>KN 32 2 be6 be6 be6 be6 wc) ?_
 rintro _ hn ⟨p1_,c1,p2_,c2,p3_,c3,p4_,c4,rfl,⟨hc1,hc3⟩,hH⟩
 simp only [Nat.reduceMul] at hH hc1 ⊢
 refine run ?_
 intro Hb
 refine run ?_
 intro Zb
 refine aX (σ:=XH) (fun s=>[(5,.int .i64 (s.k:Int))]) (fun s=>⟨Zb,#[.int .i64 5,.int .i64 0,.int .i64 16,.int .i64 0,.int .i64 0,.int .i64 0,.int .i64 7,.int .i64 1,.int .i64 0,.int .i64 0,.int .i64 0,.int .i64 0],63⟩::⟨Hb,#[.slice s.p1 256 s.c1,.slice s.p2 2 s.c2,.slice s.p3 4 s.c3,.slice s.p4 2 s.c4],29⟩::⟨Pb,#[.slice u0 k0 m0,.slice u1 k1 m1,.slice u2 k2 m2,.slice u3 k3 m3,.slice u4 A.length mc],59⟩::s.h) (fun s=>s.k≤2∧SvI s) (fun s=>2 - s.k) ⟨0,p1_,p2_,p3_,p4_,c1,c2,c3,c4,hn⟩ ⟨Nat.zero_le _,.inl ⟨rfl,fun w' hh=>KO (F:=32) (C:=2) be6 be6 (hH w' hh) hc1 hc3⟩⟩ ?_ (hh:=by (exact aj))
 rintro s m hm ⟨hk,hI⟩
 refine run ?_
 refine ah _ rfl (fun hc=>?_) (fun hc=>?_)
 ·have hk2:s.k<2:=by have:=of_decide_eq_true hc;omega
  have hst:=fun (wc:World) (hh:Here s.h wc)=>Xu s hk2 hI hh
  obtain ⟨sk,r1,r2,r3,r4,d1,d2,d3,d4,hs⟩:=s
  dsimp only at hm hk hI hc hk2 hst ⊢
  obtain rfl | rfl:sk=0∨sk=1:=by omega
  ·refine run ?_
   refine PU fun w1 hG1=>?_
   have hsome:=(hst w1 (fun e he=>hG1.here e bf8)).some
   clear hG1 w1
   refine wC 10 [0,1,2,3,4] [5,9] [6,7,8] [11] [10] ?_
   refine fU ?_
   refine jB (fun wc hG=>hst wc (fun e he=>hG.here e bf8)) hsome ?_
   refine qR ?_
   refine jS ?_
   rintro _ _ ⟨Xb,rfl,rfl⟩ _ hn2 ⟨s',rfl,hk',hI',hle'⟩
   refine xJ ?_
   refine dY ?_
   refine dY ?_
   refine iW ?_
   refine oC ?_
   refine iW ?_
   simp only [DN,List.cons_append,List.nil_append,List.append_nil]
   refine Qx (b:=Xb) (tb:=29) (cs:=#[.slice none 0 0,.slice none 0 0,.slice none 0 0,.slice none 0 0]) (cs':=#[.slice s'.p1 256 s'.c1,.slice s'.p2 2 s'.c2,.slice s'.p3 4 s'.c3,.slice s'.p4 2 s'.c4]) (hp':=hn2++(⟨Zb,#[.int .i64 5,.int .i64 0,.int .i64 16,.int .i64 0,.int .i64 0,.int .i64 0,.int .i64 7,.int .i64 1,.int .i64 0,.int .i64 0,.int .i64 0,.int .i64 0],63⟩::⟨Hb,#[.slice r1 256 d1,.slice r2 2 d2,.slice r3 4 d3,.slice r4 2 d4],29⟩::⟨Pb,#[.slice u0 k0 m0,.slice u1 k1 m1,.slice u2 k2 m2,.slice u3 k3 m3,.slice u4 A.length mc],59⟩::hs)) ?_ (hput:=rfl) (hperm:=by (exact aJ))
   refine dw ?_
   refine lg ?_
   refine aP (⟨Xb,#[.slice s'.p1 256 s'.c1,.slice s'.p2 2 s'.c2,.slice s'.p3 4 s'.c3,.slice s'.p4 2 s'.c4],29⟩::⟨Zb,#[.int .i64 5,.int .i64 0,.int .i64 16,.int .i64 0,.int .i64 0,.int .i64 0,.int .i64 7,.int .i64 1,.int .i64 0,.int .i64 0,.int .i64 0,.int .i64 0],63⟩::⟨Hb,#[.slice r1 256 d1,.slice r2 2 d2,.slice r3 4 d3,.slice r4 2 d4],29⟩::⟨Pb,#[.slice u0 k0 m0,.slice u1 k1 m1,.slice u2 k2 m2,.slice u3 k3 m3,.slice u4 A.length mc],59⟩::s'.h) (cnt1 hle') ?_
   refine run ?_
   refine ak (fun wc hG=>vF 0 wc) ?_
   refine az ?_
   exact aK s' ⟨by rw [hk'];decide,hI'⟩ (hm:=by rw [hk'];omega) (h1:=by rw [hk'];(repeat (first | exact True.intro | (refine And.intro bf3 ?_))))
  ·refine run ?_
   refine PU fun w1 hG1=>?_
   have hsome:=(hst w1 (fun e he=>hG1.here e bf8)).some
   clear hG1 w1
   refine wC 10 [0,1,2,3,4] [5,9] [6,7,8] [11] [10] ?_
   refine fU ?_
   refine jB (fun wc hG=>hst wc (fun e he=>hG.here e bf8)) hsome ?_
   refine qR ?_
   refine jS ?_
   rintro _ _ ⟨Xb,rfl,rfl⟩ _ hn2 ⟨s',rfl,hk',hI',hle'⟩
   refine xJ ?_
   refine dY ?_
   refine dY ?_
   refine iW ?_
   refine oC ?_
   refine iW ?_
   simp only [DN,List.cons_append,List.nil_append,List.append_nil]
   refine Qx (b:=Xb) (tb:=29) (cs:=#[.slice none 0 0,.slice none 0 0,.slice none 0 0,.slice none 0 0]) (cs':=#[.slice s'.p1 256 s'.c1,.slice s'.p2 2 s'.c2,.slice s'.p3 4 s'.c3,.slice s'.p4 2 s'.c4]) (hp':=hn2++(⟨Zb,#[.int .i64 5,.int .i64 0,.int .i64 16,.int .i64 0,.int .i64 0,.int .i64 0,.int .i64 7,.int .i64 1,.int .i64 0,.int .i64 0,.int .i64 0,.int .i64 0],63⟩::⟨Hb,#[.slice r1 256 d1,.slice r2 2 d2,.slice r3 4 d3,.slice r4 2 d4],29⟩::⟨Pb,#[.slice u0 k0 m0,.slice u1 k1 m1,.slice u2 k2 m2,.slice u3 k3 m3,.slice u4 A.length mc],59⟩::hs)) ?_ (hput:=rfl) (hperm:=by (exact aJ))
   refine dw ?_
   refine lg ?_
   refine aP (⟨Xb,#[.slice s'.p1 256 s'.c1,.slice s'.p2 2 s'.c2,.slice s'.p3 4 s'.c3,.slice s'.p4 2 s'.c4],29⟩::⟨Zb,#[.int .i64 5,.int .i64 0,.int .i64 16,.int .i64 0,.int .i64 0,.int .i64 0,.int .i64 7,.int .i64 1,.int .i64 0,.int .i64 0,.int .i64 0,.int .i64 0],63⟩::⟨Hb,#[.slice r1 256 d1,.slice r2 2 d2,.slice r3 4 d3,.slice r4 2 d4],29⟩::⟨Pb,#[.slice u0 k0 m0,.slice u1 k1 m1,.slice u2 k2 m2,.slice u3 k3 m3,.slice u4 A.length mc],59⟩::s'.h) (cnt1 hle') ?_
   refine run ?_
   refine ak (fun wc hG=>vF 0 wc) ?_
   refine az ?_
   exact aK s' ⟨by rw [hk'];decide,hI'⟩ (hm:=by rw [hk'];omega) (h1:=by rw [hk'];(repeat (first | exact True.intro | (refine And.intro bf3 ?_))))
 ·have hk2:s.k=2:=by have:=of_decide_eq_false hc;omega
  have hB:s.own (uK dK dK dK):=by
   rcases hI with ⟨e,_⟩ | ⟨e,_⟩ | ⟨_,h⟩
   ·omega
   ·omega
   ·rw [← yJ];exact h
  refine run ?_
  intro Tb
  refine aX (σ:=LvS) (fun x=>[(9,.int .i64 (x.i:Int))]) (fun x=>⟨Tb,#[.int .u64 (x.t.x0:Int),.int .u64 (x.t.x1:Int),.int .u64 (x.t.x2:Int),.int .u64 (x.t.x3:Int),.int .u64 (x.t.x4:Int),.int .u64 (x.t.x5:Int),.int .u64 (x.t.x6:Int),.int .u64 (x.t.x7:Int),.int .u64 (x.t.pc:Int),.int .u64 (x.t.oD:Int),.int .u64 (x.t.jq:Int),.int .u64 (x.t.oG:Int),.int .u64 (x.t.Be:Int),.int .u64 (x.t.Bf:Int),.int .u64 (x.t.far:Int)],78⟩::⟨Hb,#[.slice x.s.p1 256 x.s.c1,.slice x.s.p2 2 x.s.c2,.slice x.s.p3 4 x.s.c3,.slice x.s.p4 2 x.s.c4],29⟩::⟨Pb,#[.slice u0 k0 m0,.slice u1 k1 m1,.slice u2 k2 m2,.slice u3 k3 m3,.slice u4 A.length mc],59⟩::x.s.h) (fun x=>x.i≤6∧x.i≤A.length∧x.s.own (uK x.a x.b x.t)) (fun x=>6 - x.i) ⟨0,s,dK,dK,dK⟩ ⟨Nat.zero_le _,Nat.zero_le _,hB⟩ ?_ (hh:=by change aC (⟨Tb,#[.int .u64 0,.int .u64 0,.int .u64 0,.int .u64 0,.int .u64 0,.int .u64 0,.int .u64 0,.int .u64 0,.int .u64 0,.int .u64 0,.int .u64 0,.int .u64 0,.int .u64 0,.int .u64 0,.int .u64 0],78⟩::⟨Hb,#[.slice s.p1 256 s.c1,.slice s.p2 2 s.c2,.slice s.p3 4 s.c3,.slice s.p4 2 s.c4],29⟩::⟨Pb,#[.slice u0 k0 m0,.slice u1 k1 m1,.slice u2 k2 m2,.slice u3 k3 m3,.slice u4 A.length mc],59⟩::s.h) _;(exact aj))
  rintro ⟨i,s2,a,b,t⟩ mm hmm ⟨hi6,hiA,hO⟩
  dsimp only at hmm hi6 hiA hO ⊢
  refine aI ?_
  refine ah _ rfl (fun hc=>?_) (fun hc=>?_)
  rotate_left
  ·refine run ?_
   refine ak (fun wc hG=>Td wc) ?_
   refine run ?_
   exact fin1 rfl
  simp only [Bool.and_eq_true,decide_eq_true_eq] at hc
  have hi:i<6:=by omega
  have hiL:i<A.length:=by omega
  obtain ⟨cpu,yz⟩:∃ c,c=i % 2:=⟨_,rfl⟩
  have hc2:cpu<2:=by omega
  obtain ⟨L,hL,⟨f1,f2,f3,f4⟩,hle⟩:=hO
  obtain ⟨wv,cv,vv,rv,cs,vs,hw,hcc,ht,hvv,hz,hr⟩:=L
  dsimp only at f1 f2 f3 f4
  subst f1 f3 f4
  have KX:=yM hL (show (uK a b t).cs.length=2 from rfl)
  dsimp only at KX
  obtain ⟨gc,cc,iG,f5,rfl,csz,pX,vI⟩:=hL.c.lY (k:=cpu) bj8
  dsimp only at f5 pX vI
  rw [f2] at f5
  rw [KX] at f5 vI
  injection f5 with f6 _ f7
  simp only [HL.rest] at hle
  refine tJ (⟨Tb,#[.int .u64 (t.x0:Int),.int .u64 (t.x1:Int),.int .u64 (t.x2:Int),.int .u64 (t.x3:Int),.int .u64 (t.x4:Int),.int .u64 (t.x5:Int),.int .u64 (t.x6:Int),.int .u64 (t.x7:Int),.int .u64 (t.pc:Int),.int .u64 (t.oD:Int),.int .u64 (t.jq:Int),.int .u64 (t.oG:Int),.int .u64 (t.Be:Int),.int .u64 (t.Bf:Int),.int .u64 (t.far:Int)],78⟩::⟨Hb,#[.slice s2.p1 256 s2.c1,.slice (some ⟨gc,0,none⟩) 2 cc,.slice s2.p3 4 s2.c3,.slice s2.p4 2 s2.c4],29⟩::⟨Pb,#[.slice u0 k0 m0,.slice u1 k1 m1,.slice u2 k2 m2,.slice u3 k3 m3,.slice u4 A.length mc],59⟩::⟨gc,iG,84⟩::(hw++(ht++(hvv++(hz++hr))))) (by rw [f6,f7];(exact cnt1 hle)) ?_
  refine run ?_
  refine ja be8 (wu rfl rfl i 2 be8 be8 be6) ?_
  rw [← yz]
  obtain ⟨a2,b2,cs2,hL2,hpk⟩:=Xv hL hc2 i (g:=gc) (cc:=cc) (iG:=iG) (by dsimp only;rw [f2,f6,f7]) rfl
  have aK4:=yM hL2 (show (uK a2 b2 t).cs.length=2 from rfl)
  dsimp only at hL2 aK4
  obtain ⟨C2,hC2⟩:∃ C2,C2=(iG.setIfInBounds (cpu * 19 + 8) (.int .u64 (i:Int))).setIfInBounds (cpu * 19 + 2) (.int .u64 77):=⟨_,rfl⟩
  obtain ⟨r2,hr2⟩:∃ r2,r2=vU ((uK a b t).cu cpu).r i:=⟨_,rfl⟩
  rw [← hr2] at hpk
  rw [← hC2] at hL2
  have hrow:(cs2.getD cpu default).r=r2:=by
   have:=congrArg qJ.r (yj hL2.ec cpu)
   exact this.trans (hpk t)
  obtain ⟨g3,c3',wF,e31,e32,sz3,aK5,QO⟩:=hL2.c.lY (k:=cpu) bj8
  cases e32
  have tR:=rP (a:=nT (cs2.getD cpu default).r) aK5 rfl
  rw [hrow] at tR
  refine run ?_
  rw [← hC2]
  refine run ?_
  intro Ob
  have hd:=fun (wc:World) (hh:Here (hw++([⟨gc,C2,84⟩]++(ht++(hvv++(hz++hr))))) wc)=>Xr cpu hc2 a2 b2 t hL2 (w:=wc) hh
  dsimp only at hd
  rw [f2,f6,f7] at hd
  refine dJ (fun wc hG=>hd wc (fun e he=>hG.here e bg1)) ?_
  intro u9 hn9 hu9
  obtain ⟨l1,l2,l3,l4⟩:=aA' cpu hc2 a2 b2 t
  obtain ⟨s3,hk3,rfl,hO3,aB1⟩:=Iu l1 l2 l3 l4 hu9 0
  obtain ⟨sk3,y1,y2,y3,y4,z1,z2,z3,z4,hs3⟩:=s3
  obtain ⟨L3,hL3,⟨j1,j2,j3,j4⟩,hle3⟩:=hO3
  obtain ⟨wv3,N8,vv3,rv3,cs3,vs3,hw3,aZ1,ht3,hv3,hz3,hr3⟩:=L3
  dsimp only at hk3 j1 j2 j3 j4 hle3 aB1
  subst j1 j3 j4
  have an5:=yM hL3 l2
  dsimp only at an5
  obtain ⟨gx,cx,Ti,j5,rfl,xsz,an6,an7⟩:=hL3.c.lY (k:=cpu) bj8
  dsimp only at j5 an6 an7
  rw [j2,an5] at j5
  rw [an5] at an7
  cases j5
  have hxu:=yj hL3.ec cpu
  rw [show (Ar cpu a2 b2 t).cs.getD cpu default=⟨t,1,0,[],[]⟩ by
   obtain e | e:cpu=0∨cpu=1:=by omega
   ·rw [e];rfl
   ·rw [e];rfl] at hxu
  have tX:=rP (a:=nT (cs3.getD cpu default).r) an6 rfl
  rw [show (cs3.getD cpu default).r=t from congrArg qJ.r hxu] at tX
  have nX:=an6 15 _ rfl
  rw [show (cs3.getD cpu default).vm=1 from congrArg qJ.vm hxu] at nX
  simp only [HL.rest] at hle3
  refine aP (⟨Ob,#[.int .u64 (r2.x0:Int),.int .u64 (r2.x1:Int),.int .u64 (r2.x2:Int),.int .u64 (r2.x3:Int),.int .u64 (r2.x4:Int),.int .u64 (r2.x5:Int),.int .u64 (r2.x6:Int),.int .u64 (r2.x7:Int),.int .u64 (r2.pc:Int),.int .u64 (r2.oD:Int),.int .u64 (r2.jq:Int),.int .u64 (r2.oG:Int),.int .u64 (r2.Be:Int),.int .u64 (r2.Bf:Int),.int .u64 (r2.far:Int)],78⟩::⟨Tb,#[.int .u64 (t.x0:Int),.int .u64 (t.x1:Int),.int .u64 (t.x2:Int),.int .u64 (t.x3:Int),.int .u64 (t.x4:Int),.int .u64 (t.x5:Int),.int .u64 (t.x6:Int),.int .u64 (t.x7:Int),.int .u64 (t.pc:Int),.int .u64 (t.oD:Int),.int .u64 (t.jq:Int),.int .u64 (t.oG:Int),.int .u64 (t.Be:Int),.int .u64 (t.Bf:Int),.int .u64 (t.far:Int)],78⟩::⟨Hb,#[.slice s2.p1 256 s2.c1,.slice (some ⟨gc,0,none⟩) 2 cc,.slice s2.p3 4 s2.c3,.slice s2.p4 2 s2.c4],29⟩::⟨Pb,#[.slice u0 k0 m0,.slice u1 k1 m1,.slice u2 k2 m2,.slice u3 k3 m3,.slice u4 A.length mc],59⟩::⟨gx,Ti,84⟩::(hw3++(ht3++(hv3++(hz3++hr3))))) (by (refine bu fun a=>?_;have:=aC.cnt aB1 a;have:=aC.cnt hle3 a;simp only [bV,aV,gQ] at *;omega)) ?_
  refine run ?_
  intro Xb
  refine kC ?_
  refine bP ?_
  refine dM (fun wc hG=>vF 0 wc) ?_
  refine bP ?_
  rw [show aW (nT t) [.int .u64 (t.x0:Int),.int .u64 (t.x1:Int),.int .u64 (t.x2:Int),.int .u64 (t.x3:Int),.int .u64 (t.x4:Int),.int .u64 (t.x5:Int),.int .u64 (t.x6:Int),.int .u64 (t.x7:Int),.int .u64 (t.pc:Int),.int .u64 (t.oD:Int),.int .u64 (t.jq:Int),.int .u64 (t.oG:Int),.int .u64 (t.Be:Int),.int .u64 (t.Bf:Int),.int .u64 (t.far:Int)]=true from (Vq t t).trans (decide_eq_true rfl)]
  refine bP ?_
  refine az ?_
  obtain ⟨bA,oA,rfl⟩:=hq (by intro e;rw [e] at hiL;cases hiL)
  have hact:=hA.row (k:=i) be5
  have hfr:=au (bg (k:=3) (n:=1) hact rfl)
  have hmd:=au (bg (k:=4) (n:=1) hact rfl)
  generalize (A.getD i default).frame=fr at hfr
  generalize (A.getD i default).mid=md at hmd
  refine uo 29 23 [0,1,2,3,4,5,6,7,8,9,10,11,12,13,14,15,16,17,18,19,20,21,22,24,26,27] [23,25,28] [⟨Pb,#[.slice u0 k0 m0,.slice u1 k1 m1,.slice u2 k2 m2,.slice u3 k3 m3,.slice (some ⟨bA,oA,none⟩) A.length mc],59⟩] ?_
  refine jT ?_
  refine Yz rfl bg4 (fun hx9=>wu rfl rfl i 8 be8 be8 be6) ?_
  refine jT ?_
  refine Yz (v:=.int .u64 (IntKind.u64.wrap fr)) rfl bg4 (fun hx9=>TR ay rfl rfl rfl) ?_
  rw [KT]
  refine jT ?_
  refine UN (v:=.int .u64 (IntKind.u64.wrap md)) rfl bg4 (fun hx9=>TR ay rfl rfl rfl) ?_
  rw [KT]
  refine jT ?_
  rw [show 4 * (i:Int)=((4 * i:Nat):Int) by omega]
  obtain ⟨t1,ht1⟩:∃ t1,t1=aB0 t i (EF fr):=⟨_,rfl⟩
  refine rq (v:=.int .u64 ((EF fr:Nat):Int)) ay (b:=Tb) (cs:=#[.int .u64 (t.x0:Int),.int .u64 (t.x1:Int),.int .u64 (t.x2:Int),.int .u64 (t.x3:Int),.int .u64 (t.x4:Int),.int .u64 (t.x5:Int),.int .u64 (t.x6:Int),.int .u64 (t.x7:Int),.int .u64 (t.pc:Int),.int .u64 (t.oD:Int),.int .u64 (t.jq:Int),.int .u64 (t.oG:Int),.int .u64 (t.Be:Int),.int .u64 (t.Bf:Int),.int .u64 (t.far:Int)]) (cs':=#[.int .u64 (t1.x0:Int),.int .u64 (t1.x1:Int),.int .u64 (t1.x2:Int),.int .u64 (t1.x3:Int),.int .u64 (t1.x4:Int),.int .u64 (t1.x5:Int),.int .u64 (t1.x6:Int),.int .u64 (t1.x7:Int),.int .u64 (t1.pc:Int),.int .u64 (t1.oD:Int),.int .u64 (t1.jq:Int),.int .u64 (t1.oG:Int),.int .u64 (t1.Be:Int),.int .u64 (t1.Bf:Int),.int .u64 (t1.far:Int)]) (tb:=78) (off:=i % 8) (vs:=[.int .u64 ((EF fr:Nat):Int)]) (hp':=⟨Xb,#[.slice y1 256 z1,.slice (some ⟨gx,0,none⟩) 2 z2,.slice y3 4 z3,.slice y4 2 z4],29⟩::⟨Ob,#[.int .u64 (r2.x0:Int),.int .u64 (r2.x1:Int),.int .u64 (r2.x2:Int),.int .u64 (r2.x3:Int),.int .u64 (r2.x4:Int),.int .u64 (r2.x5:Int),.int .u64 (r2.x6:Int),.int .u64 (r2.x7:Int),.int .u64 (r2.pc:Int),.int .u64 (r2.oD:Int),.int .u64 (r2.jq:Int),.int .u64 (r2.oG:Int),.int .u64 (r2.Be:Int),.int .u64 (r2.Bf:Int),.int .u64 (r2.far:Int)],78⟩::⟨Hb,#[.slice s2.p1 256 s2.c1,.slice (some ⟨gc,0,none⟩) 2 cc,.slice s2.p3 4 s2.c3,.slice s2.p4 2 s2.c4],29⟩::⟨Pb,#[.slice u0 k0 m0,.slice u1 k1 m1,.slice u2 k2 m2,.slice u3 k3 m3,.slice (some ⟨bA,oA,none⟩) A.length mc],59⟩::⟨gx,Ti,84⟩::(hw3++(ht3++(hv3++(hz3++hr3))))) rfl rfl rfl rfl rfl rfl aJ rfl (show i % 8 + 1≤15 by omega) (by rw [ht1];exact Oc t i hi (EF fr)) aj ?_
  refine rq (v:=.int .u64 ((4 * i:Nat):Int)) ay (b:=Tb) (cs:=#[.int .u64 (t1.x0:Int),.int .u64 (t1.x1:Int),.int .u64 (t1.x2:Int),.int .u64 (t1.x3:Int),.int .u64 (t1.x4:Int),.int .u64 (t1.x5:Int),.int .u64 (t1.x6:Int),.int .u64 (t1.x7:Int),.int .u64 (t1.pc:Int),.int .u64 (t1.oD:Int),.int .u64 (t1.jq:Int),.int .u64 (t1.oG:Int),.int .u64 (t1.Be:Int),.int .u64 (t1.Bf:Int),.int .u64 (t1.far:Int)]) (cs':=#[.int .u64 (t1.x0:Int),.int .u64 (t1.x1:Int),.int .u64 (t1.x2:Int),.int .u64 (t1.x3:Int),.int .u64 (t1.x4:Int),.int .u64 (t1.x5:Int),.int .u64 (t1.x6:Int),.int .u64 (t1.x7:Int),.int .u64 ((4 * i:Nat):Int),.int .u64 (t1.oD:Int),.int .u64 (t1.jq:Int),.int .u64 (t1.oG:Int),.int .u64 (t1.Be:Int),.int .u64 (t1.Bf:Int),.int .u64 (t1.far:Int)]) (tb:=78) (off:=8) (vs:=[.int .u64 ((4 * i:Nat):Int)]) (hp':=⟨Xb,#[.slice y1 256 z1,.slice (some ⟨gx,0,none⟩) 2 z2,.slice y3 4 z3,.slice y4 2 z4],29⟩::⟨Ob,#[.int .u64 (r2.x0:Int),.int .u64 (r2.x1:Int),.int .u64 (r2.x2:Int),.int .u64 (r2.x3:Int),.int .u64 (r2.x4:Int),.int .u64 (r2.x5:Int),.int .u64 (r2.x6:Int),.int .u64 (r2.x7:Int),.int .u64 (r2.pc:Int),.int .u64 (r2.oD:Int),.int .u64 (r2.jq:Int),.int .u64 (r2.oG:Int),.int .u64 (r2.Be:Int),.int .u64 (r2.Bf:Int),.int .u64 (r2.far:Int)],78⟩::⟨Hb,#[.slice s2.p1 256 s2.c1,.slice (some ⟨gc,0,none⟩) 2 cc,.slice s2.p3 4 s2.c3,.slice s2.p4 2 s2.c4],29⟩::⟨Pb,#[.slice u0 k0 m0,.slice u1 k1 m1,.slice u2 k2 m2,.slice u3 k3 m3,.slice (some ⟨bA,oA,none⟩) A.length mc],59⟩::⟨gx,Ti,84⟩::(hw3++(ht3++(hv3++(hz3++hr3))))) rfl rfl rfl rfl rfl rfl aJ rfl (Nat.le_of_ble_eq_true rfl) rfl aj ?_
  refine rq (v:=.int .u64 ((EF md:Nat):Int)) ay (b:=Tb) (cs:=#[.int .u64 (t1.x0:Int),.int .u64 (t1.x1:Int),.int .u64 (t1.x2:Int),.int .u64 (t1.x3:Int),.int .u64 (t1.x4:Int),.int .u64 (t1.x5:Int),.int .u64 (t1.x6:Int),.int .u64 (t1.x7:Int),.int .u64 ((4 * i:Nat):Int),.int .u64 (t1.oD:Int),.int .u64 (t1.jq:Int),.int .u64 (t1.oG:Int),.int .u64 (t1.Be:Int),.int .u64 (t1.Bf:Int),.int .u64 (t1.far:Int)]) (cs':=#[.int .u64 (t1.x0:Int),.int .u64 (t1.x1:Int),.int .u64 (t1.x2:Int),.int .u64 (t1.x3:Int),.int .u64 (t1.x4:Int),.int .u64 (t1.x5:Int),.int .u64 (t1.x6:Int),.int .u64 (t1.x7:Int),.int .u64 ((4 * i:Nat):Int),.int .u64 ((EF md:Nat):Int),.int .u64 (t1.jq:Int),.int .u64 (t1.oG:Int),.int .u64 (t1.Be:Int),.int .u64 (t1.Bf:Int),.int .u64 (t1.far:Int)]) (tb:=78) (off:=9) (vs:=[.int .u64 ((EF md:Nat):Int)]) (hp':=⟨Xb,#[.slice y1 256 z1,.slice (some ⟨gx,0,none⟩) 2 z2,.slice y3 4 z3,.slice y4 2 z4],29⟩::⟨Ob,#[.int .u64 (r2.x0:Int),.int .u64 (r2.x1:Int),.int .u64 (r2.x2:Int),.int .u64 (r2.x3:Int),.int .u64 (r2.x4:Int),.int .u64 (r2.x5:Int),.int .u64 (r2.x6:Int),.int .u64 (r2.x7:Int),.int .u64 (r2.pc:Int),.int .u64 (r2.oD:Int),.int .u64 (r2.jq:Int),.int .u64 (r2.oG:Int),.int .u64 (r2.Be:Int),.int .u64 (r2.Bf:Int),.int .u64 (r2.far:Int)],78⟩::⟨Hb,#[.slice s2.p1 256 s2.c1,.slice (some ⟨gc,0,none⟩) 2 cc,.slice s2.p3 4 s2.c3,.slice s2.p4 2 s2.c4],29⟩::⟨Pb,#[.slice u0 k0 m0,.slice u1 k1 m1,.slice u2 k2 m2,.slice u3 k3 m3,.slice (some ⟨bA,oA,none⟩) A.length mc],59⟩::⟨gx,Ti,84⟩::(hw3++(ht3++(hv3++(hz3++hr3))))) rfl rfl rfl rfl rfl rfl aJ rfl (Nat.le_of_ble_eq_true rfl) rfl aj ?_
  refine dw ?_
  refine lg ?_
  obtain ⟨t3,aK6⟩:∃ t3:pU,t3={ t1 with pc:=4 * i,oD:=EF md }:=⟨_,rfl⟩
  refine aP (⟨Tb,#[.int .u64 (t3.x0:Int),.int .u64 (t3.x1:Int),.int .u64 (t3.x2:Int),.int .u64 (t3.x3:Int),.int .u64 (t3.x4:Int),.int .u64 (t3.x5:Int),.int .u64 (t3.x6:Int),.int .u64 (t3.x7:Int),.int .u64 (t3.pc:Int),.int .u64 (t3.oD:Int),.int .u64 (t3.jq:Int),.int .u64 (t3.oG:Int),.int .u64 (t3.Be:Int),.int .u64 (t3.Bf:Int),.int .u64 (t3.far:Int)],78⟩::⟨Xb,#[.slice y1 256 z1,.slice (some ⟨gx,0,none⟩) 2 z2,.slice y3 4 z3,.slice y4 2 z4],29⟩::⟨Ob,#[.int .u64 (r2.x0:Int),.int .u64 (r2.x1:Int),.int .u64 (r2.x2:Int),.int .u64 (r2.x3:Int),.int .u64 (r2.x4:Int),.int .u64 (r2.x5:Int),.int .u64 (r2.x6:Int),.int .u64 (r2.x7:Int),.int .u64 (r2.pc:Int),.int .u64 (r2.oD:Int),.int .u64 (r2.jq:Int),.int .u64 (r2.oG:Int),.int .u64 (r2.Be:Int),.int .u64 (r2.Bf:Int),.int .u64 (r2.far:Int)],78⟩::⟨Hb,#[.slice s2.p1 256 s2.c1,.slice (some ⟨gc,0,none⟩) 2 cc,.slice s2.p3 4 s2.c3,.slice s2.p4 2 s2.c4],29⟩::⟨Pb,#[.slice u0 k0 m0,.slice u1 k1 m1,.slice u2 k2 m2,.slice u3 k3 m3,.slice (some ⟨bA,oA,none⟩) A.length mc],59⟩::⟨gx,Ti,84⟩::(hw3++(ht3++(hv3++(hz3++hr3))))) (by rw [aK6];(exact aj)) ?_
  refine run ?_
  have oT:=an7 0 (nT t3) { cs3.getD cpu default with r:=t3 } be7 rfl ⟨rfl,rfl⟩
  simp only [putAt,Nat.add_zero] at oT
  generalize (((((((((((((((Ti.setIfInBounds (cpu * 19) (.int .u64 (t3.x0:Int))).setIfInBounds (cpu * 19 + 1) (.int .u64 (t3.x1:Int))).setIfInBounds (cpu * 19 + 1 + 1) (.int .u64 (t3.x2:Int))).setIfInBounds (cpu * 19 + 1 + 1 + 1) (.int .u64 (t3.x3:Int))).setIfInBounds (cpu * 19 + 1 + 1 + 1 + 1) (.int .u64 (t3.x4:Int))).setIfInBounds (cpu * 19 + 1 + 1 + 1 + 1 + 1) (.int .u64 (t3.x5:Int))).setIfInBounds (cpu * 19 + 1 + 1 + 1 + 1 + 1 + 1) (.int .u64 (t3.x6:Int))).setIfInBounds (cpu * 19 + 1 + 1 + 1 + 1 + 1 + 1 + 1) (.int .u64 (t3.x7:Int))).setIfInBounds (cpu * 19 + 1 + 1 + 1 + 1 + 1 + 1 + 1 + 1) (.int .u64 (t3.pc:Int))).setIfInBounds (cpu * 19 + 1 + 1 + 1 + 1 + 1 + 1 + 1 + 1 + 1) (.int .u64 (t3.oD:Int))).setIfInBounds (cpu * 19 + 1 + 1 + 1 + 1 + 1 + 1 + 1 + 1 + 1 + 1) (.int .u64 (t3.jq:Int))).setIfInBounds (cpu * 19 + 1 + 1 + 1 + 1 + 1 + 1 + 1 + 1 + 1 + 1 + 1) (.int .u64 (t3.oG:Int))).setIfInBounds (cpu * 19 + 1 + 1 + 1 + 1 + 1 + 1 + 1 + 1 + 1 + 1 + 1 + 1) (.int .u64 (t3.Be:Int))).setIfInBounds (cpu * 19 + 1 + 1 + 1 + 1 + 1 + 1 + 1 + 1 + 1 + 1 + 1 + 1 + 1) (.int .u64 (t3.Bf:Int))).setIfInBounds (cpu * 19 + 1 + 1 + 1 + 1 + 1 + 1 + 1 + 1 + 1 + 1 + 1 + 1 + 1 + 1) (.int .u64 (t3.far:Int)))=X3 at oT ⊢
  have hL4:=Xw hc2 hL3 t3 (g:=gx) (X3:=X3) (by dsimp only;rw [j2];exact oT)
  dsimp only at hL4
  have hd4:=fun (wc:World) (hh:Here (hw3++([⟨gx,X3,84⟩]++(ht3++(hv3++(hz3++hr3))))) wc)=>ZN cpu hc2 a2 b2 t3 hL4 (w:=wc) hh
  dsimp only at hd4
  rw [j2] at hd4
  refine dJ (fun wc hG=>hd4 wc (fun e he=>hG.here e bg1)) ?_
  intro u8 hn8 hu8
  obtain ⟨l5,l6,l7,l8⟩:=aK2 a2 b2 t3
  obtain ⟨s5,hk5,rfl,hO5,aB2⟩:=Iu l5 l6 l7 l8 hu8 0
  obtain ⟨sk5,w1,w2,w3,w4,v1,v2,v3,v4,hs5⟩:=s5
  obtain ⟨L5,hL5,⟨i1,i2,i3,i4⟩,NH⟩:=hO5
  obtain ⟨wv5,cv5,vv5,rv5,cs5,vs5,hw5,aZ3,ht5,hv5,hz5,hr5⟩:=L5
  dsimp only at hk5 i1 i2 i3 i4 NH aB2
  subst i1 i3 i4
  have aB3:=yM hL5 l6
  dsimp only at aB3
  obtain ⟨g5,c5,aB4,i5,rfl,ysz,an8,_⟩:=hL5.c.lY (k:=cpu) bj8
  dsimp only at i5 an8
  rw [i2,aB3] at i5
  cases i5
  have hyu:=yj hL5.ec cpu
  have tY:=rP (a:=nT (cs5.getD cpu default).r) an8 rfl
  rw [show (cs5.getD cpu default).r=r2 from (congrArg qJ.r hyu).trans (hpk t3)] at tY
  have nY:=an8 15 _ rfl
  rw [show (cs5.getD cpu default).vm=0 by
   have h1:=congrArg qJ.vm hyu
   obtain e | e:cpu=0∨cpu=1:=by omega
   ·rw [e] at h1 ⊢;exact h1
   ·rw [e] at h1 ⊢;exact h1] at nY
  simp only [HL.rest] at NH
  refine aP (⟨Ob,#[.int .u64 (r2.x0:Int),.int .u64 (r2.x1:Int),.int .u64 (r2.x2:Int),.int .u64 (r2.x3:Int),.int .u64 (r2.x4:Int),.int .u64 (r2.x5:Int),.int .u64 (r2.x6:Int),.int .u64 (r2.x7:Int),.int .u64 (r2.pc:Int),.int .u64 (r2.oD:Int),.int .u64 (r2.jq:Int),.int .u64 (r2.oG:Int),.int .u64 (r2.Be:Int),.int .u64 (r2.Bf:Int),.int .u64 (r2.far:Int)],78⟩::⟨Tb,#[.int .u64 (t3.x0:Int),.int .u64 (t3.x1:Int),.int .u64 (t3.x2:Int),.int .u64 (t3.x3:Int),.int .u64 (t3.x4:Int),.int .u64 (t3.x5:Int),.int .u64 (t3.x6:Int),.int .u64 (t3.x7:Int),.int .u64 (t3.pc:Int),.int .u64 (t3.oD:Int),.int .u64 (t3.jq:Int),.int .u64 (t3.oG:Int),.int .u64 (t3.Be:Int),.int .u64 (t3.Bf:Int),.int .u64 (t3.far:Int)],78⟩::⟨Hb,#[.slice s2.p1 256 s2.c1,.slice (some ⟨gc,0,none⟩) 2 cc,.slice s2.p3 4 s2.c3,.slice s2.p4 2 s2.c4],29⟩::⟨Pb,#[.slice u0 k0 m0,.slice u1 k1 m1,.slice u2 k2 m2,.slice u3 k3 m3,.slice (some ⟨bA,oA,none⟩) A.length mc],59⟩::⟨g5,aB4,84⟩::(hw5++(ht5++(hv5++(hz5++hr5))))) (by (refine bu fun a=>?_;have:=aC.cnt aB2 a;have:=aC.cnt NH a;simp only [bV,aV,gQ] at *;omega)) ?_
  refine run ?_
  intro Yb
  refine kC ?_
  refine bP ?_
  refine dM (fun wc hG=>vF 0 wc) ?_
  refine bP ?_
  rw [show aW (nT r2) [.int .u64 (r2.x0:Int),.int .u64 (r2.x1:Int),.int .u64 (r2.x2:Int),.int .u64 (r2.x3:Int),.int .u64 (r2.x4:Int),.int .u64 (r2.x5:Int),.int .u64 (r2.x6:Int),.int .u64 (r2.x7:Int),.int .u64 (r2.pc:Int),.int .u64 (r2.oD:Int),.int .u64 (r2.jq:Int),.int .u64 (r2.oG:Int),.int .u64 (r2.Be:Int),.int .u64 (r2.Bf:Int),.int .u64 (r2.far:Int)]=true from (Vq r2 r2).trans (decide_eq_true rfl)]
  refine bP ?_
  refine az ?_
  refine aK ⟨i + 1,⟨0,w1,some ⟨g5,0,none⟩,w3,w4,v1,v2,v3,v4,hw5++([⟨g5,aB4,84⟩]++(ht5++(hv5++(hz5++hr5))))⟩,a2,b2,t3⟩ ⟨by dsimp only;omega,by dsimp only;omega,⟨_,hL5,⟨rfl,i2,rfl,rfl⟩,aC.refl _⟩⟩ (hm:=by dsimp only;omega) (h2:=by dsimp only;(exact aj))
end
section
open Go.ChangeShapes Go.WideShapes Go.ChangeAt Go.RowKit
structure ZO (w:World) (a b c d lv:Value) (A:List DK):Prop where
 l:aF w lv 8 (A.map Ws)
 s:∃ p1 p2 p3 p4 n1 n2 n3 n4 c1 c2 c3 c4:_,a=.slice p1 n1 c1∧b=.slice p2 n2 c2∧c=.slice p3 n3 c3∧d=.slice p4 n4 c4
theorem EG {w:World} {a b c d lv:Value} {L:List DK} (h:ZO w a b c d lv L):Fn Tryz.prog 14 [.agg #[a,b,c,d,lv]].toArray w [] (fun u _=>u=.bool true):=by
 obtain ⟨hl,p1,p2,p3,p4,n1,n2,n3,n4,c1,c2,c3,c4,rfl,rfl,rfl,rfl⟩:=h
 obtain ⟨q,cap,rfl,hne,_⟩:=hl.opened
 exact Oe L hl hne
section
variable {H : Type} {enc : TypeId × Value → H} {w : World} {base : Nat} {spare : Nat → Bool} {held : Bool}
theorem EH {fuel:Nat} {cs:List Value} {x:DataW H × List MemPlace} (h:DataW.trod enc Tryz.prog w base spare held fuel 59 cs=some x) (hz:Yq Tryz.prog 59 x.1):∃ a b c d lv L,cs=[a,b,c,d,lv]∧ZO w a b c d lv L:=by
 obtain ⟨hl,n,hf⟩:=tZ Tryz.underlying59 h hz
 rw [lV (show fP Tryz.prog 59=some 5 from ay.BG rfl)] at hl
 match cs,hl with
 | [c0,c1,c2,c3,c4],_=>
  have s2:Tryz.prog.cellsOf 29=4:=by kernel_rfl
  have s3:Tryz.prog.cellsOf 57=1:=by kernel_rfl
  have s4:Tryz.prog.cellsOf 24=1:=by kernel_rfl
  have s5:Tryz.prog.cellsOf 25=1:=by kernel_rfl
  have s6:Tryz.prog.cellsOf 26=1:=by kernel_rfl
  have s7:Tryz.prog.cellsOf 27=1:=by kernel_rfl
  have s8:Tryz.prog.cellsOf 22=1:=by kernel_rfl
  obtain ⟨_,h1,z1⟩:=hf 0 _ rfl
  obtain ⟨_,h2,z2⟩:=hf 1 _ rfl
  simp only [List.getElem_toArray,List.getElem_cons_zero,List.getElem_cons_succ,s2,s3,List.drop_zero,List.drop_succ_cons,List.take_succ_cons,List.take_zero] at h1 h2 z1 z2
  obtain ⟨_,n2,hg⟩:=tZ Tryz.underlying29 h1 z1
  obtain ⟨_,g0,y0⟩:=hg 0 _ rfl
  obtain ⟨_,g1,_⟩:=hg 1 _ rfl
  obtain ⟨_,g2,_⟩:=hg 2 _ rfl
  obtain ⟨_,g3,_⟩:=hg 3 _ rfl
  simp only [List.getElem_toArray,List.getElem_cons_zero,List.getElem_cons_succ,s4,s5,s6,s7,List.drop_zero,List.drop_succ_cons,List.take_succ_cons,List.take_zero] at g0 g1 g2 g3 y0
  obtain ⟨_,n3,hk⟩:=tZ Tryz.underlying24 g0 y0
  obtain ⟨_,k0,_⟩:=hk 0 _ rfl
  simp only [List.getElem_toArray,List.getElem_cons_zero,List.getElem_cons_succ,s8,List.drop_zero,List.take_succ_cons,List.take_zero] at k0
  obtain ⟨p,q,c,e1⟩:=open_any Tryz.underlying22 k0
  obtain ⟨p2,q2,d2,e2⟩:=open_any Tryz.underlying25 g1
  obtain ⟨p3,q3,d3,e3⟩:=open_any Tryz.underlying26 g2
  obtain ⟨p4,q4,d4,e4⟩:=open_any Tryz.underlying27 g3
  obtain ⟨lv,L,e5,l5,_⟩:=RP h2 z2
  cases e1;cases e2;cases e3;cases e4;cases e5
  exact ⟨_,_,_,_,_,L,rfl,l5,⟨_,_,_,_,_,_,_,_,_,_,_,_,rfl,rfl,rfl,rfl⟩⟩
end
end
end Go.Proofs.YtiaelhhmlbfkmaaGreat
