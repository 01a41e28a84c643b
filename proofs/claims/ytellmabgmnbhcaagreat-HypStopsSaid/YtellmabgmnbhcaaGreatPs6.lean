/- Texts of one's own, merged: the engine, what the functions do, plain laws. -/
import Derived.Test.YtellmabgmnbhcaaGreatPs5
namespace Go.Proofs.YtellmabgmnbhcaaGreat
open Go.RowKit
set_option linter.unusedVariables false
set_option linter.unusedSimpArgs false
set_option maxRecDepth 20000
variable {w:World}{v wv cv:Value}{P:PtD}{k X fuel:Nat}{H:HyD}
section
attribute [local irreducible] Hy St Ops DH dH
theorem YE{ha:Hp}(xs:List jQ)(i:Nat)(x:jQ)(vb tv:Nat)(hA:Own 173 2 v ha (xs.map eF))(hN:dY ha w)(hvb:w.heap[vb]?=some (.cells (eF x).toArray tv (0,0)))(hne:vb∉ha.map (·.b))(hi:i≤xs.length)(hl:xs.length<100000):
  Fn Tryz.prog 301 [v,.int .i64 (i:Int),.slice (some ⟨vb,0,none⟩) 1 1].toArray w (ha.map (·.b)) (fun u hn=>Own 173 2 u hn ((xs.take i++x::xs.drop i).map eF)):=by
 obtain⟨q,cap,ev⟩:=hA.opened;rw[bH7] at ev;subst ev;refine dS _ hN Tryz.func301 ?_;have Zq:w.rangeAt vb 0 (eF x):=fun j u hj=>by rw[bK2,cell_of_block hvb];simpa using hj
 refine aP ?_;refine jI bB8 (zX aB rfl rfl rfl bB3 bB3) ?_;refine aP ?_;refine ah _ rfl (fun hc=>?_) (fun hc=>?_)
 ·have hin:i=xs.length:=by simp at hc;omega
  subst hin;refine aP ?_;refine wz (c:=eF x) [] hA (fun v' ha' hA'=>?_) bB6 (yt Zq hne) (by rw[bI']);refine aP ?_;refine fin1 ?_;rw[bI',bN4,List.drop_length,bJ4];exact hA'
 have hlt:i<xs.length:=by simp at hc;omega
 obtain⟨g,cap',cur,ev,rfl,hr⟩:=hA.row (n:=xs.length) bB5 bB3;cases ev;have hsz:=hr.size;have hcap:=hr.le;have hmax:=hr.max;have hall:=hA.1;have hlen:(xs.map eF).flatten.length=xs.length*2:=hr.len;simp only[bL9,bO9,bN3] at hne;have hxs:(xs.map eF).flatten=((xs.take i).map eF).flatten++((xs.drop i).map eF).flatten:=by rw[←bU7,←bJ4,bZ0]
 have hTl:((xs.take i).map eF).flatten.length=i*2:=by rw[dU (sz:=2) _ (fun c hc=>(A7 c hc).1),bH7,bK',bP7 bB3]
 have hDl:((xs.drop i).map eF).flatten.length=(xs.length-i)*2:=by rw[dU (sz:=2) _ (fun c hc=>(A7 c hc).1),bH7,bN9]
 have hA0:cur.toList.take (i*2)=((xs.take i).map eF).flatten:=by
  rw[←bP7 (show i*2≤xs.length*2 by omega),←bX0,hr.take,hxs];exact bV1 hTl
 have hD:(cur.toList.drop (i*2)).take ((xs.length-i)*2)=((xs.drop i).map eF).flatten:=by
  have h1:=hr.take;rw[hxs] at h1;have h2:(cur.toList.take (xs.length*2)).drop (i*2)=((xs.drop i).map eF).flatten:=by rw[h1];exact List.drop_left' hTl
  rw[List.drop_take] at h2;rw[←h2];congr 1;omega
 have hD1:(((xs.drop i).map eF).flatten).all (·.oneCell')=true:=by
  rw[List.all_flatten,bH'];exact fun c hc=>(A7 c hc).2
 have hlen2:((xs.take i++x::xs.drop i).map eF).length=xs.length+1:=by
  simp only[bH7,bJ9,bK',bL6,bN9];omega
 have hall':∀ c∈(xs.take i++x::xs.drop i).map eF,c.length=2∧c.all (·.oneCell')=true:=A7;refine aP ?_;refine jI bB8 (aI' aB rfl rfl) ?_;refine aP ?_;refine ah _ rfl (fun hroom=>?_) (fun hroom=>?_)
 ·have hroom':cap<xs.length+1:=by simp at hroom;omega
  refine aP ?_;refine jI bB8 (pX aB rfl rfl rfl bB3 bB3 (m':=i) bB5 (.inr ⟨_,_,rfl⟩)) ?_;refine aP ?_;rw[show ((xs.length+1:Nat):Int)-(i:Int)=((xs.length+1-i:Nat):Int) by omega];refine SN (olds:=((xs.take i).map eF).flatten) aB bB8 rfl rfl rfl rfl rfl rfl rfl rfl hTl (aY (m:=i*2) mh (by rw[bL'];exact hA0)) bB3 bB3 bB3 bB3 (fun g2 cap2 UH hs2 hc2 hm2 ht2=>?_);have hts:i+(xs.length+1-i)=xs.length+1:=by omega
  rw[hts] at hc2 ⊢;refine aP ?_;refine jI bB8 (l9 aB rfl rfl rfl bB3 bB3 bB3 (o':=i*2) (m':=xs.length+1-i) (c':=cap2-i) bB5 bB5 bB5) ?_;refine aP ?_;refine IL (news:=eF x) (cs:=UH) aB bB8 rfl rfl rfl (.refl _) ?_ ?_ rfl ?_ ?_
  ·show 2=_;omega
  ·exact yt Zq bH3
  ·show i*2+2≤_;omega
  refine aP ?_;refine gU 8 ?_;refine dI ?_;refine NJ (l9 aB rfl rfl rfl bB3 bB3 bB3 (o':=i*2+2) (m':=xs.length-i) (c':=cap2-(i+1)) bB3 bB3 bB3) ?_;refine dI ?_;refine NJ (l9 aB rfl rfl rfl bB3 bB3 bB3 (o':=i*2) (m':=xs.length-i) (c':=cap-i) bB3 bB3 bB3) ?_;refine dI ?_;refine aP ?_;refine IL (news:=((xs.drop i).map eF).flatten) aB bB8 rfl rfl rfl (.refl _) ?_ (aY (m:=(xs.length-i)*2) (mt mh) hD) ?_ ?_ ?_
  ·rw[hDl];omega
  ·exact hD1
  ·rw[fO,hDl];omega
  refine aS [⟨g2,putAt (putAt UH (i*2) (eF x)) (i*2+2) ((xs.drop i).map eF).flatten,173⟩] ak ?_;refine aP ?_;refine fin1 ?_;have hfl:((xs.take i++x::xs.drop i).map eF).flatten=((xs.take i).map eF).flatten++eF x++((xs.drop i).map eF).flatten:=by simp
  have hb:=Og (cs:=UH) (A:=((xs.take i).map eF).flatten) (c:=eF x) (D:=((xs.drop i).map eF).flatten) (by rw[hTl];exact ht2) (by rw[hTl,hDl];show i*2+2+_≤_;omega);rw[hTl,hDl,show (eF x).length=2 from rfl] at hb;refine⟨hall',.inr ⟨g2,cap2,_,by rw[hlen2],rfl,?_⟩⟩;rw[hlen2];refine⟨by rw[hfl,bJ9,bJ9,hTl,hDl];show i*2+2+_=_;omega,hc2,hm2,by rw[fO,fO];exact hs2,?_⟩;rw[hfl,←hb]
  congr 1;omega
 ·have hroom':xs.length+1≤cap:=by simp at hroom;omega
  refine aP ?_;refine jI bB8 (pX aB rfl rfl rfl bB3 bB3 (m':=xs.length+1) bB3 (.inr ⟨_,_,rfl⟩)) ?_;refine aP ?_;refine jI bB8 (l9 aB rfl rfl rfl bB3 bB3 bB3 (o':=i*2+2) (m':=xs.length-i) (c':=cap-(i+1)) bB3 bB3 bB3) ?_;refine aP ?_;refine jI bB8 (aI9 (v:=.bool false) rfl (fun w' hG=>?_)) ?_
  ·have hg:=hG.here ⟨g,cur,173⟩ bB5
   have hv':w'.heap[vb]?=some (.cells (eF x).toArray tv (0,0)):=by
    rw[hG.old vb ?_ bH3]
    ·exact hvb
    ·exact (bK5.1 hvb).1
   have hr:=Lib.run_overlaps_apart (P:=Tryz.prog) w' 92 4 173 (aB.zJ (t:=92) (e:=173) (s:=2) rfl).1 2 (fun w=>run_sizeOf (aB.zJ (t:=92) (e:=173) (s:=2) rfl).2 w) ⟨vb,0,none⟩ ⟨g,i*2+2,none⟩ 1 1 (xs.length-i) (cap-(i+1)) bH3 tv 173 2 cur.size (by simp only[World.shape?,hv'];rfl) (by simp only[World.shape?,hg]) bB3 (fQ hv') (fQ hv');rw[run_callFunc_extern Tryz.func338 bC3 bC3 bC3 (e:=Extern.SlicesOverlaps.overlaps #[92,92] #[4]) bC3];rw[show ([Value.slice (some ⟨vb,0,none⟩) 1 1,.slice (some ⟨g,i*2+2,none⟩) (xs.length-i) (cap-(i+1))]:List Value).toArray=#[Value.slice (some ⟨vb,0,none⟩) 1 1,.slice (some ⟨g,i*2+2,none⟩) (xs.length-i) (cap-(i+1))] from rfl,hr];rfl
  refine aP ?_;refine gU 8 ?_;refine dI ?_;refine NJ (l9 aB rfl rfl rfl bB3 bB3 bB3 (o':=i*2+2) (m':=xs.length-i) (c':=cap-(i+1)) bB3 bB3 bB3) ?_;refine dI ?_;refine NJ (l9 aB rfl rfl rfl bB3 bB3 bB3 (o':=i*2) (m':=xs.length+1-i) (c':=cap-i) bB3 bB3 bB3) ?_;refine dI ?_;refine aP ?_;refine IL (news:=((xs.drop i).map eF).flatten) aB bB8 rfl rfl rfl (.refl _) ?_ (aY (m:=(xs.length-i)*2) mh hD) ?_ ?_ ?_
  ·rw[hDl];omega
  ·exact hD1
  ·rw[hDl];omega
  refine aP ?_;refine jI bB8 (l9 aB rfl rfl rfl bB3 bB3 bB3 (o':=i*2) (m':=xs.length+1-i) (c':=cap-i) bB3 bB3 bB3) ?_;refine aP ?_;refine IL (news:=eF x) aB bB8 rfl rfl rfl (.refl _) ?_ ?_ rfl ?_ ?_
  ·show 2=_;omega
  ·exact yt Zq bH3
  ·rw[fO];show i*2+2≤_;omega
  refine aP ?_;refine fin1 ?_;have hfl:((xs.take i++x::xs.drop i).map eF).flatten=((xs.take i).map eF).flatten++eF x++((xs.drop i).map eF).flatten:=by simp
  have hb:=SQ (cs:=cur) (A:=((xs.take i).map eF).flatten) (c:=eF x) (D:=((xs.drop i).map eF).flatten) (by rw[hTl];exact hA0) (by rw[hTl,hDl];show i*2+2+_≤_;omega);rw[hTl,hDl,show (eF x).length=2 from rfl] at hb;refine⟨hall',.inr ⟨g,cap,_,by rw[hlen2],rfl,?_⟩⟩;rw[hlen2];refine⟨by rw[hfl,bJ9,bJ9,hTl,hDl];show i*2+2+_=_;omega,hroom',hmax,by rw[fO,fO];exact hsz,?_⟩;rw[hfl,←hb]
  congr 1;omega
namespace PtD
def a18(l:List jQ)(f:Int):List jQ:=l.filter fun m=>!decide (m.eu=f)
theorem UI{p:Nat→Bool}:∀ n,(∀ j,j<n→p j=false)∨∃ k,k<n∧p k=true∧∀ j,j<k→p j=false:=by
 intro n
 induction n with
 | zero=>exact .inl fun j hj=>absurd hj bB3
 | succ n ih=>
  rcases ih with h | ⟨k,hk,h1,h2⟩
  ·cases hn:p n
   ·refine .inl fun j hj=>?_;rcases bJ0.1 hj with hj | rfl
    ·exact h j hj
    ·exact hn
   ·exact .inr ⟨n,by omega,hn,h⟩
  ·exact .inr ⟨k,by omega,h1,h2⟩
end PtD
end
section
attribute [local irreducible] Hy St Ops DH dH
namespace PtD
def Na(P:PtD)(f:Int):Except Int PtD:=
 bif !dD f 16 ((P.pages.length:Int)-1) then .error 2 else bif decide ((P.pg f.toNat).own<1)||!(P.gs (ix (P.pg f.toNat).own)).dying then .error 7
 else .ok ((P.kH f.toNat ⟨0,-2⟩).iT (ix (P.pg f.toNat).own) { P.gs (ix (P.pg f.toNat).own) with dying:=(P.kH f.toNat ⟨0,-2⟩).owns (P.pg f.toNat).own })
end PtD
section
variable {P : PtD} {Y : Lay} {bx tx : Nat} {w : World}
end
end
section
attribute [local irreducible] Hy St Ops DH dH
section
variable {n : Nat} {w0 : World} {mu : List Nat} {l : Fm} {hp : Hp} {all : Array Oper} {ty : TypeId} {pos : String} {af : Array Edge} {ds : List (Nat × Nat)} {iv : Fm} {i d : Nat} {E : List Nat} {Rs : List (Nat × RT)} {Z : List (Nat × RT) → Prop}
theorem Ry{t len e sz:Nat}{z:Value}{ps:List (Nat×Operand)}{vs:List (Nat×Value)}{zl:List Value}{out:Array Value}{out':List Value}(h:iP Tryz.prog n w0 mu all ds l hp iv Z E ((i,fun v hn=>∃ b,v=.slice (some ⟨b,0,none⟩) len len∧hn=[⟨b,out'.toArray,e⟩])::Rs))(ho:all[i]?=some ⟨some d,.buildSlice t len ps.toArray,ty,pos,af,none⟩:=by rfl)(ht:lk Tb.sl t=some (e,sz):=by rfl)(hz:lk Tb.zs e=some z:=by rfl)(hzc:z.cells=zl.toArray:=by (first | ((simp only[Value.cells])<;>rfl) | rfl))(hzs:Nat.beq zl.length sz=true:=by rfl)(hpos:(Nat.blt 0 (len*sz)&&Nat.ble (len*sz) 16777216)=true:=by rfl)(hv:Fh (aT ds iv af.toList++l) ps=some vs:=by rfl)(hf:flS sz (rep zl len).toArray vs=some out:=by rfl)(hn:out=out'.toArray:=by (first | ((simp only[putAt,rep,Value.cells,Nat.reduceMul,bR6,Nat.one_mul,bK3,bP4,bO7,bR3,bR4,bL2,bL',bL7,bN0,bI0,bI3,bI'])<;>rfl) | rfl)):iP Tryz.prog n w0 mu all ds l hp iv Z (i::E) Rs:=
 Kv ho (zY aB ht hz hzc hzs hpos hv hf hn) ⟨_,_,0,rfl,rfl⟩ h
end
namespace PtD
def JE(l:List jQ)(mid eu:Int):List jQ:=l.take (og l mid)++⟨mid,eu⟩::l.drop (og l mid)
theorem YF(l:List jQ)(mid eu:Int):(JE l mid eu).length=l.length+1:=by
 have:=CU l mid;simp only[JE,bJ9,bK',bL6,bN9];omega
theorem YG{l:List jQ}{mid eu:Int}{x:jQ}(h:x∈JE l mid eu):x∈l∨x=⟨mid,eu⟩:=by
 rw[JE,bK4,bJ3] at h;rcases h with h | h | h
 ·exact .inl (bX6 h)
 ·exact .inr h
 ·exact .inl (List.mem_of_mem_drop h)
theorem UJ{l:List jQ}(hs:Sorted l)(h0:∀ k,k<l.length→0≤(l.getD k default).mid):∀ k,k<l.length→(k:Int)≤(l.getD k default).mid:=by
 intro k
 induction k with
 | zero=>intro h;exact h0 0 h
 | succ k ih=>intro h;have:=ih bB3;have:=hs k (k+1) bB3 h;omega
theorem ET(hm:P.may=true){i:Nat}(hi:i<4):(P.gs i).maps.length≤16:=by
 rcases bQ3 16 (P.gs i).maps.length with h | h
 ·have h1:=UJ (D6 hm hi) (fun k hk=>(CV hm hi hk).1) 16 h;have h2:=(CV hm hi h).2.1;omega
 ·exact h
def BN(P:PtD)(vm fr mid:Int)(x:o8):Except Int PtD:=
 bif !P.lives vm then .error 3 else bif !decide ((P.pg fr.toNat).own=0) then .error 7 else bif !(decide ((P.pg fr.toNat).wit= -2)&&!sU (P.gs (ix vm)).maps mid) then .error 4
 else .ok ((P.kH fr.toNat x).iT (ix vm) { P.gs (ix vm) with maps:=JE (P.gs (ix vm)).maps mid fr })
end PtD
theorem Good.Hr{w0:World}{mu:List Nat}{hi hp:Hp}(h:Good w0 mu (hi++hp) w){e:mO}(he:e∈hp):e.b∉hi.map (·.b):=by
 have hn:=h.nodup;rw[bJ4,bM3] at hn;intro hm;exact hn.2.2 _ hm _ (bI7.2 ⟨e,he,rfl⟩) rfl
section
variable {P : PtD} {Y : Lay} {bx tx : Nat} {w : World}
theorem dN.aO7(h:dN P Y){i:Nat}(hi:i<4)(ms:List jQ){mv:Value}{hm:Hp}(hA:Own 173 2 mv hm (ms.map eF))(hw:∀ x∈ms,I64 x.mid∧I64 x.eu)(hs:ms.length≤1000):∃ Y',dN (P.iT i { P.gs i with maps:=ms }) Y'∧Y'.hd (P.iT i { P.gs i with maps:=ms }) bx tx=⟨bx,#[Y.pv P,Y.gv P,Y.ov P],tx⟩::⟨Y.pb,Y.pc,51⟩::⟨Y.gb,putAt Y.gc (i*5+4) [mv],100⟩::⟨Y.ob,Y.oc,104⟩::zq (oZ Y.G i ⟨(Y.G i).vv,mv,(Y.G i).hv,hm⟩) 4:=by
 have g4:=h.n.g4;have hf:=h.wf.gs i bB3;have hsm:=h.sm.vc i bB3
 have hg:=h.Ce hi { P.gs i with maps:=ms } ⟨(Y.G i).vv,mv,(Y.G i).hv,hm⟩ (gc:=putAt Y.gc (i*5+4) [mv]) (by
  have:=h.gs.put qG (h.MV hi) (k:=4) (vs:=[mv]) bB5
  exact this) (h.vc i hi) hA ⟨hf.1,hf.2.1,hw⟩ ⟨hsm.1,hs⟩
 refine⟨_,hg,?_⟩;rw[hdG]
theorem aB9(h:dN P Y)(hm:P.may=true)(hN:dY (Y.hd P bx 149) w)(c:zx)(hw:c.Wf)(x:o8)(hx:I64 x.own∧I64 x.wit)(hf:PtD.dD c.frame 16 ((P.pages.length:Int)-1)=true)(hmd:PtD.dD c.mid 0 15=true):Fn Tryz.prog 232 [.pointer (some ⟨bx,0,none⟩),uw c,.agg #[.int .i64 x.own,.int .i64 x.wit]].toArray w ((Y.hd P bx 149).map (·.b)) (kT bx 149 (P.BN c.vm c.frame c.mid x)):=by
 simp only[PtD.dD,bH6,decide_eq_true_eq] at hf hmd;have hk:c.frame.toNat<P.pages.length:=by omega
 have hp0:=h.p0' hk;have hp1:=h.p1' hk;have hsm:=h.sm.pg;have bq5:=h.psz;have hz:=h.zO;have g4:=h.n.g4;refine dS _ hN Tryz.func232 ?_;refine run ?_;intro C;refine run ?_;intro D;refine run ?_;refine az (fun wc hG=>Dl (h.Yw (bx:=bx) (tx:=149) (show Here (Lay.hd Y P bx _) wc from hG.here' ak)) _) ?_;cases hb:P.lives c.vm
 ·refine aP ?_;refine fin1 ?_;simp[kT,PtD.BN,hb]
 have hb':=hb;simp only[PtD.lives,PtD.dD,bH6,decide_eq_true_eq] at hb';obtain⟨hv,hl⟩:=hb';have hi:ix c.vm<4:=BM hv;have hlen:=PtD.ET hm hi;refine aP ?_;refine az (fun wc hG=>MS (bx:=bx) (tx:=149) h (hG.here' ak) hv) ?_;rw[show (c.vm-1).toNat=ix c.vm from rfl];refine aP ?_;refine az (fun wc hG=>ai5 (P.gs (ix c.vm)).maps c.mid Y.gb (ix c.vm*5) (Y.G (ix c.vm)).mv ?_ (h.slM (bx:=bx) (tx:=149) hi (hG.here' ak)) hmd (fun k hk=>⟨(PtD.CV hm hi hk).1,(PtD.CV hm hi hk).2.1⟩) (PtD.D6 hm hi) bB3) ?_
 ·have h1:=h.gs.range qG (hG.here ⟨Y.gb,Y.gc,100⟩ bB5) (h.MV hi);have:=cO (k:=4) h1 rfl;rwa [bK2] at this
 refine aP ?_;refine gU 8 ?_;refine dI ?_;refine aP ?_;refine gU 16 ?_;refine bg ?_;refine fB (fun wc hG=>nZ _ _ wc) ?_;refine bg ?_;refine fB (fun wc hG=>nZ _ _ wc) ?_;refine bg ?_;refine run ?_;intro F;refine az (fun wc hG=>JC [_,_] _ (lits hG mh [_,_] rfl rfl bB5)) ?_
 have hkey:P.BN c.vm c.frame c.mid x=bif !decide ((P.pg c.frame.toNat).own=0) then .error 7 else bif !(decide ((P.pg c.frame.toNat).wit= -2)&&!PtD.sU (P.gs (ix c.vm)).maps c.mid) then .error 4
   else .ok ((P.kH c.frame.toNat x).iT (ix c.vm) { P.gs (ix c.vm) with maps:=PtD.JE (P.gs (ix c.vm)).maps c.mid c.frame }):=by
  rw[PtD.BN,hb];rfl
 rw[hkey];cases hA:decide ((P.pg c.frame.toNat).own=0)
 ·rw[show jR [bif false then 0 else 7,bif (decide ((P.pg c.frame.toNat).wit= -2)&&!PtD.sU (P.gs (ix c.vm)).maps c.mid) then 0 else 4]=7 from rfl];refine aP ?_;refine fin1 ?_;rfl
 cases hB:(decide ((P.pg c.frame.toNat).wit= -2)&&!PtD.sU (P.gs (ix c.vm)).maps c.mid)
 ·rw[show jR [bif true then 0 else 7,bif false then 0 else 4]=4 from rfl];refine aP ?_;refine fin1 ?_;rfl
 rw[show jR [bif true then 0 else 7,bif true then 0 else 4]=0 from rfl]
 have h0:=h.aO3 hk x (pc:=(Y.pc.setIfInBounds (c.frame.toNat*2) (.int .i64 x.own)).setIfInBounds (c.frame.toNat*2+1) (.int .i64 x.wit)) (by
  have:=h.pg.put AZ (MN hk) (k:=0) (vs:=sS x) (by simp[sS])
  exact this) hx
 have hd0:=hdP Y P c.frame.toNat x ((Y.pc.setIfInBounds (c.frame.toNat*2) (.int .i64 x.own)).setIfInBounds (c.frame.toNat*2+1) (.int .i64 x.wit)) bx 149;obtain⟨Y1,eY⟩:∃ Y1,Y1=({ Y with pc:=(Y.pc.setIfInBounds (c.frame.toNat*2) (.int .i64 x.own)).setIfInBounds (c.frame.toNat*2+1) (.int .i64 x.wit) }:Lay):=⟨_,rfl⟩
 rw[←eY] at h0 hd0;have hn4:=h.g4' hi;refine aP ?_;refine late 12 0 ?_;refine xB 12 [0,1,2,3,4,5,6,7,8,9,10] [11] [] ?_;refine gI ?_;refine Ry ?_;refine kL ?_;rintro _ _ ⟨V,rfl,rfl⟩;simp only[DN];refine jJ ?_;refine ry ?_;simp only[bI0,bI3];obtain⟨r,g1,g2⟩:=Dq Y.G hi;refine aS ((Y.G (ix c.vm)).hm++(⟨V,#[.int .i64 c.mid,.int .i64 c.frame],173⟩::⟨bx,#[Y.pv P,Y.gv P,Y.ov P],149⟩::⟨Y.pb,(Y.pc.setIfInBounds (c.frame.toNat*2) (.int .i64 x.own)).setIfInBounds (c.frame.toNat*2+1) (.int .i64 x.wit),51⟩::⟨Y.gb,Y.gc,100⟩::⟨Y.ob,Y.oc,104⟩::((Y.G (ix c.vm)).hv++r))) (cnt1 g1) ?_;refine iR (Y.G (ix c.vm)).hm _ (fun wc hG=>YE (P.gs (ix c.vm)).maps (PtD.og (P.gs (ix c.vm)).maps c.mid) ⟨c.mid,c.frame⟩ V _ (h.mp _ hi) hG.iG (hG.here ⟨V,#[.int .i64 c.mid,.int .i64 c.frame],173⟩ (bI4 _ mh)) (hG.Hr mh) (PtD.CU _ _) bB3) (fun mv hm' hI=>?_) (.refl _);have hI':Own 173 2 mv hm' ((PtD.JE (P.gs (ix c.vm)).maps c.mid c.frame).map eF):=hI;obtain⟨q,cap,ev⟩:=hI'.opened;subst ev;refine cZ (_++hm') bJ5 ?_;simp only[bI0,bI3];refine aP ?_;refine fin1 ?_;have hwf:=(h.wf.gs _ (show ix c.vm<P.ay.length by omega)).2.2
 obtain⟨Y2,h2,hd2⟩:=h0.aO7 hi (PtD.JE (P.gs (ix c.vm)).maps c.mid c.frame) hI' (fun y hy=>by
  rcases PtD.YG hy with h | rfl
  ·exact hwf y h
  ·exact⟨hw.mid,hw.frame⟩) (by rw[PtD.YF];omega) (bx:=bx) (tx:=149)
 refine⟨rfl,Y2,h2,WM hd2 ?_⟩;have g3:=g2 (Y.G (ix c.vm)).vv (.slice q (List.map eF (PtD.JE (P.gs (ix c.vm)).maps c.mid c.frame)).length cap) (Y.G (ix c.vm)).hv hm';rw[(List.cons.inj hd0).1,eY];simp only[putAt]
 (exact cnt1 g3)
end
end
section
attribute [local irreducible] Hy St Ops DH dH
namespace PtD
def YH(P:PtD)(vm fr mid:Int):Except Int PtD:=
 bif !dD fr 16 ((P.pages.length:Int)-1) then .error 2 else
 bif decide (vm=0) then (bif !decide ((P.pg fr.toNat).own=0) then .error 7 else bif !decide ((P.pg fr.toNat).wit= -2) then .error 4 else .ok (P.kH fr.toNat ⟨0,-1⟩))
 else bif !dD vm 1 4||!dD mid 0 15 then .error 2 else P.BN vm fr mid ⟨0,vm⟩
def o6(P:PtD)(vm fr mid:Int):Except Int PtD:=
 bif !dD vm 1 4||!dD fr 16 ((P.pages.length:Int)-1)||!dD mid 0 15 then .error 2 else P.BN vm fr mid ⟨vm,-2⟩
def Nc(P:PtD)(fr:Int):Except Int PtD:=
 bif !dD fr 16 ((P.pages.length:Int)-1) then .error 2 else bif !decide ((P.pg fr.toNat).own=0) then .error 7 else bif decide ((P.pg fr.toNat).wit= -2) then .error 6
 else bif decide (0<(P.pg fr.toNat).wit) then .ok ((P.iT (ix (P.pg fr.toNat).wit) { P.gs (ix (P.pg fr.toNat).wit) with maps:=a18 (P.gs (ix (P.pg fr.toNat).wit)).maps fr }).kH fr.toNat ⟨0,-2⟩)
 else .ok (P.kH fr.toNat ⟨0,-2⟩)
end PtD
section
variable {P : PtD} {Y : Lay} {bx tx : Nat} {w : World}
theorem YI(h:dN P Y)(hm:P.may=true)(hN:dY (Y.hd P bx 149) w)(c:zx)(hw:c.Wf):Fn Tryz.prog 148 [.pointer (some ⟨bx,0,none⟩),uw c].toArray w ((Y.hd P bx 149).map (·.b)) (kT bx 149 (P.o6 c.vm c.frame c.mid)):=by
 refine dS _ hN Tryz.func148 ?_;refine run ?_;intro C;refine run ?_;refine gU 10 ?_;refine dI ?_;refine fB (fun wc hG=>P7 _ wc) ?_;refine dI ?_;refine fB (fun wc hG=>MX (bx:=bx) (tx:=149) h (hG.here' ak) c.frame) ?_;refine dI ?_;refine fB (fun wc hG=>UB _ wc) ?_;refine dI ?_;refine run ?_;intro F;refine az (fun wc hG=>JC [_,_,_] _ (lits hG mh [_,_,_] rfl rfl bB5)) ?_;cases hA:PtD.dD c.vm 1 4
 ·rw[show jR [bif false then 0 else 2,bif PtD.dD c.frame 16 ((P.pages.length:Int)-1) then 0 else 2,bif PtD.dD c.mid 0 15 then 0 else 2]=2 from rfl];refine aP ?_;refine fin1 ?_;simp[kT,PtD.o6,hA]
 cases hb:PtD.dD c.frame 16 ((P.pages.length:Int)-1)
 ·rw[show jR [bif true then 0 else 2,bif false then 0 else 2,bif PtD.dD c.mid 0 15 then 0 else 2]=2 from rfl];refine aP ?_;refine fin1 ?_;simp[kT,PtD.o6,hA,hb]
 cases hB:PtD.dD c.mid 0 15
 ·rw[show jR [bif true then 0 else 2,bif true then 0 else 2,bif false then 0 else 2]=2 from rfl];refine aP ?_;refine fin1 ?_;simp[kT,PtD.o6,hA,hb,hB]
 rw[show jR [bif true then 0 else 2,bif true then 0 else 2,bif true then 0 else 2]=0 from rfl];have hkey:P.o6 c.vm c.frame c.mid=P.BN c.vm c.frame c.mid ⟨c.vm,-2⟩:=by rw[PtD.o6,hA,hb,hB];rfl
 rw[hkey];refine aP ?_;refine aS (Y.hd P bx 149++[⟨C,#[.int .i64 c.kind,.int .i64 c.vm,.int .i64 c.frame,.int .i64 c.mid,.int .i64 c.kX,.int .i64 c.mM],37⟩]) ak ?_;refine iR (Y.hd P bx 149) [⟨C,#[.int .i64 c.kind,.int .i64 c.vm,.int .i64 c.frame,.int .i64 c.mid,.int .i64 c.kX,.int .i64 c.mM],37⟩] (fun wc hG=>aB9 h hm hG.iG c hw ⟨c.vm,-2⟩ ⟨hw.vm,(show I64 (-2) from ⟨by decide,by decide⟩)⟩ hb hB) (fun v hn hR=>?_) (.refl _);refine aP ?_;refine fin1 ?_;exact hR.le ak
end
end
section
attribute [local irreducible] Hy St Ops DH dH
namespace PtD
def claim(P:PtD)(f:Nat):Nat→PtD
 | 0=>P
 | k+1=>(claim P f k).kH (f+k) ⟨-1,-2⟩
theorem UK(P:PtD)(f k:Nat):(P.claim f k).pages.length=P.pages.length:=by
 induction k with
 | zero=>rfl
 | succ k ih=>rw[claim,kH];simpa using ih
theorem YJ(P:PtD)(f k:Nat):(P.claim f k).ay=P.ay:=by
 induction k with
 | zero=>rfl
 | succ k ih=>rw[claim,kH];exact ih
theorem YK(P:PtD)(f k:Nat):(P.claim f k).on=P.on:=by
 induction k with
 | zero=>rfl
 | succ k ih=>rw[claim,kH];exact ih
abbrev idle(g:Vg):Bool:=!g.live&&!g.dying
def five(P:PtD)(f:Nat):List o8:=(P.pages.drop f).take 5
def qO(P:PtD)(fr:Int):Except Int PtD:=
 bif !dD fr 16 ((P.pages.length:Int)-1)||decide ((P.pages.length:Int)-5<fr) then .error 2
 else bif (P.five fr.toNat).any (fun x=>!decide (x.own=0)) then .error 7 else bif (P.five fr.toNat).any (fun x=>!decide (x.wit= -2)) then .error 4
 else bif !decide (0≤gV idle P.ay) then .error 5
 else .ok ((P.claim fr.toNat 5).iT (gV idle P.ay).toNat ⟨true,false,fr,[],[]⟩)
end PtD
theorem ai6{α:Type}[Inhabited α](p:α→Bool)(l:List α):gV p l<l.length∨l.length=0:=by
 rcases PtD.UI (p:=fun j=>p (l.getD j default)) l.length with h | ⟨k,hk,h1,h2⟩
 ·rw[dV h];omega
 ·rw[fG hk h1 h2];omega
theorem UL(l d:Bool)(fi:Int)(vv mv:Value)(w:World):Fn Tryz.prog 237 ([]++[Value.agg #[.bool l,.bool d,.int .i64 fi,vv,mv]]++[]).toArray w [] (fun u _=>u=.bool (!l&&!d)):=by
 refine enter Tryz.func237 ?_;refine run ?_;intro b;refine aC ?_;exact fin1 rfl
theorem UM(x:o8)(w:World):Fn Tryz.prog 239 ([]++[Value.agg #[.int .i64 x.own,.int .i64 x.wit]]++[]).toArray w [] (fun u _=>u=.bool (!decide (x.own=0))):=by
 refine enter Tryz.func239 ?_;refine run ?_;intro b;refine run ?_;exact fin1 rfl
theorem UN(x:o8)(w:World):Fn Tryz.prog 240 ([]++[Value.agg #[.int .i64 x.own,.int .i64 x.wit]]++[]).toArray w [] (fun u _=>u=.bool (!decide (x.wit= -2))):=by
 refine enter Tryz.func240 ?_;refine run ?_;intro b;refine run ?_;exact fin1 rfl
section
variable {P : PtD} {Y : Lay} {bx tx : Nat} {w : World}
theorem JF(h:dN P Y)(hh:Here (Y.hd P bx tx) w):Fn Tryz.prog 236 [Y.gv P,.func (.func 237) [].toArray [].toArray].toArray w [] (fun u _=>u=.int .i64 (gV PtD.idle P.ay)):=by
 have g4:=h.n.g4;have hb:=hh ⟨Y.gb,Y.gc,100⟩ bB5;refine enter Tryz.func236 ?_;refine run ?_;refine aK (σ:=Nat) (fun k=>[(8,.int .i64 (k:Int))]) (fun _=>[]) (fun k=>k≤P.ay.length∧∀ j,j<k→PtD.idle (P.ay.getD j default)=false) (fun k=>P.ay.length-k) 0 ⟨bI1 _,fun j hj=>absurd hj bB3⟩ ?_;rintro k m rfl ⟨hk,hno⟩;refine run ?_;refine ah _ rfl (fun hc=>?_) (fun hc=>?_)
 ·have hlt:k<P.ay.length:=by simp at hc;omega
  have hr:=h.gs.range qG hb (h.MV (i:=k) bB3);rw[bK2] at hr;refine run ?_;refine l7 (fun wc hG=>UL (P.gs k).live (P.gs k).dying (P.gs k).first (Y.G k).vv (Y.G k).mv wc) ?_;refine run ?_;refine ah _ rfl (fun hp=>?_) (fun hp=>?_)
  ·refine run ?_;refine fin1 ?_;rw[fG (p:=PtD.idle) hlt hp hno]
  ·refine run ?_;refine aF (k+1) ⟨hlt,fun j hj=>?_⟩;rcases bJ0.1 hj with hj | rfl
   ·exact hno j hj
   ·exact hp
 ·have hge:k=P.ay.length:=by simp at hc;omega
  subst hge;refine run ?_;refine fin1 ?_;rw[dV hno]
theorem dN.slF(h:dN P Y)(hh:Here (Y.hd P bx tx) w)(f:Nat)(hf:f+5≤P.pages.length)(cap:Nat):aA w (.slice (some ⟨Y.pb,f*2,none⟩) 5 cap) 2 ((P.five f).map sS):=by
 have hl:((P.five f).map sS).length=5:=by simp[PtD.five];omega
 have hb:=hh ⟨Y.pb,Y.pc,51⟩ bB5;refine⟨⟨_,cap,by rw[hl],fun _=>⟨Y.pb,f*2,rfl,fun i c hc=>?_⟩⟩,by rw[hl];omega⟩;have hi:i<5:=by rw[←hl];exact (bJ8.1 hc).1
 rw[bJ',PtD.five,bM7,if_pos hi,bP2,←bJ'] at hc;have:=h.pg.range AZ hb hc;rwa [bK2,bR0] at this
theorem YL(h:dN P Y)(hm:P.may=true)(hN:dY (Y.hd P bx 149) w)(c:zx)(hw:c.Wf):Fn Tryz.prog 150 [.pointer (some ⟨bx,0,none⟩),uw c].toArray w ((Y.hd P bx 149).map (·.b)) (kT bx 149 (P.qO c.frame)):=by
 have hp1:=h.n.p1;refine dS _ hN Tryz.func150 ?_;refine run ?_;intro C;refine run ?_;refine dA ?_;refine bg ?_;refine fB (fun wc hG=>MX (bx:=bx) (tx:=149) h (hG.here' ak) c.frame) ?_;refine bg ?_;refine aP ?_;cases hb:PtD.dD c.frame 16 ((P.pages.length:Int)-1)
 ·refine ah _ rfl (fun _=>?_) (fun hp=>by simp at hp);refine aP ?_;refine fin1 ?_;simp[kT,PtD.qO,hb]
 cases hb5:decide ((P.pages.length:Int)-5<c.frame)
 rotate_left
 ·refine aP ?_;refine fin1 ?_;simp only[PtD.qO,hb,hb5];rfl
 have hb':=hb;simp only[PtD.dD,bH6,decide_eq_true_eq] at hb';have a19:=hb5;simp only[decide_eq_false_iff_not] at a19;have hf5:c.frame.toNat+5≤P.pages.length:=by omega
 have bi3:=h.pg.le;have hsm:=h.sm.pg;have bq6:=h.pg.max
 have hkey:P.qO c.frame=bif (P.five c.frame.toNat).any (fun x=>!decide (x.own=0)) then .error 7 else bif (P.five c.frame.toNat).any (fun x=>!decide (x.wit= -2)) then .error 4
   else bif !decide (0≤gV PtD.idle P.ay) then .error 5
   else .ok ((P.claim c.frame.toNat 5).iT (gV PtD.idle P.ay).toNat ⟨true,false,c.frame,[],[]⟩):=by
  rw[PtD.qO,hb,hb5];rfl
 rw[hkey];refine aP ?_;refine gU 11 ?_;refine dI ?_;refine NJ (wu aB rfl rfl rfl rfl bB3 bB3 bB3 bB3 (o':=c.frame.toNat*2) (m':=5) (c':=Y.zu-c.frame.toNat) bB3 bB3 rfl) ?_;refine dI ?_;refine aP ?_;refine az (fun wc hG=>JF (bx:=bx) (tx:=149) h (hG.here' ak)) ?_;refine aP ?_;refine az (fun wc hG=>qB (us:=[]) (fun x=>!decide (x.own=0)) (P.five c.frame.toNat) _ (h.slF (bx:=bx) (tx:=149) (hG.here' ak) c.frame.toNat hf5 _) (fun x w' ha=>UM x w')) ?_;refine aP ?_;refine az (fun wc hG=>qB (us:=[]) (fun x=>!decide (x.wit= -2)) (P.five c.frame.toNat) _ (h.slF (bx:=bx) (tx:=149) (hG.here' ak) c.frame.toNat hf5 _) (fun x w' ha=>UN x w')) ?_;refine aP ?_;refine az (fun wc hG=>nZ _ _ wc) ?_;refine aP ?_;refine az (fun wc hG=>nZ _ _ wc) ?_;refine aP ?_;refine az (fun wc hG=>nZ _ _ wc) ?_;refine aP ?_;intro F;refine az (fun wc hG=>JC [_,_,_] _ (lits hG mh [_,_,_] rfl rfl bB5)) ?_;cases hA:(P.five c.frame.toNat).any fun x=>!decide (x.own=0)
 rotate_left
 ·rw[show jR [bif !true then 0 else 7,bif !((P.five c.frame.toNat).any fun x=>!decide (x.wit= -2)) then 0 else 4,bif decide (0≤gV PtD.idle P.ay) then 0 else 5]=7 from rfl];refine aP ?_;refine fin1 ?_;rfl
 cases hB:(P.five c.frame.toNat).any fun x=>!decide (x.wit= -2)
 rotate_left
 ·rw[show jR [bif !false then 0 else 7,bif !true then 0 else 4,bif decide (0≤gV PtD.idle P.ay) then 0 else 5]=4 from rfl];refine aP ?_;refine fin1 ?_;rfl
 cases hC:decide (0≤gV PtD.idle P.ay)
 ·rw[show jR [bif !false then 0 else 7,bif !false then 0 else 4,bif false then 0 else 5]=5 from rfl];refine aP ?_;refine fin1 ?_;rfl
 rw[show jR [bif !false then 0 else 7,bif !false then 0 else 4,bif true then 0 else 5]=0 from rfl];refine aP ?_;have g4:=h.n.g4;refine aK (σ:=Nat×Array Value) (fun s=>[(65,.int .i64 (s.1:Int))]) (fun s=>⟨C,#[.int .i64 c.kind,.int .i64 c.vm,.int .i64 c.frame,.int .i64 c.mid,.int .i64 c.kX,.int .i64 c.mM],37⟩::⟨Y.pb,s.2,51⟩::⟨bx,#[Y.pv P,Y.gv P,Y.ov P],149⟩::⟨Y.gb,Y.gc,100⟩::⟨Y.ob,Y.oc,104⟩::zq Y.G 4) (fun s=>s.1≤5∧dN (P.claim c.frame.toNat s.1) { Y with pc:=s.2 }) (fun s=>5-s.1) (0,Y.pc) ⟨bI1 _,h⟩ (hh:=by (exact ak)) ?_;rintro⟨k,pc⟩ m hm' ⟨hk,hO⟩;dsimp only at hm' hk hO ⊢;have hcl:=PtD.UK P c.frame.toNat k;refine aP ?_;refine ah _ rfl (fun hc=>?_) (fun hc=>?_)
 ·have hlt:k<5:=by simp at hc;omega
  have hps:=hO.psz;rw[hcl] at hps;dsimp only at hps;refine aP ?_;refine az (fun wc hG=>OQ wc) ?_;refine aP ?_;have hfk:c.frame.toNat+k<(P.claim c.frame.toNat k).pages.length:=by rw[hcl];omega
  have h1:=hO.aO3 hfk ⟨-1,-2⟩ (pc:=(pc.setIfInBounds (c.frame.toNat*2+k*2) (.int .i64 (-1))).setIfInBounds (c.frame.toNat*2+k*2+1) (.int .i64 (-2))) (by
   have:=hO.pg.put AZ (MN hfk) (k:=0) (vs:=sS ⟨-1,-2⟩) (by simp[sS]);rw[bL4,bR0] at this
   exact this) ⟨⟨by decide,by decide⟩,⟨by decide,by decide⟩⟩
  exact aF (k+1,(pc.setIfInBounds (c.frame.toNat*2+k*2) (.int .i64 (-1))).setIfInBounds (c.frame.toNat*2+k*2+1) (.int .i64 (-2))) (hm:=by dsimp only;omega) ⟨hlt,h1⟩ (h2:=by (exact ak))
 ·have hk5:k=5:=by simp at hc;omega
  subst hk5;have hlt4:=ai6 PtD.idle P.ay;have hC':=hC;simp only[decide_eq_true_eq] at hC';have hi:(gV PtD.idle P.ay).toNat<4:=by omega
  have hz:=h.zO;refine aP ?_;refine gU 9 ?_;refine dI ?_;refine aP ?_;refine fin1 ?_;have hrow:=hO.gs.put qG (hO.MV hi) (k:=0) (vs:=[.bool true,.bool false,.int .i64 c.frame,.slice none 0 0,.slice none 0 0]) bB5;have h1:=hO.Ce hi ⟨true,false,c.frame,[],[]⟩ ⟨.slice none 0 0,.slice none 0 0,[],[]⟩ (gc:=putAt Y.gc ((gV PtD.idle P.ay).toNat*5) [.bool true,.bool false,.int .i64 c.frame,.slice none 0 0,.slice none 0 0]) hrow ⟨by simp,.inl ⟨rfl,rfl,rfl⟩⟩ ⟨by simp,.inl ⟨rfl,rfl,rfl⟩⟩ ⟨hw.frame,by simp,by simp⟩ ⟨by simp,by simp⟩;refine⟨rfl,_,h1,WM (hdG { Y with pc:=pc } _ _ _ _ _ _ _) ?_⟩;obtain⟨r,g1,g2⟩:=Dq Y.G hi;have g3:=g2 (.slice none 0 0) (.slice none 0 0) [] [];have e1:Lay.pv { Y with pc:=pc } (P.claim c.frame.toNat 5)=Y.pv P:=by unfold Lay.pv;rw[hcl]
  have e2:Lay.gv { Y with pc:=pc } (P.claim c.frame.toNat 5)=Y.gv P:=by unfold Lay.gv;rw[PtD.YJ]
  have e3:Lay.ov { Y with pc:=pc } (P.claim c.frame.toNat 5)=Y.ov P:=by unfold Lay.ov;rw[PtD.YK]
  rw[e1,e2,e3];simp only[putAt]
  (refine dh fun a=>?_;have:=aI.cnt g3 a;have:=aI.cnt g1 a;simp only[eH,bJ,jk] at *;omega)
end
end
section
attribute [local irreducible] Hy St Ops DH dH
namespace PtD
def aO8(vm:Int)(x:o8):o8:=bif decide (x.own=vm)||(decide (x.own=0)&&decide (x.wit=vm)) then ⟨x.own,-2⟩ else x
def sweep(P:PtD)(vm:Int):Nat→PtD
 | 0=>P
 | k+1=>(sweep P vm k).kH k (aO8 vm (P.pg k))
def frees(P:PtD)(f:Nat):Nat→PtD
 | 0=>P
 | k+1=>(frees P f k).kH (f+k) ⟨0,-2⟩
variable (P : PtD)
def gone(P:PtD)(vm:Int):PtD:=(P.sweep vm P.pages.length).frees (P.gs (ix vm)).first.toNat 5
def Nh(P:PtD)(vm:Int):Except Int PtD:=
 bif !dD vm 1 4 then .error 2 else bif !(P.gs (ix vm)).live then .error 3 else bif (P.gs (ix vm)).aQ.any (fun x=>decide (0≤x)) then .error 6
 else .ok ((P.gone vm).iT (ix vm) ⟨false,(P.gone vm).owns vm,0,[],[]⟩)
end PtD
section
variable {P : PtD} {Y : Lay} {bx tx : Nat} {w : World}
end
end
section
attribute [local irreducible] Hy St Ops DH dH
section
variable {P : Program} {T : Tab} {n : Nat} {w0 : World} {mu : List Nat} {l : Fm} {hp : Hp} {dd : Option Tmp} {ty : TypeId} {pos : String} {af : Array Edge} {gg : Option (Nat × Bool)}
end
section
variable {n : Nat} {w0 : World} {mu : List Nat} {l : Fm} {hp : Hp} {Q : Exit → Fm → Hp → Prop} {all : Array Oper} {rest : List Oper} {ty : TypeId} {pos : String} {af : Array Edge} {ds : List (Nat × Nat)} {tail : List Oper} {i : Nat} {iv fr : Fm}
end
theorem aA.a5'{b o cap sz n:Nat}{xs:List (List Value)}(h:aA w (.slice (some ⟨b,o,none⟩) n cap) sz xs){i:Nat}{c:List Value}(hi:xs[i]?=some c):w.rangeAt b (o+i*sz) c:=by
 obtain⟨⟨p,cp,e,hr⟩,_⟩:=h;cases e;obtain⟨b',o',e',hx⟩:=hr (by intro e;subst e;cases hi);cases e';exact hx i c hi
end
section
attribute [local irreducible] Hy St Ops DH dH
section
variable {P : PtD} {Y : Lay} {bx tx : Nat} {w : World}
theorem A8(h:dN P Y)(hm:P.may=true)(hN:dY (Y.hd P bx 149) w)(cpu vm fr mid vc cc:Int)(hw:zx.Wf ⟨3,vm,fr,mid,vc,cc⟩):Fn Tryz.prog 68 [.pointer (some ⟨bx,0,none⟩),.int .i64 cpu,uw ⟨3,vm,fr,mid,vc,cc⟩].toArray w ((Y.hd P bx 149).map (·.b)) (kT bx 149 (P.o6 vm fr mid)):=by
 refine dS _ hN Tryz.func68 ?_;refine run ?_;intro C;refine aP ?_;refine iR (Y.hd P bx 149) [⟨C,#[.int .i64 3,.int .i64 vm,.int .i64 fr,.int .i64 mid,.int .i64 vc,.int .i64 cc],37⟩] (fun wc hG=>YI h hm hG.iG ⟨3,vm,fr,mid,vc,cc⟩ hw) (fun v hn hR=>?_) bE4;refine aP ?_;refine fin1 ?_;exact hR.le ak
end
end
namespace PtD
structure YM(l:List jQ)(N:Nat):Prop where
 sorted:Sorted l
 rng:∀ x∈l,0≤x.mid∧x.mid≤15∧0≤x.eu∧x.eu<N
 inj:∀ i j,i<j→j<l.length→(l.getD i default).eu≠(l.getD j default).eu
theorem getD_mem{α:Type}[Inhabited α]{l:List α}(hk:k<l.length):l.getD k default∈l:=by
 rw[bH8,bH9 hk];simp
theorem zA{α:Type}[Inhabited α]{l:List α}{x:α}(h:x∈l):∃ k,k<l.length∧l.getD k default=x:=by
 obtain⟨k,hk,rfl⟩:=bM4.1 h;exact⟨k,hk,by rw[bH8,bH9 hk];rfl⟩
theorem EU{l:List jQ}{N:Nat}:(∀ k,k<l.length→oH l N k=true)↔YM l N:=by
 constructor
 ·intro h
  have h':∀ k,k<l.length→((0≤(l.getD k default).mid∧(l.getD k default).mid≤15)∧(k=0∨(l.getD (k-1) default).mid<(l.getD k default).mid)∧(0≤(l.getD k default).eu∧(l.getD k default).eu≤(N:Int)-1)∧∀ m∈l.take k,m.eu≠(l.getD k default).eu):=by
   intro k hk;have:=h k hk;simp only[oH,dD,bH6,bJ7,decide_eq_true_eq,bJ6,bS8] at this;exact⟨this.1.1.1,this.1.1.2,this.1.2,fun m hm=>by simpa using this.2 m hm⟩
  refine⟨Gt fun k hk=>?_,fun x hx=>?_,fun i j hij hj=>?_⟩
  ·have:=(h' (k+1) hk).2.1;rw[bV0] at this;rcases this with h | h
   ·omega
   ·exact h
  ·obtain⟨k,hk,rfl⟩:=zA hx;have:=h' k hk;exact⟨this.1.1,this.1.2,this.2.2.1.1,by omega⟩
  ·refine (h' j hj).2.2.2 _ ?_;rw[bM4];refine⟨i,by rw[bK'];omega,?_⟩;rw[bU2,bH8,bH9 bB3];rfl
 ·rintro⟨hs,hr,hi⟩ k hk;have h1:=hr _ (getD_mem hk);simp only[oH,dD,bH6,bJ7,decide_eq_true_eq,bJ6,bS8];refine⟨⟨⟨⟨h1.1,h1.2.1⟩,?_⟩,h1.2.2.1,by omega⟩,fun m hm=>?_⟩
  ·rcases bU' k with rfl | hp
   ·exact .inl rfl
   ·exact .inr (hs (k-1) k bB3 hk)
  ·obtain⟨i,hi2,rfl⟩:=bM4.1 hm;rw[bK'] at hi2;have:=hi i k bB3 hk;rw[bH8,bH9 (show i<l.length by omega)] at this;rw[bU2];simpa using this
def a7'(P:PtD)(i:Nat)(l:List Int):Prop:=∀ v,v<l.length→l.getD v 0= -1∨(0≤l.getD v 0∧(l.getD v 0).toNat<P.on.length∧(P.st (l.getD v 0).toNat).vm=(i:Int)+1∧(P.st (l.getD v 0).toNat).cpu=v)
structure aO9(P:PtD)(i:Nat):Prop where
 dy:(P.gs i).dying=false
 f0:16≤(P.gs i).first
 f1:(P.gs i).first≤(P.pages.length:Int)-5
 vl:(P.gs i).aQ.length≤2
 vc:a7' P i (P.gs i).aQ
 mp:YM (P.gs i).maps P.pages.length
 us:∀ f,f<P.pages.length→((∃ m∈(P.gs i).maps,m.eu=(f:Int))↔((P.pg f).own=(i:Int)+1∨(P.pg f).wit=(i:Int)+1))
structure aB'(P:PtD)(i:Nat):Prop where
 vc:(P.gs i).aQ=[]
 mp:(P.gs i).maps=[]
 fi:(P.gs i).first=0
 dy:(P.gs i).dying=true↔∃ f,f<P.pages.length∧(P.pg f).own=(i:Int)+1
def YN(P:PtD)(c:Nat):Prop:=((P.st c).vm=0∧(P.st c).cpu=0)∨(1≤(P.st c).vm∧(P.st c).vm≤4∧(P.gs (ix (P.st c).vm)).live=true∧0≤(P.st c).cpu∧(P.st c).cpu.toNat<(P.gs (ix (P.st c).vm)).aQ.length∧(P.gs (ix (P.st c).vm)).aQ.getD (P.st c).cpu.toNat 0=(c:Int))
def aO'(P:PtD)(f:Nat):Prop:=f<16∨∃ i,i<4∧(P.gs i).live=true∧(P.gs i).first≤f∧f<(P.gs i).first+5
def aC0(P:PtD)(x:o8):Prop:=x.own=0→x.wit= -2∨x.wit= -1∨(1≤x.wit∧x.wit≤4∧(P.gs (ix x.wit)).live=true)
def ai7(P:PtD)(x:o8):Prop:=0<x.own→x.wit= -2∨(x.wit=0∧(P.gs (ix x.own)).live=true)
structure Ok2(P:PtD):Prop where
 n0:24≤P.pages.length
 n1:P.pages.length≤64
 g4:P.ay.length=4
 o1:1≤P.on.length
 o3:P.on.length≤3
 dead:∀ i,i<4→(P.gs i).live=false→aB' P i
 WE:∀ i,i<4→(P.gs i).live=true→aO9 P i
 apart:∀ i j,i<j→j<4→(P.gs i).live=true→(P.gs j).live=true→(P.gs i).first+5≤(P.gs j).first∨(P.gs j).first+5≤(P.gs i).first
 hyp:∀ f,f<P.pages.length→((P.pg f).own= -1↔P.aO' f)
 Ob:∀ f,f<P.pages.length→(P.pg f).own= -1→(P.pg f).wit= -2
 who:∀ f,f<P.pages.length→-1≤(P.pg f).own∧(P.pg f).own≤4
 host:∀ f,f<P.pages.length→aC0 P (P.pg f)
 Gq:∀ f,f<P.pages.length→ai7 P (P.pg f)
 seat:∀ c,c<P.on.length→YN P c
theorem Nj{who:Int}:P.owns who=true↔∃ f,f<P.pages.length∧(P.pg f).own=who:=by
 rw[owns,bM8];constructor
 ·rintro⟨x,hx,h⟩;obtain⟨k,hk,rfl⟩:=zA hx;exact⟨k,hk,of_decide_eq_true h⟩
 ·rintro⟨f,hf,h⟩;exact⟨P.pg f,getD_mem hf,decide_eq_true h⟩
theorem pJ{n:Int}:P.lives n=true↔(1≤n∧n≤4∧(P.gs (ix n)).live=true):=by
 simp only[lives,dD,bH6,decide_eq_true_eq,and_assoc];rfl
theorem ai8:Ok P↔Ok2 P:=by
 constructor
 ·intro h;refine⟨h.n0,h.n1,h.g4,h.o1,h.o3,fun i hi hl=>?_,fun i hi hl=>?_,h.apart,h.hyp,h.Ob,h.who,fun f hf h0=>?_,fun f hf h0=>?_,fun c hc=>?_⟩
  ·obtain⟨a,b,c,d⟩:=h.dead i hi hl;exact⟨bU5.1 a,bU5.1 b,c,by rw[d,Nj]⟩
  ·obtain⟨a,b,c,d,e,f,g⟩:=h.WE i hi hl;refine⟨a,b,c,d,fun v hv=>?_,EU.1 f,fun q hq=>?_⟩
   ·have:=e v hv;simp only[nC,dD,bJ7,bH6,decide_eq_true_eq] at this;rcases this with h1 | ⟨⟨h1,h2⟩,h3,h4⟩
    ·exact .inl h1
    ·exact .inr ⟨h1,by omega,h3,h4⟩
   ·have:=g q hq;rw[bI2,bM8] at this;simpa [uses] using this
  ·have:=h.host f hf h0;rw[pJ] at this;exact this
  ·have:=h.Gq f hf h0;rw[pJ] at this;rcases this with h1 | ⟨h1,_,_,h2⟩
   ·exact .inl h1
   ·exact .inr ⟨h1,h2⟩
  ·have:=h.seat c hc;unfold YN;simp only[seated] at this
   cases hv:decide ((P.st c).vm=0) with
   | true=>rw[hv] at this;simp at this hv;exact .inl ⟨hv,this⟩
   | false=>
    rw[hv] at this;simp only[cond_false,bH6,decide_eq_true_eq,pJ,dD] at this;obtain⟨⟨⟨a,b,c'⟩,d,e⟩,f⟩:=this;exact .inr ⟨a,b,c',d,by unfold ix;omega,f⟩
 ·intro h;refine⟨h.n0,h.n1,h.g4,h.o1,h.o3,fun i hi hl=>?_,fun i hi hl=>?_,h.apart,h.hyp,h.Ob,h.who,fun f hf h0=>?_,fun f hf h0=>?_,fun c hc=>?_⟩
  ·obtain⟨a,b,c,d⟩:=h.dead i hi hl;exact⟨by rw[a];rfl,by rw[b];rfl,c,by rw[bI2,d,Nj]⟩
  ·obtain⟨a,b,c,d,e,f,g⟩:=h.WE i hi hl;refine⟨a,b,c,d,fun v hv=>?_,EU.2 f,fun q hq=>?_⟩
   ·simp only[nC,dD,bJ7,bH6,decide_eq_true_eq];rcases e v hv with h1 | ⟨h1,h2,h3,h4⟩
    ·exact .inl h1
    ·exact .inr ⟨⟨h1,by omega⟩,h3,h4⟩
   ·rw[bI2,bM8];simpa [uses] using g q hq
  ·have:=h.host f hf h0;rw[pJ];exact this
  ·rw[pJ];rcases h.Gq f hf h0 with h1 | ⟨h1,h2⟩
   ·exact .inl h1
   ·exact .inr ⟨h1,by omega,(h.who f hf).2,h2⟩
  ·simp only[seated];rcases h.seat c hc with⟨a,b⟩ | ⟨a,b,c',d,e,f⟩
   ·simp[a,b]
   ·have hv:decide ((P.st c).vm=0)=false:=by simp;omega
    rw[hv];simp only[cond_false,bH6,decide_eq_true_eq,pJ,dD];exact⟨⟨⟨a,b,c'⟩,d,by unfold ix at e;omega⟩,f⟩
theorem ai9:P.may=true↔Ok2 P:=sQ.trans ai8
end PtD
section
attribute [local irreducible] Hy St Ops DH dH
namespace PtD
end PtD
section
variable {P : PtD} {Y : Lay} {bx tx : Nat} {w : World}
theorem Ba(h:dN P Y)(hm:P.may=true)(hN:dY (Y.hd P bx 149) w)(cpu vm fr mid vc cc:Int)(hw:zx.Wf ⟨5,vm,fr,mid,vc,cc⟩):Fn Tryz.prog 68 [.pointer (some ⟨bx,0,none⟩),.int .i64 cpu,uw ⟨5,vm,fr,mid,vc,cc⟩].toArray w ((Y.hd P bx 149).map (·.b)) (kT bx 149 (P.qO fr)):=by
 refine dS _ hN Tryz.func68 ?_;refine run ?_;intro C;refine aP ?_;refine iR (Y.hd P bx 149) [⟨C,#[.int .i64 5,.int .i64 vm,.int .i64 fr,.int .i64 mid,.int .i64 vc,.int .i64 cc],37⟩] (fun wc hG=>YL h hm hG.iG ⟨5,vm,fr,mid,vc,cc⟩ hw) (fun v hn hR=>?_) bE4;refine aP ?_;refine fin1 ?_;exact hR.le ak
end
end
namespace PtD
def EW(P:PtD)(cpu:Nat)(c:zx):Except Int PtD:=
 bif decide (c.kind=1) then P.YH c.vm c.frame c.mid else bif decide (c.kind=2) then P.Nc c.frame else bif decide (c.kind=3) then P.o6 c.vm c.frame c.mid
 else bif decide (c.kind=4) then P.Na c.frame else bif decide (c.kind=5) then P.qO c.frame else bif decide (c.kind=6) then P.Nh c.vm
 else bif decide (c.kind=7) then P.moreL c.vm else bif decide (c.kind=8) then P.aO5 cpu c.vm c.kX else .error 9
def Bd(P:PtD)(cpu:Nat)(c:zx):Except Int PtD:=
 bif decide (c.kind=10) then P.YD (P.st cpu).vm c.mid (-2) 0 4 else bif decide (c.kind=11) then P.YD (P.st cpu).vm c.mid 0 (-2) 6 else bif decide (c.kind=9) then .ok (P.ES cpu) else .error 9
def Cj(P:PtD)(cpu:Nat)(c:zx):Except Int PtD:=bif decide ((P.st cpu).vm=0) then P.EW cpu c else P.Bd cpu c
end PtD
section
def BO(vs:List kJ)(n:Int):Bool:=vs.any fun v=>v.live&&decide (v.aN=n)
def Rz(vs:List kJ):Nat→Int→Int
 | 0,n=>n
 | k+1,n=>bif BO vs n then Rz vs k (n+1) else n
def zB(vs:List kJ):Int:=Rz vs (vs.length+1) 1
def EX(vs:List kJ)(n:Int):Nat:=(vs.filter fun v=>v.live&&decide (n≤v.aN)).length
theorem EY{vs:List kJ}{n:Int}(h:BO vs n=true):EX vs (n+1)<EX vs n:=by
 unfold BO at h;unfold EX
 induction vs with
 | nil=>simp at h
 | cons v vs ih=>
  rw[List.any_cons,bJ7] at h
  have hle:∀ l:List kJ,(l.filter fun v=>v.live&&decide (n+1≤v.aN)).length≤(l.filter fun v=>v.live&&decide (n≤v.aN)).length:=fun l=>by
   induction l with
   | nil=>exact bI9 _
   | cons x l ihl=>
    simp only[bW2]
    cases hx:(x.live&&decide (n+1≤x.aN)) with
    | true=>
     simp only[bH6,decide_eq_true_eq] at hx;rw[show (x.live&&decide (n≤x.aN))=true by simp only[bH6,decide_eq_true_eq];exact⟨hx.1,by omega⟩]
     simpa using ihl
    | false=>
     simp only[bO6,if_false];split
     ·exact Nat.le_succ_of_le ihl
     ·exact ihl
  simp only[bW2];rcases h with h | h
  ·simp only[bH6,decide_eq_true_eq] at h;rw[show (v.live&&decide (n+1≤v.aN))=false by rw[h.1,decide_eq_false bB3];rfl,show (v.live&&decide (n≤v.aN))=true by rw[h.1,decide_eq_true bB3];rfl];simp only[if_true,bO6,if_false,bL6];exact Nat.lt_succ_of_le (hle vs)
  ·have h2:=ih h
   cases hx:(v.live&&decide (n+1≤v.aN)) with
   | true=>
    simp only[bH6,decide_eq_true_eq] at hx;rw[show (v.live&&decide (n≤v.aN))=true by simp only[bH6,decide_eq_true_eq];exact⟨hx.1,by omega⟩]
    simpa using h2
   | false=>
    simp only[bO6,if_false];split
    ·exact Nat.lt_succ_of_lt h2
    ·exact h2
theorem Nk{vs:List kJ}:∀ (j k:Nat) (n:Int),EX vs n<k→(∀ i:Nat,i<j→BO vs (n+i)=true)→BO vs (n+j)=false→Rz vs k n=n+j
 | 0,0,n,h,_,_=>absurd h (bL0 _)
 | j,k+1,n,h,h1,h2=>by
  rw[Rz]
  cases j with
  | zero=>rw[show (n+((0:Nat):Int))=n by omega] at h2 ⊢;rw[h2];rfl
  | succ j=>
   have h0:=h1 0 (Nat.succ_pos _);rw[show n+((0:Nat):Int)=n by omega] at h0;rw[h0,cond_true];have hc:=EY h0;rw[Nk j k (n+1) bB3 (fun i hi=>by have:=h1 (i+1) bB3;rwa [show n+((i+1:Nat):Int)=n+1+(i:Int) by omega] at this) (by rwa [show n+((j+1:Nat):Int)=n+1+(j:Int) by omega] at h2)];omega
theorem Nl(vs:List kJ)(n:Int):EX vs n≤vs.length:=bS4 ..
namespace HyD
variable (H : HyD)
def zC(D:Int→DsD):List Int→HyD→HyD
 | [],H=>H
 | f::r,H=>zC D r (H.hst f.toNat (D f))
def aC1(i:Nat)(v:kJ):HyD:={ H with vs:=H.vs.set i v }
def ai'(n:Int)(mid:Int)(d:DsD):HyD:=
 let i:=(n-1).toNat
 let r:=Es H.ws (H.vu i).root (H.vu i).fr mid d
 { H with ws:=r.ws,vs:=H.vs.set i { H.vu i with fr:=r.left } }
def RD(l:List Int):HyD:={ H with ws:=ou H.ws l }
def zD(cpu:Nat):HyD:=
 let i:=((H.cu cpu).vm-1).toNat
 ⟨H.ws,H.cs.set cpu { H.cu cpu with r:=H.rs.getD cpu default,vm:=0,vc:=0 },H.vs.set i { H.vu i with vs:=(H.vu i).vs.set (H.cu cpu).vc.toNat ⟨(H.cu cpu).r,-1⟩ },H.rs.set cpu jA⟩
def jc(f:Int):List Int:=[f,f+1,f+2,f+3,f+4]
def UO(was is:PtD):Nat:=(List.range 4).foldl (fun a i=>bif (is.gs i).live&&!(was.gs i).live then i else a) 0
def wM(f:Int)(a:Nat):HyD:=
 let G:=(zC (fun _=>jK 1) (jc f) H).RD (jc f)
 G.aC1 a ⟨true,false,zB H.vs,jc f,(jc f).drop 1,[]⟩
def zF(vm f mid:Int):HyD:=(H.hst f.toNat (jK (1+vm))).ai' vm mid (aZ f 0)
end HyD
end
section
attribute [local irreducible] Hy St Ops DH dH jg iP gQ DS gX lJ
section
variable {n : Nat} {w0 : World} {mu : List Nat} {l : Fm} {hp hp' : Hp} {ty : TypeId} {pos : String} {af : Array Edge} {Q : Exit → Fm → Hp → Prop} {all : Array Oper} {rest : List Oper}
end
def HR(X:Nat)(tl:List Value)(ty:TypeId)(H:HyD)(u:Value)(hn:Hp):Prop:=u=.tuple #[]∧∃ L,zM L H∧aI (L.hp X tl ty) hn
def Ht(L L':HL):Prop:=L'.vv=L.vv∧L'.vs=L.vs∧L'.hv=L.hv∧L'.hz=L.hz
theorem Ht.trans{A B C:HL}(h:Ht A B)(h2:Ht B C):Ht A C:=⟨h2.1.trans h.1,h2.2.1.trans h.2.1,h2.2.2.1.trans h.2.2.1,h2.2.2.2.trans h.2.2.2⟩
def HRk(L:HL)(X:Nat)(tl:List Value)(ty:TypeId)(H:HyD)(u:Value)(hn:Hp):Prop:=u=.tuple #[]∧∃ L',zM L' H∧Ht L L'∧aI (L'.hp X tl ty) hn
theorem HRk.r{L:HL}{tl:List Value}{ty:TypeId}{u:Value}{hn:Hp}(h:HRk L X tl ty H u hn):HR X tl ty H u hn:=by
 obtain⟨e,L',h1,_,h2⟩:=h;exact⟨e,L',h1,h2⟩
theorem EZ:∀ (ls:List (List fF×List jy)),(∀ t∈ls,t.1.length<100000∧t.2.length<100000)→∃ (ts:List uo) (h:Hp),fP wS ts h∧ts.map uo.p=ls
 | [],_=>⟨[],[],trivial,rfl⟩
 | x::r,hx=>by
  obtain⟨ts,h,h1,h2⟩:=EZ r fun t ht=>hx t (bI5 _ ht);obtain⟨b1,b2⟩:=hx x (bI8 ..);obtain⟨a1,g1,o1⟩:=dZ (e:=80) (xs:=x.1.map iy) tC bB6;obtain⟨a2,g2,o2⟩:=dZ (e:=127) (xs:=x.2.map lg) AO bB6;obtain⟨q1,c1,e1⟩:=o1.opened;obtain⟨q2,c2,e2⟩:=o2.opened;rw[bH7] at e1 e2;subst e1 e2;exact⟨⟨x.1,x.2,q1,c1,q2,c2⟩::ts,(g1++g2)++h,⟨g1++g2,h,⟨g1,g2,o1,o2,⟨b1,b2⟩,aI.refl _⟩,h1,aI.refl _⟩,by rw[bL9,h2]⟩
theorem w_all(xs:List Nat):∀ c∈xs.map uV,c.length=1∧c.all (·.oneCell')=true:=aq1 xs
theorem P8(xs:List uo):∀ c∈xs.map TF,c.length=2∧c.all (·.oneCell')=true:=by
 intro c hc;obtain⟨x,_,rfl⟩:=bI7.1 hc;exact⟨rfl,rfl⟩
theorem E5{a b c d:Value}{tl:List Value}{ty:TypeId}(h:w.heap[X]?=some (.cells (a::b::c::d::tl).toArray ty (0,0))):w.rangeAt X 0 [a,b,c,d]:=by
 have:=aV (k:=0) (n:=4) (qN h) rfl;simpa using this
theorem RF(ws:List Nat)(root:Int)(page level:Nat)(d:DsD):(fC ws root page level d).ws.length≤ws.length:=by
 unfold fC;dsimp only
 cases (!(aO ws root page level).ok) with
 | true=>exact bI1 _
 | false=>
  rw[cond_false]
  cases (!decide ((aO ws root page level).lv=level)) with
  | true=>exact bI1 _
  | false=>exact Nat.le_of_eq (kD ..)
theorem Own.blk{e sz:Nat}{h:Hp}{xs:List (List Value)}(hA:Own e sz v h xs){b o n:Nat}(hv:v=.slice (some ⟨b,o,none⟩) n k):∃ x∈h,x.b=b:=by
 subst hv;rcases hA.2 with⟨_,h2,_⟩ | ⟨g,cap,cur,h2,rfl,_⟩
 ·cases h2
 ·cases h2;exact⟨_,bN3.2 rfl,rfl⟩
theorem Dt(cs:List jv)(ts:List uo):∀ k j,(TY cs ts k)[j]?=(cs[j]?).map fun c=>if j<k then { c with t:=ts.getD j default } else c
 | 0,j=>by
  simp only[TY,bL0,if_false]
  cases cs[j]?<;>rfl
 | k+1,j=>by
  rw[TY,bS9,Dk];by_cases h:k=j
  ·subst h;by_cases hk:k<cs.length
   ·rw[if_pos rfl,if_pos hk,bH9 hk,bL5,if_pos (bY8 k),bH8,Dt cs ts k k,bH9 hk,bL5,if_neg (Nat.lt_irrefl k)];rfl
   ·rw[if_pos rfl,if_neg hk,bO2 bB3];rfl
  ·rw[if_neg h,Dt cs ts k j];by_cases h2:j<k
   ·simp[h2,Nat.lt_succ_of_lt h2]
   ·simp[h2,show ¬ j<k+1 by omega]
theorem aP0{cs:List jv}{ts:List uo}(h:ts.length=cs.length):(TY cs ts cs.length).map (·.t)=ts:=by
 apply bQ8;intro j;rw[bJ',Dt];by_cases hj:j<cs.length
 ·rw[bH9 hj,bL5,bL5,if_pos hj,bH9 bB3,bH8,bH9 bB3];rfl
 ·rw[bO2 bB3,bO2 bB3];rfl
theorem aP1{cs:List jv}{us:List JU}{ts:List uo}{f:uo→List fF×List jy}{F:JU→JU}(h:ts.map uo.p=(cs.map (·.t)).map f)(hu:cs.map jv.u=us)(hF:∀ c:jv,F c.u=⟨c.r,c.vm,c.vc,(f c.t).1,(f c.t).2⟩):(TY cs ts cs.length).map jv.u=us.map F:=by
 subst hu;have hl:ts.length=cs.length:=by have:=congrArg List.length h;simpa using this
 apply bQ8;intro j;rw[bJ',Dt,bW',bJ'];by_cases hj:j<cs.length
 ·have h9:=congrArg (fun l=>l[j]?) h;simp only[bJ',bH9 hj,bH9 (show j<ts.length by omega),bL5,bK0] at h9;rw[bH9 hj,bL5,bL5,bL5,if_pos hj,bH8,bH9 (show j<ts.length by omega),bP1,Function.comp,hF,←h9];rfl
 ·rw[bO2 bB3];rfl
def aj0(ws':List Nat)(ts:List uo)(aN mid:Int)(u:Value)(hn:Hp):Prop:=∃ v1 h1 v ha hs ts',u=.tuple #[.agg #[v1],v,.int .i64 0]∧Own 53 1 v1 h1 (ws'.map uV)∧Own 72 2 v ha (ts'.map TF)∧fP wS ts' hs∧ts'.map uo.p=ts.map (fun t=>(mJ t.es (tK aN mid),t.ds))∧aI (h1++(ha++hs)) hn
theorem UQ(ws':List Nat)(hw:ws'.length<100000)(ts:List uo)(aN mid:Int)(hl:ts.length<100000)(ht:∀ t∈ts,t.es.length<100000∧t.ds.length<100000):∃ u hn,aj0 ws' ts aN mid u hn:=by
 obtain⟨v1,h1,o1⟩:=dZ (e:=53) (w_all ws') bB6
 obtain⟨ts',hs,r1,r2⟩:=EZ (ts.map (fun t=>(mJ t.es (tK aN mid),t.ds))) (fun x hx=>by
  obtain⟨t,h,rfl⟩:=bI7.1 hx;have:=ht t h
  exact⟨bO1 (bS4 ..) this.1,this.2⟩)
 have hl':ts'.length=ts.length:=by have:=congrArg List.length r2;simpa using this
 obtain⟨v,ha,o2⟩:=dZ (e:=72) (P8 ts') bB6;exact⟨_,_,v1,h1,v,ha,hs,ts',rfl,o1,o2,r1,r2,aI.refl _⟩
theorem P9(L:HL)(H:HyD)(h:zM L H)(hW:H.lM)(root aN:Int)(mid:Nat)(hv:PtD.dD aN 0 15=true)(hmid:mid≤4095)(d:DsD)(hd:d.may 2 3=true)(hg:(iE H.ws root mid).e=0)(hg3:(iE H.ws root mid).level=3){pv gv ov:Value}(hN:dY (L.hp X [pv,gv,ov] 90) w):
  Fn Tryz.prog 162 [.pointer (some ⟨X,0,none⟩),.int .i64 root,.int .i64 aN,.int .i64 (mid:Int),uj d].toArray w ((L.hp X [pv,gv,ov] 90).map (·.b)) (HRk L X [pv,gv,ov] 90 (H.chg root aN mid d)):=by
 obtain⟨wv,cv,vv,rv,cs,vs,hw,hc,ht,hvv,hz,hr⟩:=L;obtain⟨NQ,gw,gc,gt,zN,gz,gr,ec,ev⟩:=h;dsimp only at gw gc gt zN gz gr ec ev;have ecl:cs.length=H.cs.length:=by rw[←ec,bH7]
 have hc1:=hW.c1;obtain⟨g,cap,cur,rfl,rfl,hrow⟩:=gc.row (n:=cs.length) bB5 bB3;obtain⟨wp,Vl,e1⟩:=gw.opened;rw[bH7] at e1;subst e1;simp only[HL.hp,HL.rest] at hN ⊢;refine dS _ hN Tryz.func162 ?_;refine run ?_;intro Db;have hlt:=fun (wc:World) (hH:Here ht wc) (c:jv) (hc:c∈cs)=>gt.each (Q:=fun t=>aA wc t.ev 14 (t.es.map iy)∧aA wc t.dv 4 (t.ds.map lg)) (fun t a ha hw=>ha.lie hw) hH c.t (bI7.2 ⟨c,hc,rfl⟩)
 have hok:∀ t∈cs.map (·.t),dQ t.es t.ds=true:=fun t ht'=>by
  obtain⟨c,hc,rfl⟩:=bI7.1 ht';exact hW.tl c.u (by rw[←ec];exact bI7.2 ⟨c,hc,rfl⟩)
 have hc3:=hW.c3;have rY:=bP hW.m
 have hex:∃ u hn,aj0 (fC (fC H.ws root mid 3 dG).ws root mid 3 d).ws (cs.map (·.t)) aN mid u hn:=by
  refine UQ _ ?_ _ _ _ bB6 (fun t ht'=>?_)
  ·have a1:=RF H.ws root mid 3 dG;have a2:=RF (fC H.ws root mid 3 dG).ws root mid 3 d;omega
  ·have:=pI (hok t ht');omega
 refine aw4 17 [0,1,2,3,4,5,7,8,9,10] [6,11,16] [12,13,14,15] [18,19] [17] ?_;refine gI ?_;refine mE ?_;refine jZ (fun wc hG=>ae8 cs (wv:=.slice wp H.ws.length Vl) (cv:=.slice (some ⟨g,0,none⟩) cs.length cap) (vv:=vv) (rv:=rv) ?_ (gc.lie (fun e he=>hG.here e bG9) bB6) bB3) ?_ ?_
 ·exact E5 (tl:=[pv,gv,ov]) (hG.here ⟨X,#[.slice wp H.ws.length Vl,.slice (some ⟨g,0,none⟩) cs.length cap,vv,rv,pv,gv,ov],90⟩ bB5)
 ·obtain⟨v,ha,o2⟩:=dZ (e:=72) (P8 (cs.map (·.t))) bF2;exact⟨v,ha,ha,o2,aI.refl _⟩
 refine kL ?_;refine mOn 6 (R:=aj0 (fC (fC H.ws root mid 3 dG).ws root mid 3 d).ws (cs.map (·.t)) aN mid) ?_ ?_ ?_
 ·rintro v hn ⟨ha,hA,hle⟩;obtain⟨tp,tc,et⟩:=hA.opened;rw[bH7,bH7] at et;subst et;refine jZ (R:=aj0 (fC (fC H.ws root mid 3 dG).ws root mid 3 d).ws (cs.map (·.t)) aN mid) (fun wc hG=>TW (cs.map (·.t)) H.ws hW.Df hW.m root aN mid hv hmid d hd hg hg3 (gw.lie (fun e he=>hG.here e bC9) bB6) ⟨hA.lie (fun e he=>hG.here e (by have:=hle.mem he;simp[this])) bF2,fun t ht'=>?_,fun t ht'=>?_⟩ gt.caps hok bB6) hex ?_
  ·obtain⟨c,hc,rfl⟩:=bI7.1 ht';exact (hlt wc (fun e he=>hG.here e bC9) c hc).1
  ·obtain⟨c,hc,rfl⟩:=bI7.1 ht';exact (hlt wc (fun e he=>hG.here e bC9) c hc).2
  exact kL rfl
 ·obtain⟨v,ha,o2⟩:=dZ (e:=72) (P8 (cs.map (·.t))) bF2;exact⟨v,ha,ha,o2,aI.refl _⟩
 refine mE ?_;refine sO ?_;refine kL ?_;refine aV3 ?_;rintro _ _ ⟨Mb,rfl,rfl⟩ u hn ⟨v1,h1,v2,ha,hs,ts',rfl,o1,o2,r1,r2,hle⟩ tv htl hTl;obtain⟨pw,c1,e1⟩:=o1.opened;obtain⟨pt,c2,e2⟩:=o2.opened;rw[bH7] at e1 e2;subst e1 e2;have hl':ts'.length=cs.length:=by have:=congrArg List.length r2;simpa using this
 refine yD ?_;refine dX ?_;refine dX ?_;refine dX ?_;refine jJ ?_;refine oQ ?_;refine oQ ?_;refine jJ ?_;simp only[DN,bI0,bI3,bI'];refine WV (b:=Mb) (tb:=24) (cs:=#[.slice none 0 0]) (cs':=#[.slice pw (fC (fC H.ws root mid 3 dG).ws root mid 3 d).ws.length c1]) (hp':=hn++htl++⟨Db,#[.int .i64 d.kind,.int .i64 d.frame,.bool d.r,.bool d.w,.bool d.x,.bool d.af,.bool d.ng,.int .i64 d.soft,.int .i64 d.note],95⟩::⟨X,#[.slice wp H.ws.length Vl,.slice (some ⟨g,0,none⟩) cs.length cap,vv,rv,pv,gv,ov],90⟩::(hw++⟨g,cur,74⟩::(ht++(hvv++(hz++hr))))) ?_ (hput:=rfl) (hperm:=by (exact aU));refine di ?_;refine kV ?_;refine aS (⟨Mb,#[.slice pw (fC (fC H.ws root mid 3 dG).ws root mid 3 d).ws.length c1],24⟩::⟨X,#[.slice wp H.ws.length Vl,.slice (some ⟨g,0,none⟩) cs.length cap,vv,rv,pv,gv,ov],90⟩::⟨g,cur,74⟩::(h1++(ha++(hs++(hvv++(hz++hr)))))) (cnt1 hle) ?_;refine run ?_;refine iR [⟨g,cur,74⟩] (⟨X,#[.slice pw (fC (fC H.ws root mid 3 dG).ws root mid 3 d).ws.length c1,.slice (some ⟨g,0,none⟩) cs.length cap,vv,rv,pv,gv,ov],90⟩::⟨Mb,#[.slice pw (fC (fC H.ws root mid 3 dG).ws root mid 3 d).ws.length c1],24⟩::(h1++(ha++(hs++(hvv++(hz++hr)))))) (fun wc hG=>LU cs ts' hl' bB3 (E5 (tl:=[pv,gv,ov]) (hG.here ⟨X,#[.slice pw (fC (fC H.ws root mid 3 dG).ws root mid 3 d).ws.length c1,.slice (some ⟨g,0,none⟩) cs.length cap,vv,rv,pv,gv,ov],90⟩ bB5)) (fun e=>(hG.Hr (e:=⟨X,#[.slice pw (fC (fC H.ws root mid 3 dG).ws root mid 3 d).ws.length c1,.slice (some ⟨g,0,none⟩) cs.length cap,vv,rv,pv,gv,ov],90⟩) bB5) (by simpa using e)) gc (o2.lie (fun e he=>hG.here e bC9) bB6) (fun b o n k hv' e=>?_) hG.iG) (fun v hn3 hv3=>?_) aU
 ·obtain⟨x,hx,hxb⟩:=o2.blk hv';exact (hG.Hr (e:=x) (by simp[hx])) (by simp[hxb,e])
 obtain⟨rfl,uY,o3,hle3⟩:=hv3;refine run ?_;refine fin0 ⟨rfl,⟨.slice pw (fC (fC H.ws root mid 3 dG).ws root mid 3 d).ws.length c1,.slice (some ⟨g,0,none⟩) cs.length cap,vv,rv,TY cs ts' cs.length,vs,h1,[⟨g,uY,74⟩],hs,hvv,hz,hr⟩,?_,⟨rfl,rfl,rfl,rfl⟩,?_⟩
 ·refine⟨EI (EI hW.Df _ _ _ _) _ _ _ _,o1,o3,by dsimp only;rw[aP0 hl'];exact r1,zN,gz,gr,aP1 r2 ec fun c=>rfl,ev⟩
 ·simp only[HL.hp,HL.rest]
  (exact cnt1 hle3)
end
section
attribute [local irreducible] Hy St Ops DH dH jg iP gQ DS gX lJ
theorem Hu(D:Int→DsD)(f:Int):∀ (l:List Int) (H:HyD),HyD.zC D (l++[f]) H=(HyD.zC D l H).hst f.toNat (D f)
 | [],_=>rfl
 | x::l,H=>Hu D f l _
theorem Be{D:Int→DsD}:∀ {l:List Int} {H:HyD},H.lM→(HyD.zC D l H).lM
 | [],_,h=>h
 | x::l,H,h=>Be (l:=l) (h.hst _)
theorem Np{D:Int→DsD}:∀ {l:List Int} {H:HyD},(HyD.zC D l H).ws.length=H.ws.length
 | [],_=>rfl
 | x::l,H=>by rw[HyD.zC,Np];exact kD ..
theorem YO(L:HL)(H:HyD)(h:zM L H)(hW:H.lM){F:Nat}{us:List Value}(D:Int→DsD)(fs:List Int)(hf:∀ f∈fs,0≤f∧f<64)(hd:∀ f∈fs,(D f).may 2 3=true){pv gv ov:Value}(hv:aA w v 1 (fs.map bY))(hvo:∀ b o n k,v=.slice (some ⟨b,o,none⟩) n k→b∉(L.hp X [pv,gv,ov] 90).map (·.b))
  (hF:∀ f∈fs,∀ w' hp,Good w ((L.hp X [pv,gv,ov] 90).map (·.b)) hp w'→Fn Tryz.prog F ([]++[Value.int .i64 f]++us).toArray w' [] (fun u _=>u=uj (D f))) (hN:dY (L.hp X [pv,gv,ov] 90) w) (bM:mem iV F=true:=by rfl):
  Fn Tryz.prog 78 [.pointer (some ⟨X,0,none⟩),.func (.func F) [].toArray us.toArray,v].toArray w ((L.hp X [pv,gv,ov] 90).map (·.b)) (HRk L X [pv,gv,ov] 90 (HyD.zC D fs H)):=by
 have hv':=hv;obtain⟨q,cap,rfl,hne,_⟩:=hv.opened;refine dS _ hN Tryz.func78 ?_;refine run ?_;refine aK (σ:=Nat×HL) (fun s=>[(10,.int .i64 (s.1:Int))]) (fun s=>s.2.hp X [pv,gv,ov] 90) (fun s=>s.1≤fs.length∧zM s.2 (HyD.zC D (fs.take s.1) H)∧Ht L s.2) (fun s=>fs.length-s.1) (0,L) ⟨bI1 _,h,⟨rfl,rfl,rfl,rfl⟩⟩ ?_ (hh:=aI.refl _);rintro⟨k,L1⟩ m hm ⟨hk,hL,hSV⟩;dsimp only at hm hk hL hSV ⊢;refine run ?_;refine ah _ rfl (fun hc=>?_) (fun hc=>?_)
 ·have hlt:k<fs.length:=by simpa using hc
  obtain⟨b,o,rfl⟩:=hne bB7;have hb:=hvo _ _ _ _ rfl;have hr:=aj (hv.row hlt);have hfk:=hf _ (getD_mem hlt);have hdk:=hd _ (getD_mem hlt);have hFk:=hF _ (getD_mem hlt);have htn:=dW hlt;generalize fs.getD k default=f at hr hfk hdk hFk htn;simp only[bK3] at hr;refine run ?_;refine l7 (fs:=[]) (vs:=[.int .i64 f]) (us:=us) (fun wc hG=>hFk wc _ hG) ?_ (bM:=bM);refine run ?_;have hW1:(HyD.zC D (fs.take k) H).lM:=Be hW;have rY:=bP hW1.m;have hg:=hW1.t.get (k:=f.toNat) bB3;have hch:=fun (wc:World) (hN1:dY (L1.hp X [pv,gv,ov] 90) wc)=>P9 L1 _ hL hW1 0 0 f.toNat rfl bB3 (D f) hdk (by rw[hg]) (by rw[hg]) hN1;rw[show ((f.toNat:Nat):Int)=f by omega] at hch;refine iR (L1.hp X [pv,gv,ov] 90) [] (fun wc hG=>hch wc hG.iG) (fun v hn hR=>?_) (by rw[bI']);obtain⟨rfl,L2,h2,a88,hle⟩:=hR;rw[HyD.ah8 hW1.t bB3] at h2;refine aS (L2.hp X [pv,gv,ov] 90) (by rw[bI'];exact hle) ?_;refine run ?_;refine aF (k+1,L2) ⟨hlt,?_,hSV.trans a88⟩ (hm:=by dsimp only;omega) (h2:=aI.refl _);dsimp only;rw[htn,Hu];exact h2
 ·have hge:k=fs.length:=by simp at hc;omega
  subst hge;rw[bN4] at hL;refine run ?_;exact fin0 ⟨rfl,L1,hL,hSV,aI.refl _⟩
theorem RG(L:HL)(H:HyD)(h:zM L H)(hW:H.lM){F:Nat}{us:List Value}(D:Int→DsD)(fs:List Int)(hf:∀ f∈fs,0≤f∧f<64)(hd:∀ f∈fs,(D f).may 2 3=true){pv gv ov:Value}(hv:aA w v 1 (fs.map bY))(hvo:∀ b o n k,v=.slice (some ⟨b,o,none⟩) n k→b∉(L.hp X [pv,gv,ov] 90).map (·.b))
  (hF:∀ f∈fs,∀ w' hp,Good w ((L.hp X [pv,gv,ov] 90).map (·.b)) hp w'→Fn Tryz.prog F ([]++[Value.int .i64 f]++us).toArray w' [] (fun u _=>u=uj (D f))) (hN:dY (L.hp X [pv,gv,ov] 90) w) (bM:mem iV F=true:=by rfl):
  Fn Tryz.prog 78 [.pointer (some ⟨X,0,none⟩),.func (.func F) [].toArray us.toArray,v].toArray w ((L.hp X [pv,gv,ov] 90).map (·.b)) (HR X [pv,gv,ov] 90 (HyD.zC D fs H)):=
 Fn.mono (YO L H h hW D fs hf hd hv hvo hF hN bM) fun _ _ h=>h.r
theorem aA.aP2{w':World}{mu:List Nat}{hp:Hp}{sz:Nat}{xs:List (List Value)}(h:aA w v sz xs)(ho:∀ b o n k,v=.slice (some ⟨b,o,none⟩) n k→b∉mu)(hG:Good w mu hp w'):aA w' v sz xs:=by
 obtain⟨⟨p,c,rfl,hp⟩,hl⟩:=h;refine⟨⟨p,c,rfl,fun hne=>?_⟩,hl⟩;obtain⟨b,off',rfl,hr⟩:=hp hne;exact⟨b,off',rfl,fun i c hc j u hj=>hG.cell (hr i c hc j u hj) (ho _ _ _ _ rfl)⟩
theorem E8:∀ {l:List Int} {ws:List Nat},lW ws→lW (ou ws l)
 | [],_,h=>h
 | f::l,_,h=>E8 (l:=l) (h.kQ f)
theorem Nq(n:Int)(w:World):Fn Tryz.prog 79 [.int .i64 n].toArray w [] (fun u hn=>∃ C,u=.func (.func 163) [].toArray [.pointer (some ⟨C,0,none⟩)].toArray∧aI [⟨C,#[.int .i64 n],3⟩] hn):=by
 refine enter Tryz.func79 ?_;refine run ?_;intro C;exact fin1 ⟨C,rfl,aI.refl _⟩
theorem aj1(L:HL)(H:HyD)(h:zM L H)(hW:H.lM)(fs:List Int)(hf:fs.all (bK H.ws.length)=true){pv gv ov:Value}(hv:aA w v 1 (fs.map bY))(hvo:∀ b o n k,v=.slice (some ⟨b,o,none⟩) n k→b∉(L.hp X [pv,gv,ov] 90).map (·.b))(hN:dY (L.hp X [pv,gv,ov] 90) w):
  Fn Tryz.prog 82 [.pointer (some ⟨X,0,none⟩),v].toArray w ((L.hp X [pv,gv,ov] 90).map (·.b)) (HR X [pv,gv,ov] 90 (H.RD fs)):=by
 obtain⟨wv,cv,vv,rv,cs,vs,hw,hc,ht,hvv,hz,hr⟩:=L;obtain⟨NQ,gw,gc,gt,zN,gz,gr,ec,ev⟩:=h;dsimp only at gw gc gt zN gz gr ec ev;have rY:=bP hW.m;have g3:=gw.sV;rw[bH7] at g3;obtain⟨wp,Vl,rfl,hwc⟩:=g3;simp only[HL.hp,HL.rest] at hN hvo ⊢;refine dS _ hN Tryz.func82 ?_;refine run ?_;refine bH (fun wc hG=>ah' H.ws (gw.lie (fun e he=>hG.here e bC9) bB6) fs (hv.aP2 hvo hG) hW.m hf) ?_;rintro u hn ⟨v1,h1,rfl,o1,hle⟩;obtain⟨pw,c1,e1⟩:=o1.opened;rw[bH7] at e1;subst e1;refine aS (⟨X,#[.slice wp H.ws.length Vl,cv,vv,rv,pv,gv,ov],90⟩::(h1++(hc++(ht++(hvv++(hz++hr)))))) (cnt1 hle) ?_;dsimp only;refine run ?_;exact fin0 ⟨rfl,⟨.slice pw (ou H.ws fs).length c1,cv,vv,rv,cs,vs,h1,hc,ht,hvv,hz,hr⟩,⟨E8 NQ,o1,gc,gt,zN,gz,gr,ec,ev⟩,aI.refl _⟩
theorem aq6{g cap m:Nat}{rv:Value}(hX:w.rangeAt X 0 [wv,cv,.slice (some ⟨g,0,none⟩) m cap,rv])(n:Int)(hn:1≤n∧n≤(m:Int))(hm:m<100000):
  Fn Tryz.prog 83 [.pointer (some ⟨X,0,none⟩),.int .i64 n].toArray w [] (fun u _=>u=.pointer (some ⟨g,(n-1).toNat*6,none⟩)):=by
 have h1:w.cell? ⟨X,2,none⟩=some (.slice (some ⟨g,0,none⟩) m cap):=aj (aV (k:=2) (n:=1) hX rfl);refine enter Tryz.func83 ?_;refine run ?_;exact fin1 rfl
theorem aj2(m:eG)(n:Int)(C:Nat)(w:World)(hC:w.cell? ⟨C,0,none⟩=some (.int .i64 n)):Fn Tryz.prog 252 ([]++[Value.agg (mW m).toArray]++[Value.pointer (some ⟨C,0,none⟩)]).toArray w [] (fun u _=>u=.bool (m.live&&decide (m.aN=n))):=by
 refine enter Tryz.func252 ?_;refine run ?_;intro B;refine aC ?_;exact fin1 rfl
theorem aj3{vv rv:Value}(vs:List eG)(hX:w.rangeAt X 0 [wv,cv,vv,rv])(hV:aA w vv 6 (vs.map mW))(hl:vs.length<100000):
  Fn Tryz.prog 168 [.pointer (some ⟨X,0,none⟩)].toArray w [] (fun u hn=>u=.int .i64 (zB (vs.map eG.u))):=by
 have h1:w.cell? ⟨X,2,none⟩=some vv:=aj (aV (k:=2) (n:=1) hX rfl);have hV':=hV;obtain⟨q,cap,rfl,hne,_⟩:=hV.opened;refine enter Tryz.func168 ?_;refine run ?_;intro Nb;refine aK (σ:=Nat) (fun _=>[]) (fun j=>[⟨Nb,#[.int .i64 (1+(j:Int))],3⟩]) (fun j=>(∀ i:Nat,i<j→BO (vs.map eG.u) (1+(i:Int))=true)∧j+EX (vs.map eG.u) (1+(j:Int))≤vs.length) (fun j=>EX (vs.map eG.u) (1+(j:Int))) 0 ⟨fun i hi=>absurd hi (bL0 _),by have:=Nl (vs.map eG.u) (1+((0:Nat):Int));rw[bH7] at this;omega⟩ ?_;rintro j m hm ⟨hj,hlen⟩;refine run ?_;have hcell:=fun (wc:World) (hG:Good w [] [⟨Nb,#[.int .i64 (1+(j:Int))],3⟩] wc)=>hG.cell1 (bN3.2 rfl);refine az (fun wc hG=>xg (us:=[.pointer (some ⟨Nb,0,none⟩)]) (fun m=>m.live&&decide (m.aN=1+(j:Int))) vs _ (hV'.good hG) (fun m _ w' ha=>aj2 m (1+(j:Int)) Nb w' ?_)) ?_
 ·obtain⟨hp2,hg⟩:=ha;exact hg.cell (hcell wc hG) bB5
 have hany:(vs.any fun m=>m.live&&decide (m.aN=1+(j:Int)))=BO (vs.map eG.u) (1+(j:Int)):=by unfold BO;rw[List.any_map];rfl
 rw[hany];refine run ?_;refine ah _ rfl (fun hc=>?_) (fun hc=>?_)
 ·refine run ?_;rw[show 1+(j:Int)+1=1+((j+1:Nat):Int) by omega];have hnx:=EY hc;rw[show 1+(j:Int)+1=1+((j+1:Nat):Int) by omega] at hnx;refine aF (j+1) ⟨fun i hi=>?_,by omega⟩ (hm:=by omega);by_cases e:i=j
  ·subst e;exact hc
  ·exact hj i bB3
 ·refine run ?_;refine fin1 ?_;unfold zB;rw[Nk j _ 1 (by have:=Nl (vs.map eG.u) 1;omega) hj hc]
theorem Fa(xs:List Int):∀ c∈xs.map bY,c.length=1∧c.all (·.oneCell')=true:=by
 intro c hc;obtain⟨x,_,rfl⟩:=bI7.1 hc;exact⟨rfl,rfl⟩
theorem UR(r:I5)(h1:r.ws.length<100000)(h2:r.left.length<100000):∃ u hn,Tu r u hn:=by
 obtain⟨v,h,hO⟩:=dZ (e:=53) (w_all r.ws) bB6;obtain⟨v2,h3,hO2⟩:=dZ (e:=3) (Fa r.left) bB6;exact⟨_,_,v,h,v2,h3,rfl,hO,hO2,aI.refl _⟩
theorem aj6{ws:List Nat}(hw:lW ws)(root:Int)(free:List Int)(page:Int)(d:DsD):TOk ws.length free.length (Es ws root free page d):=by
 unfold Es;exact mF (QT hw _ _ _ _) (Jd _ _ _)
theorem UT(L:HL)(H:HyD)(h:zM L H)(hW:H.lM)(n:Int)(hn:1≤n∧n≤4)(hfs:0<(H.vu (n-1).toNat).fs.length)(mid:Int)(d:DsD){pv gv ov:Value}(hN:dY (L.hp X [pv,gv,ov] 90) w):
  Fn Tryz.prog 80 [.pointer (some ⟨X,0,none⟩),.int .i64 n,.int .i64 mid,uj d].toArray w ((L.hp X [pv,gv,ov] 90).map (·.b)) (HR X [pv,gv,ov] 90 (H.ai' n mid d)):=by
 obtain⟨wv,cv,vv,rv,cs,vs,hw,hc,ht,hvv,hz,hr⟩:=L;obtain⟨NQ,gw,gc,gt,zN,gz,gr,ec,ev⟩:=h;dsimp only at gw gc gt zN gz gr ec ev;have evl:vs.length=4:=by rw[←hW.v,←ev,bH7]
 have rY:=bP hW.m;obtain⟨i,hi⟩:∃ i,i=(n-1).toNat:=⟨_,rfl⟩
 have hi4:i<vs.length:=by omega
 have hu:=rM ev i;rw[show H.vs.getD i default=H.vu i from rfl] at hu;rw[←hi,←hu] at hfs;have g3:=gw.sV;rw[bH7] at g3;obtain⟨wp,Vl,rfl,hwc⟩:=g3;obtain⟨g,cap,cur,rfl,rfl,hsz,qh,hput⟩:=zN.oq hi4;obtain⟨za,zb,⟨z1,z2,z3,o1,o2,o3,zl,hza⟩,hzz,xk⟩:=gz.out hi4;generalize hvm:vs.getD i default=vm at hfs hu qh hput o1 o2 o3 zl xk;simp only[HL.hp,HL.rest] at hN ⊢;refine dS _ hN Tryz.func80 ?_;refine run ?_;intro Db;refine run ?_;obtain⟨g1,cap1,YP,e1,rfl,hsz1,aP3,_⟩:=o1.oq (k:=0) hfs;obtain⟨qr,cr,er,hcr⟩:=o2.sV;rw[bH7] at er hcr;have bq7:0<vm.fs.length:=hfs;have n3:=qh 3 _ rfl;have n4:=qh 4 _ rfl;have n0:=aP3 0 _ rfl;rw[e1] at n3;rw[er] at n4;simp only[bR6,Nat.mul_zero,bL4] at n0;have hroot:vm.fs.getD 0 default=(H.vu i).root:=by rw[←hu];rfl
 rw[hroot] at n0;refine az (fun wc hG=>aq6 (m:=vs.length) (E5 (tl:=[pv,gv,ov]) (hG.here ⟨X,#[.slice wp H.ws.length Vl,cv,.slice (some ⟨g,0,none⟩) vs.length cap,rv,pv,gv,ov],90⟩ bB5)) n bB3 bB3) ?_;rw[←hi];refine aS (⟨X,#[.slice wp H.ws.length Vl,cv,.slice (some ⟨g,0,none⟩) vs.length cap,rv,pv,gv,ov],90⟩::⟨g,cur,62⟩::⟨g1,YP,3⟩::⟨Db,#[.int .i64 d.kind,.int .i64 d.frame,.bool d.r,.bool d.w,.bool d.x,.bool d.af,.bool d.ng,.int .i64 d.soft,.int .i64 d.note],95⟩::(z2++(z3++(zb++(hw++(hc++(ht++hr))))))) bD0 ?_;refine run ?_;refine Ag 24 [0,2,3,4,5,6,7,8,9,10,11,12,13,14,15,16,17,18] [19] [1,20,21,22,23] [24,25,26,28,29] [27,30] ?_;refine gI ?_;have hM:=aj6 (root:=(H.vu i).root) (free:=vm.fr) (page:=mid) (d:=d) NQ;obtain⟨M,hMe⟩:∃ M,M=Es H.ws (H.vu i).root vm.fr mid d:=⟨_,rfl⟩
 rw[←hMe] at hM;refine jZ (R:=Tu M) (fun wc hG=>by rw[hMe];exact ax9 (vl:=.slice qr vm.fr.length cr) H.ws NQ (gw.lie (fun e he=>hG.here e bC9) bB6) bB3 vm.fr (by rw[←er];exact o2.lie (fun e he=>hG.here e bC9) bB6) (by rw[←er];exact o2.QS) bB3 (H.vu i).root mid d) (UR M (bO1 hM.2.1 bB3) (bO1 hM.2.2 bB3)) ?_;refine kL ?_;rintro u hn ⟨v1,h1,v2,h2,rfl,m1,m2,hle⟩;obtain⟨pw,c1,ew⟩:=m1.opened;obtain⟨pf,c2,ef⟩:=m2.opened;rw[bH7] at ew ef;subst ew ef;refine yD ?_;refine yD ?_;refine dX ?_;refine dX ?_;refine dX ?_;refine jJ ?_;refine GK ?_;refine Ja ?_;refine Ja ?_;refine GK ?_;refine Ja ?_;refine jJ ?_;simp only[DN,bI0,bI3,bI'];have hnew:=hput 4 [.slice pf M.left.length c2] { vm with fr:=M.left,rp:=pf,rc:=c2 } bB5 rfl ⟨rfl,rfl⟩;refine je (b:=X) (tb:=90) (cs:=#[.slice wp H.ws.length Vl,cv,.slice (some ⟨g,0,none⟩) vs.length cap,rv,pv,gv,ov]) (cs':=#[.slice pw M.ws.length c1,cv,.slice (some ⟨g,0,none⟩) vs.length cap,rv,pv,gv,ov]) (hp':=hn++(⟨g,cur,62⟩::⟨g1,YP,3⟩::⟨Db,#[.int .i64 d.kind,.int .i64 d.frame,.bool d.r,.bool d.w,.bool d.x,.bool d.af,.bool d.ng,.int .i64 d.soft,.int .i64 d.note],95⟩::(z2++(z3++(zb++(hw++(hc++(ht++hr)))))))) ?_ aU;refine Ed (v:=.slice pf M.left.length c2) aB (b:=g) (cs:=cur) (cs':=putAt cur (i*6+4) [.slice pf M.left.length c2]) (tb:=62) (off:=i*6+4) (vs:=[.slice pf M.left.length c2]) (hp':=⟨X,#[.slice pw M.ws.length c1,cv,.slice (some ⟨g,0,none⟩) vs.length cap,rv,pv,gv,ov],90⟩::(hn++(⟨g1,YP,3⟩::⟨Db,#[.int .i64 d.kind,.int .i64 d.frame,.bool d.r,.bool d.w,.bool d.x,.bool d.af,.bool d.ng,.int .i64 d.soft,.int .i64 d.note],95⟩::(z2++(z3++(zb++(hw++(hc++(ht++hr))))))))) rfl rfl rfl rfl rfl rfl aU rfl (by show i*6+4+1≤_;omega) rfl ak ?_;refine di ?_;refine kV ?_;refine run ?_
 have hmap:H.ai' n mid d=⟨M.ws,H.cs,H.vs.set i { H.vu i with fr:=M.left },H.rs⟩:=by
  have hfr:(H.vu i).fr=vm.fr:=by rw[←hu];rfl
  unfold HyD.ai';rw[←hi,hMe];dsimp only;rw[hfr]
 rw[hmap];refine fin0 ⟨rfl,⟨.slice pw M.ws.length c1,cv,.slice (some ⟨g,0,none⟩) vs.length cap,rv,cs,vs.set i { vm with fr:=M.left,rp:=pf,rc:=c2 },h1,hc,ht,[⟨g,putAt cur (i*6+4) [.slice pf M.left.length c2],62⟩],([⟨g1,YP,3⟩]++(h2++z3))++zb,hr⟩,⟨hM.1,m1,gc,gt,hnew,xk _ _ ⟨[⟨g1,YP,3⟩],h2,z3,o1,m2,o3,⟨zl.1,bO1 hM.2.2 zl.2.1,zl.2.2⟩,aI.refl _⟩,gr,ec,?_⟩,?_⟩
 ·dsimp only;rw[bN8,ev,←hu];rfl
 ·simp only[HL.hp,HL.rest]
  (exact cnt1 hle)
theorem aj7(n:Int)(h0:-100≤n∧n≤1000)(w:World):Fn Tryz.prog 164 [.int .i64 n].toArray w [] (fun u _=>u=uj (jK (1+n))):=by
 refine enter Tryz.func164 ?_;refine run ?_;intro B;refine run ?_;exact dR (cs:=#[.int .i64 0,.int .i64 0,.bool false,.bool false,.bool false,.bool false,.bool false,.int .i64 0,.int .i64 (1+n)]) rfl
theorem aC2(f:Int)(w:World):Fn Tryz.prog 81 [.int .i64 f].toArray w [] (fun u _=>u=uj (aZ f 0)):=by
 refine enter Tryz.func81 ?_;refine run ?_;intro B;refine run ?_;refine az (fun wc hG=>yU f 0 wc) ?_;refine run ?_;exact dR (cs:=dsC (aZ f 0)) rfl
theorem Hw(C:Nat)(n:Int)(f:Int)(h0:-100≤n∧n≤1000)(w:World)(hC:w.cell? ⟨C,0,none⟩=some (.int .i64 n)):Fn Tryz.prog 163 ([]++[Value.int .i64 f]++[Value.pointer (some ⟨C,0,none⟩)]).toArray w [] (fun u _=>u=uj (jK (1+n))):=by
 refine enter Tryz.func163 ?_;refine run ?_;intro B;refine run ?_;refine az (fun wc hG=>aj7 n h0 wc) ?_;refine run ?_;exact dR (cs:=dsC (jK (1+n))) rfl
end
section
section
variable {n : Nat} {w0 : World} {mu : List Nat} {l : Fm} {hp : Hp} {all : Array Oper} {iv : Fm} {i d : Nat} {ds : List (Nat × Nat)} {D : List Nat} {Y : Fm → Prop} {ty : TypeId} {pos : String} {af : Array Edge}
theorem YQ{t e:TypeId}{x y:Operand}{b off m c s j off':Nat}{k:IntKind}{dd:Option Tmp}{lf:Fm}(hx:ev lf x=some (.slice (some ⟨b,off,none⟩) m c))(hy:ev lf y=some (.int k ((j:Nat):Int)))(ht:lk Tb.sl t=some (e,s))(h1:j<m)(he:off+j*s=off'):Fj Tryz.prog n w0 mu lf hp ⟨dd,.indexAddr t x y,ty,pos,af,none⟩ (.pointer (some ⟨b,off',none⟩)):=by
 obtain⟨hu,hs⟩:=aB.zJ ht;subst he;refine⟨rfl,fun a w hk _=>?_⟩;simp only[execOp,hk.ev hx,hk.ev hy];simp[Instr.indexAt,run_underlying hu w,asIntOf,h1,run_sizeOf hs w,add_lit]
theorem YR{t e:TypeId}{x y:Operand}{b off m c s j off':Nat}{k:IntKind}(h1:j<m)(he:off+j*s=off')(h:gQ Tryz.prog n w0 mu all ds l hp Y D ((i,.pointer (some ⟨b,off',none⟩))::iv))(ho:all[i]?=some ⟨some d,.indexAddr t x y,ty,pos,af,none⟩:=by rfl)(hx:ev (aT ds iv af.toList++l) x=some (.slice (some ⟨b,off,none⟩) m c):=by rfl)(hy:ev (aT ds iv af.toList++l) y=some (.int k ((j:Nat):Int)):=by rfl)(ht:lk Tb.sl t=some (e,s):=by rfl):gQ Tryz.prog n w0 mu all ds l hp Y (i::D) iv:=DK ho (YQ hx hy ht h1 he) h
end
section
variable {n : Nat} {w0 : World} {mu : List Nat} {l : Fm} {h0 hp hc : Hp} {all : Array Oper} {ds : List (Nat × Nat)} {t0 : Nat} {aX bz : Fm} {Y : Fm → Fm → Hp → Prop} {i d : Nat} {r : List (Nat × Bool)} {ty : TypeId} {pos : String} {af : Array Edge}
end
end
section
attribute [local irreducible] Hy St Ops DH dH jg iP gQ DS gX lJ
theorem YS(f:Int):∀ k,k<5→(HyD.jc f).getD k default=f+(k:Int):=by
 intro k hk
 match k,hk with
 | 0,_=>exact (Int.add_zero f).symm
 | 1,_=>rfl
 | 2,_=>rfl
 | 3,_=>rfl
 | 4,_=>rfl
theorem RH{f x:Int}(h:x∈HyD.jc f):f≤x∧x<f+5:=by
 simp only[HyD.jc,bJ3,bR5,or_false] at h;omega
theorem RI{D:Int→DsD}:∀ {l:List Int} {H:HyD},(HyD.zC D l H).vs=H.vs
 | [],_=>rfl
 | x::l,H=>by rw[HyD.zC,RI];rfl
theorem YT(H:HyD)(l:List Int):(H.RD l).vs=H.vs:=rfl
def zG(was is:PtD)(k:Nat):Nat:=(List.range k).foldl (fun a i=>bif (is.gs i).live&&!(was.gs i).live then i else a) 0
theorem xP(was is:PtD)(k:Nat):zG was is (k+1)=bif (is.gs k).live&&!(was.gs k).live then k else zG was is k:=by
 unfold zG;rw[bO5,List.foldl_append];rfl
theorem Nr(was is:PtD):∀ k,zG was is k≤k-1
 | 0=>bI9 0
 | k+1=>by
  rw[xP];have:=Nr was is k
  cases (is.gs k).live&&!(was.gs k).live with
  | true=>exact bI9 k
  | false=>rw[cond_false];omega
structure CrS where
 k:Nat
 v:Value
 h:Hp
theorem UU(L:HL)(H:HyD)(h:zM L H)(hW:H.lM)(c:zx)(hf:16≤c.frame∧c.frame+5≤((H.ws.length/8:Nat):Int)){pv gv ov pv2 gv2 ov2:Value}{P2:PtD}(hN:dY (L.hp X [pv,gv,ov] 90) w)
  (hP:dO w pv gv ov P) (hPn:P.Len) (hPo:∀ b o n k,gv=.slice (some ⟨b,o,none⟩) n k→b∉(L.hp X [pv,gv,ov] 90).map (·.b)) (hP2:dO w pv2 gv2 ov2 P2) (aj8:P2.Len) (UW:∀ b o n k,gv2=.slice (some ⟨b,o,none⟩) n k→b∉(L.hp X [pv,gv,ov] 90).map (·.b)):
  Fn Tryz.prog 84 [.pointer (some ⟨X,0,none⟩),uw c,.agg #[pv2,gv2,ov2]].toArray w ((L.hp X [pv,gv,ov] 90).map (·.b)) (HR X [pv,gv,ov] 90 (H.wM c.frame (HyD.UO P P2))):=by
 obtain⟨V,rfl,rfl,rfl,hV⟩:=hP.open hPn;obtain⟨V2,rfl,rfl,rfl,hV2⟩:=hP2.open aj8;have hb:=hPo _ _ _ _ rfl;have hb2:=UW _ _ _ _ rfl;refine dS _ hN Tryz.func84 ?_;refine run ?_;intro Cb Ib;refine run ?_;have rY:=bP hW.m;refine aK (σ:=CrS) (fun s=>[(11,.int .i64 (s.k:Int)),(6,s.v)]) (fun s=>⟨Ib,#[V2.pv P2.pages.length,V2.gv P2.ay.length,V2.ov P2.on.length],48⟩::⟨Cb,#[.int .i64 c.kind,.int .i64 c.vm,.int .i64 c.frame,.int .i64 c.mid,.int .i64 c.kX,.int .i64 c.mM],37⟩::(s.h++(L.hp X [V.pv P.pages.length,V.gv P.ay.length,V.ov P.on.length] 90))) (fun s=>s.k≤5∧Acc 3 1 s.v s.h (((HyD.jc c.frame).take s.k).map bY)) (fun s=>5-s.k) ⟨0,.slice none 0 0,[]⟩ ⟨bI1 _,Acc.nil _ _⟩ ?_;rintro⟨k,fv,hx⟩ m hm ⟨hk,hA⟩;dsimp only at hm hk hA ⊢;refine run ?_;refine ah _ rfl (fun hc=>?_) (fun hc=>?_)
 ·have hk5:k<5:=by have:=of_decide_eq_true hc;omega
  refine run ?_;intro Z
  have htn:(HyD.jc c.frame).take (k+1)=(HyD.jc c.frame).take k++[c.frame+(k:Int)]:=by
   rw[dW (xs:=HyD.jc c.frame) (k:=k) hk5,YS _ _ hk5]
  refine dK (c:=[.int .i64 (c.frame+(k:Int))]) hA (fun v' ha' hA2=>?_) bB9 (aY (m:=1) mh rfl) (hp':=⟨Z,#[.int .i64 (c.frame+(k:Int))],3⟩::⟨Ib,#[V2.pv P2.pages.length,V2.gv P2.ay.length,V2.ov P2.on.length],48⟩::⟨Cb,#[.int .i64 c.kind,.int .i64 c.vm,.int .i64 c.frame,.int .i64 c.mid,.int .i64 c.kX,.int .i64 c.mM],37⟩::(L.hp X [V.pv P.pages.length,V.gv P.ay.length,V.ov P.on.length] 90)) (hperm:=by (exact aU));refine run ?_;refine aF ⟨k+1,v',ha'⟩ ⟨hk5,?_⟩ (hm:=by dsimp only;omega) (h2:=by (exact ak));dsimp only;rw[htn,bJ4];exact hA2
 ·have hk5:k=5:=by have:=of_decide_eq_false hc;omega
  subst hk5;refine run ?_;refine bH (fun wc hG=>Nq 0 wc) ?_;rintro _ hn ⟨C,rfl,aC3⟩;refine aS (⟨Ib,#[V2.pv P2.pages.length,V2.gv P2.ay.length,V2.ov P2.on.length],48⟩::⟨Cb,#[.int .i64 c.kind,.int .i64 c.vm,.int .i64 c.frame,.int .i64 c.mid,.int .i64 c.kX,.int .i64 c.mM],37⟩::⟨C,#[.int .i64 0],3⟩::(hx++(L.hp X [V.pv P.pages.length,V.gv P.ay.length,V.ov P.on.length] 90))) (cnt1 aC3) ?_;rw[show (HyD.jc c.frame).take 5=HyD.jc c.frame from rfl] at hA;have hAo:=hA.own;refine run ?_;refine iR (L.hp X [V.pv P.pages.length,V.gv P.ay.length,V.ov P.on.length] 90) (⟨Ib,#[V2.pv P2.pages.length,V2.gv P2.ay.length,V2.ov P2.on.length],48⟩::⟨Cb,#[.int .i64 c.kind,.int .i64 c.vm,.int .i64 c.frame,.int .i64 c.mid,.int .i64 c.kX,.int .i64 c.mM],37⟩::⟨C,#[.int .i64 0],3⟩::hx) (fun wc hG=>RG L H h hW (F:=163) (us:=[.pointer (some ⟨C,0,none⟩)]) (fun _=>jK 1) (HyD.jc c.frame) (fun f hf=>by have:=RH hf;omega) (fun _ _=>rfl) (hAo.lie (fun e he=>hG.here e bC9) bF6) (fun b o n k e hm=>?_) (fun f hf w' hp hg=>?_) hG.iG) (fun v hn2 hR=>?_) aU
  ·obtain⟨x,hx,rfl⟩:=hAo.blk e;exact hG.Hr (e:=x) (by simp[hx]) hm
  ·have:=Hw C 0 f bB4 w' ((hG.lH hg).cell1 (t:=3) bB5);exact this
  obtain⟨rfl,L2,h2,hle2⟩:=hR;refine aS (⟨Ib,#[V2.pv P2.pages.length,V2.gv P2.ay.length,V2.ov P2.on.length],48⟩::⟨Cb,#[.int .i64 c.kind,.int .i64 c.vm,.int .i64 c.frame,.int .i64 c.mid,.int .i64 c.kX,.int .i64 c.mM],37⟩::(hx++(L2.hp X [V.pv P.pages.length,V.gv P.ay.length,V.ov P.on.length] 90))) (cnt1 hle2) ?_;refine run ?_;have hW2:=Be (D:=fun _=>jK 1) (l:=HyD.jc c.frame) hW;have hl2:=Np (D:=fun _=>jK 1) (l:=HyD.jc c.frame) (H:=H);obtain⟨H2,hH2⟩:∃ H2,H2=HyD.zC (fun _=>jK 1) (HyD.jc c.frame) H:=⟨_,rfl⟩
  rw[←hH2] at h2 hW2 hl2;refine iR (L2.hp X [V.pv P.pages.length,V.gv P.ay.length,V.ov P.on.length] 90) (⟨Ib,#[V2.pv P2.pages.length,V2.gv P2.ay.length,V2.ov P2.on.length],48⟩::⟨Cb,#[.int .i64 c.kind,.int .i64 c.vm,.int .i64 c.frame,.int .i64 c.mid,.int .i64 c.kX,.int .i64 c.mM],37⟩::hx) (fun wc hG=>aj1 L2 H2 h2 hW2 (HyD.jc c.frame) (bH'.2 fun f hf=>by have:=RH hf;rw[hl2];simp only[bK,bH6,decide_eq_true_eq];omega) (hAo.lie (fun e he=>hG.here e bC9) bF6) (fun b o n k e hm=>?_) hG.iG) (fun v hn3 hR=>?_) aU
  ·obtain⟨x,hx,rfl⟩:=hAo.blk e;exact hG.Hr (e:=x) (by simp[hx]) hm
  obtain⟨rfl,L3,h3,hle3⟩:=hR;obtain⟨wv3,RJ,vv3,rv3,cs3,vs3,hw3,hc3,ht3,hv3,hz3,hr3⟩:=L3;simp only[HL.hp,HL.rest] at hle3;refine aS (⟨Ib,#[V2.pv P2.pages.length,V2.gv P2.ay.length,V2.ov P2.on.length],48⟩::⟨X,#[wv3,RJ,vv3,rv3,V.pv P.pages.length,V.gv P.ay.length,V.ov P.on.length],90⟩::(hx++(hw3++(hc3++(ht3++(hv3++(hz3++hr3))))))) (cnt1 hle3) ?_;refine run ?_;have g4:=hPn.g4;have g42:=aj8.g4;refine aK (σ:=Nat) (fun k=>[(32,.int .i64 (k:Int)),(8,.int .i64 (zG P P2 k:Int))]) (fun _=>⟨Ib,#[V2.pv P2.pages.length,V2.gv P2.ay.length,V2.ov P2.on.length],48⟩::⟨X,#[wv3,RJ,vv3,rv3,V.pv P.pages.length,V.gv P.ay.length,V.ov P.on.length],90⟩::(hx++(hw3++(hc3++(ht3++(hv3++(hz3++hr3))))))) (fun k=>k≤4) (fun k=>4-k) 0 (bI1 _) ?_;rintro k m2 hm2 hk4;refine run ?_;refine ah _ rfl (fun hc2=>?_) (fun hc2=>?_)
  ·have hkl:k<4:=by have:=of_decide_eq_true hc2;omega
   have r1:=hV2.gs k bB3;have r2:=aj (aV (k:=0) (n:=1) (hV.gs k bB3) rfl);simp only[bL4] at r2;have hkP:k<P.ay.length:=by omega
   obtain⟨q5,c5,e5,_⟩:=(hV2.vc k bB3).opened;obtain⟨q6,c6,e6,_⟩:=(hV2.mp k bB3).opened;rw[e5,e6] at r1;refine run ?_;intro Gb;refine aC ?_;refine ah _ rfl (fun hd=>?_) (fun hd=>?_)
   ·have e9:zG P P2 (k+1)=k:=by rw[xP,hd];rfl
    refine run ?_;exact aF (k+1) hkl (hm:=by omega) (h1:=by rw[e9];(repeat (first | exact True.intro | (refine And.intro bC1 ?_))))
   ·have e9:zG P P2 (k+1)=zG P P2 k:=by rw[xP,hd];rfl
    refine run ?_;exact aF (k+1) hkl (hm:=by omega) (h1:=by rw[e9];(repeat (first | exact True.intro | (refine And.intro bC1 ?_))))
  ·have hk5:k=4:=by have:=of_decide_eq_false hc2;omega
   subst hk5;refine run ?_;obtain⟨H3,hH3⟩:∃ H3,H3=H2.RD (HyD.jc c.frame):=⟨_,rfl⟩
   rw[←hH3] at h3;have aP5:H3.vs=H.vs:=by rw[hH3,YT,hH2,RI]
   have hcr:H.wM c.frame (HyD.UO P P2)=H3.aC1 (HyD.UO P P2) ⟨true,false,zB H.vs,HyD.jc c.frame,(HyD.jc c.frame).drop 1,[]⟩:=by
    unfold HyD.wM;rw[hH3,hH2]
   rw[hcr];clear hcr hH3;obtain⟨k64,kw,kc,kt,kv,kz,kr,kec,kev⟩:=h3;dsimp only at kw kc kt kv kz kr kec kev
   have aC4:vs3.map eG.u=H.vs:=by
    rw[kev,aP5]
   have kvl:vs3.length=4:=by
    rw[←hW.v,←aC4,bH7]
   obtain⟨at_,hat⟩:∃ a,a=zG P P2 4:=⟨_,rfl⟩
   have aC5:at_<vs3.length:=by have:=Nr P P2 4;omega
   obtain⟨g3,cap3,uY,rfl,rfl,hsz,qh,hput⟩:=kv.oq aC5;rw[←hat];obtain⟨fg,Qa,aC6,rfl,rfl,aP6⟩:=hAo.row (n:=5) rfl bB4;refine Ag 13 [0,1,2,3,4,5,6,7,8,9,10] [11] [12] [13] [14] ?_;refine gI ?_;refine Eo (fun wc hx9 hG=>aj3 vs3 (E5 (tl:=[V.pv P.pages.length,V.gv P.ay.length,V.ov P.on.length]) (hG.here ⟨X,#[wv3,RJ,.slice (some ⟨g3,0,none⟩) vs3.length cap3,rv3,V.pv P.pages.length,V.gv P.ay.length,V.ov P.on.length],90⟩ bB5)) (kv.lie (fun e he=>hG.here e bG9) bB6) bB3) ?_;refine gI ?_;have hfc:=aP6.le;refine jY rfl (fun hx9=>l9 aB rfl rfl rfl bB4 bB4 bB3 (o':=1) (m':=4) (c':=Qa-1) rfl rfl rfl) ?_;refine gI ?_;have l4:(((HyD.jc c.frame).drop 1).map bY).length=4:=rfl;have l5:((HyD.jc c.frame).map bY).length=5:=rfl;have l5':(HyD.jc c.frame).length=5:=rfl;have aq7:=Fa ((HyD.jc c.frame).drop 1);refine jZ (R:=fun u hn=>Own 3 1 u hn (((HyD.jc c.frame).drop 1).map bY)) (fun wc hG=>qK _ _ ?_ aq7 bB3) (dZ aq7 bB3) ?_
   ·have:=(hAo.lie (w:=wc) (fun e he=>hG.here e bG9) bB3).aN0 (i:=1) (k:=4) (c':=Qa-1) bB3;exact this
   refine kL ?_;intro cv9 h9 hO9;obtain⟨q9,c9,e9⟩:=hO9.opened;rw[show ((HyD.jc c.frame).drop 1).map bY=[bY (c.frame+1),bY (c.frame+2),bY (c.frame+3),bY (c.frame+4)] from rfl,show ([bY (c.frame+1),bY (c.frame+2),bY (c.frame+3),bY (c.frame+4)]:List (List Value)).length=4 from rfl] at e9;subst e9;refine uH ?_;refine jJ ?_;refine YR aC5 (bK2 (at_*6)) ?_;refine jJ ?_;simp only[DN,bI0,bI3,bI'];obtain⟨m9,hm9⟩:∃ m9:eG,m9=⟨true,false,zB (vs3.map eG.u),HyD.jc c.frame,some ⟨fg,0,none⟩,Qa,(HyD.jc c.frame).drop 1,q9,c9,[],none,0⟩:=⟨_,rfl⟩
   have hnew:=hput 0 [.bool true,.bool false,.int .i64 (zB (vs3.map eG.u)),.slice (some ⟨fg,0,none⟩) 5 Qa,.slice q9 4 c9,.slice none 0 0] m9 bB5 (by
    rw[bN0,bM0 bB5,bI',bI3,hm9];rfl) ⟨rfl,rfl⟩
   obtain⟨za,zb,_,hzz,xk⟩:=kz.out aC5;refine Ed (v:=.agg #[.bool true,.bool false,.int .i64 (zB (vs3.map eG.u)),.slice (some ⟨fg,0,none⟩) 5 Qa,.slice q9 4 c9,.slice none 0 0]) aB (b:=g3) (cs:=uY) (cs':=putAt uY (at_*6+0) [.bool true,.bool false,.int .i64 (zB (vs3.map eG.u)),.slice (some ⟨fg,0,none⟩) 5 Qa,.slice q9 4 c9,.slice none 0 0]) (tb:=62) (off:=at_*6) (vs:=[.bool true,.bool false,.int .i64 (zB (vs3.map eG.u)),.slice (some ⟨fg,0,none⟩) 5 Qa,.slice q9 4 c9,.slice none 0 0]) (hp':=⟨X,#[wv3,RJ,.slice (some ⟨g3,0,none⟩) vs3.length cap3,rv3,V.pv P.pages.length,V.gv P.ay.length,V.ov P.on.length],90⟩::(h9++(⟨Ib,#[V2.pv P2.pages.length,V2.gv P2.ay.length,V2.ov P2.on.length],48⟩::⟨fg,aC6,3⟩::(hw3++(hc3++(ht3++(hz3++hr3))))))) rfl rfl rfl rfl rfl rfl aU rfl (by show at_*6+6≤_;omega) rfl ak ?_;refine di ?_;refine kV ?_;refine run ?_;refine fin0 ⟨rfl,⟨wv3,RJ,.slice (some ⟨g3,0,none⟩) vs3.length cap3,rv3,cs3,vs3.set at_ m9,hw3,hc3,ht3,[⟨g3,_,62⟩],([⟨fg,aC6,3⟩]++(h9++[]))++zb,hr3⟩,⟨k64,kw,kc,kt,hnew,xk _ _ ⟨[⟨fg,aC6,3⟩],h9,[],?_,?_,?_,?_,aI.refl _⟩,kr,kec,?_⟩,?_⟩
   ·rw[hm9];exact hAo
   ·rw[hm9];exact hO9
   ·rw[hm9];exact Own.nil _ _
   ·rw[hm9];exact⟨(by decide:(5:Nat)<100000),(by decide:(4:Nat)<100000),(by decide:(0:Nat)<100000)⟩
   ·dsimp only;rw[bN8,aC4,hm9];unfold HyD.aC1;dsimp only;rw[aP5,hat,aC4];rfl
   ·simp only[HL.hp,HL.rest]
    (exact cnt1 hzz)
theorem aC7(xs:List zL):∀ c∈xs.map kN,c.length=15∧c.all (·.oneCell')=true:=by
 intro c hc;obtain⟨x,_,rfl⟩:=bI7.1 hc;exact⟨rfl,rfl⟩
theorem aC8(xs:List jv):∀ c∈xs.map qY,c.length=19∧c.all (·.oneCell')=true:=by
 intro c hc;obtain⟨x,_,rfl⟩:=bI7.1 hc;exact⟨rfl,rfl⟩
theorem aC9(xs:List eG):∀ c∈xs.map mW,c.length=6∧c.all (·.oneCell')=true:=by
 intro c hc;obtain⟨x,_,rfl⟩:=bI7.1 hc;exact⟨rfl,rfl⟩
theorem YU(es:List fF)(ds:List jy)(h1:es.length<100000)(h2:ds.length<100000):∃ (r:Value) (hn:Hp),∃ v1 h1 v2 h2,r=.agg #[v1,v2]∧Own 80 14 v1 h1 (es.map iy)∧Own 127 4 v2 h2 (ds.map lg)∧aI (h1++h2) hn:=by
 obtain⟨a1,g1,o1⟩:=dZ (e:=80) (xs:=es.map iy) tC bB6;obtain⟨a2,g2,o2⟩:=dZ (e:=127) (xs:=ds.map lg) AO bB6;exact⟨_,_,a1,g1,a2,g2,rfl,o1,o2,aI.refl _⟩
theorem UX{α:Type}[Inhabited α]{xs ys:List α}(h:xs.drop k=ys.drop k):xs.getD k default=ys.getD k default:=by
 have:=congrArg (fun l:List α=>l[0]?) h;simp only[bP2,bL4] at this;rw[bH8,bH8,this]
theorem xm{α:Type}{l:List α}{y:α}(h:k<l.length):(l.set k y).take (k+1)=l.take k++[y]:=by
 apply bQ8;intro i;simp only[bM7,bS9,List.getElem?_append,bK',bP7 (Nat.le_of_lt h)];by_cases h1:i<k
 ·simp[h1,show i<k+1 by omega,show ¬ k=i by omega]
 ·by_cases h2:i=k
  ·subst h2;simp[h]
  ·simp[h1,show ¬ i<k+1 by omega,show i-k≠0 by omega,bO2 (show ([y]:List α).length≤i-k by simp;omega)]
theorem YV(xs:List Az):∀ c∈xs.map wR,c.length=16∧c.all (·.oneCell')=true:=by
 intro c hc;obtain⟨x,_,rfl⟩:=bI7.1 hc;exact⟨rfl,rfl⟩
structure CdS where
 k:Nat
 xs:List jv
 cur:Array Value
 h:Hp
structure CvS where
 k:Nat
 xs:List eG
 cur:Array Value
 h:Hp
theorem UY{vv rv:Value}(h:vw w wv cv vv rv H)(hw0:0<H.ws.length)(hc0:0<H.cs.length)(hv0:0<H.vs.length)(pp gp Zt:Option Addr)(n1 n2 n3 k1 k2 k3:Nat):
  Fn Tryz.prog 34 [.agg #[wv,cv,vv,rv],.agg #[.slice pp n1 k1,.slice gp n2 k2,.slice Zt n3 k3]].toArray w [] (fun u hn=>∃ X L,u=.pointer (some ⟨X,0,none⟩)∧zM L H∧aI (L.hp X [.slice pp n1 k1,.slice gp n2 k2,.slice Zt n3 k3] 90) hn):=by
 have h':=h;have hfit:=h.fit;obtain⟨cs,vs,e1,e2,e3,hH⟩:=h.ex;have hcl:cs.length=H.cs.length:=by rw[←e1,bH7]
 have hvl:vs.length=H.vs.length:=by rw[←e2,bH7]
 have hl:=hfit.l;obtain⟨q,cap,rfl,hne,_⟩:=hH.ws.opened;have FY:=hH.cs.rows.opened;obtain⟨q2,cap2,rfl,hne2,_⟩:=FY;obtain⟨q3,cap3,rfl,jG,_⟩:=hH.vs.rows.opened;obtain⟨q4,cap4,rfl,oV,_⟩:=hH.rs.opened;refine enter Tryz.func34 ?_;refine run ?_;intro Hb Pb;refine ve 19 3 [0,1,2,5,6,8,9,11,12,15] [(3,false),(4,true),(7,false),(10,false),(13,false),(14,true),(16,true),(17,false),(18,true)] [⟨Pb,#[.slice pp n1 k1,.slice gp n2 k2,.slice Zt n3 k3],48⟩,⟨Hb,#[.slice q H.ws.length cap,.slice q2 cs.length cap2,.slice q3 vs.length cap3,.slice q4 H.rs.length cap4],29⟩] ?_;refine kU ?_;refine xC ?_;refine yH (fun wc hG=>oP _ _ (hH.ws.good hG) (w_all _) bB6) ?_;intro v1 h1 o1;obtain⟨y1,d1,e1'⟩:=o1.opened;rw[bH7] at e1';subst e1';refine di ?_;refine xD ?_;refine uH ?_;refine jJ ?_;refine⟨_,rfl,?_⟩;refine xC ?_;refine yH (fun wc hG=>L8 _ _ (hH.cs.rows.good hG) (aC8 _) bB6) ?_;intro v2 h2 o2;obtain⟨y2,d2,e2'⟩:=o2.opened;rw[bH7] at e2';subst e2';refine di ?_;refine xC ?_;refine yH (fun wc hG=>Pq _ _ (hH.vs.rows.good hG) (aC9 _) bB6) ?_;intro v3 h3 o3;obtain⟨y3,d3,e3'⟩:=o3.opened;rw[bH7] at e3';subst e3';refine di ?_;refine xC ?_;refine yH (fun wc hG=>L9 _ _ (hH.rs.good hG) (aC7 _) bB6) ?_;intro v4 h4 o4;obtain⟨y4,d4,e4'⟩:=o4.opened;rw[bH7] at e4';subst e4';refine di ?_;refine xD ?_;refine uH ?_;refine jJ ?_;refine⟨_,rfl,?_⟩;refine xD ?_;refine uH ?_;refine jJ ?_;refine⟨_,rfl,?_⟩;refine xC ?_;refine aZ0 (fun X=>?_);refine di ?_;refine xD ?_;refine oQ ?_;refine jJ ?_;refine⟨_,rfl,?_⟩;refine Ji ?_;refine kV ?_;obtain⟨g2,d2',UH,e2',rfl,hrow2⟩:=o2.row (n:=cs.length) bB5 bB3;cases e2';obtain⟨g3,d3',uY,e3',rfl,hrow3⟩:=o3.row (n:=vs.length) bB5 bB3;cases e3';refine aS (⟨X,#[.slice y1 H.ws.length d1,.slice (some ⟨g2,0,none⟩) cs.length d2,.slice (some ⟨g3,0,none⟩) vs.length d3,.slice y4 H.rs.length d4,.slice pp n1 k1,.slice gp n2 k2,.slice Zt n3 k3],90⟩::⟨Hb,#[.slice q H.ws.length cap,.slice q2 cs.length cap2,.slice q3 vs.length cap3,.slice q4 H.rs.length cap4],29⟩::⟨g2,UH,74⟩::⟨g3,uY,62⟩::(h1++h4)) ak ?_;refine run ?_;refine aK (σ:=CdS) (fun s=>[(33,.int .i64 (s.k:Int))]) (fun s=>⟨X,#[.slice y1 H.ws.length d1,.slice (some ⟨g2,0,none⟩) cs.length d2,.slice (some ⟨g3,0,none⟩) vs.length d3,.slice y4 H.rs.length d4,.slice pp n1 k1,.slice gp n2 k2,.slice Zt n3 k3],90⟩::⟨Hb,#[.slice q H.ws.length cap,.slice q2 cs.length cap2,.slice q3 vs.length cap3,.slice q4 H.rs.length cap4],29⟩::⟨g2,s.cur,74⟩::⟨g3,uY,62⟩::(s.h++(h1++h4))) (fun s=>s.k≤cs.length∧s.xs.length=cs.length∧Own 74 19 (.slice (some ⟨g2,0,none⟩) cs.length d2) [⟨g2,s.cur,74⟩] (s.xs.map qY)∧fP wS ((s.xs.take s.k).map (·.t)) s.h∧s.xs.map jv.u=H.cs) (fun s=>cs.length-s.k) ⟨0,cs,UH,[]⟩ ⟨bI1 _,rfl,o2,trivial,e1⟩ ?_;rintro⟨k,xs,cu,ht⟩ m hm ⟨hk,hxl,hU,hT,hE⟩;dsimp only at hm hk hxl hU hT hE ⊢;refine run ?_;refine ah _ rfl (fun hc=>?_) (fun hc=>?_)
 ·have hlt:k<cs.length:=by simpa using hc
  obtain⟨b2,o2_,rfl⟩:=hne2 (by intro e;rw[e] at hlt;cases hlt);have hr:=hH.cs.rows.row hlt;have hen:=hH.cs.en _ (getD_mem (l:=cs) hlt);have hiv:=hH.cs.iv _ (getD_mem (l:=cs) hlt);have hfc:=hfit.c (H.cs.getD k default) (getD_mem bB3);rw[←FM e1 k] at hfc;obtain⟨g',cap',cur',q1_,q2_,hsz,qh,hput⟩:=hU.oq (k:=k) bB3;rw[hxl] at q1_ hput;cases q1_;cases q2_;have hxu:(xs.getD k default).u=(cs.getD k default).u:=by rw[FM hE k,FM e1 k]
  have aP8:=aV (k:=17) (n:=2) hr rfl;generalize cs.getD k default=c at aP8 hen hiv hfc hxu;refine run ?_;refine Ag 13 [0,1,2,3,4,5,6,7,8,9,10,11] [12] [] [13,14] [15] ?_;refine gI ?_;refine jZ (R:=fun r hn=>∃ v1 h1 v2 h2,r=.agg #[v1,v2]∧Own 80 14 v1 h1 (c.t.es.map iy)∧Own 127 4 v2 h2 (c.t.ds.map lg)∧aI (h1++h2) hn) (fun wc hG=>G5 c.t.es c.t.ds _ _ (hen.good hG) (hiv.good hG) (bW4 hfc.1 bB4) (bW4 hfc.2.1 bB4)) (YU _ _ hfc.1 hfc.2.1) ?_;refine kL ?_;rintro u hn ⟨v5,h5,v6,h6,rfl,a5,a6,hle⟩;obtain⟨q5,c5,e5⟩:=a5.opened;obtain⟨q6,c6,e6⟩:=a6.opened;rw[bH7] at e5 e6;subst e5 e6;refine jJ ?_;refine YR hlt (bK2 (k*19)) ?_;refine Ja ?_;refine jJ ?_;simp only[DN,bI0,bI3,bI'];have hnew:=hput 17 [.slice q5 c.t.es.length c5,.slice q6 c.t.ds.length c6] { xs.getD k default with t:=⟨c.t.es,c.t.ds,q5,c5,q6,c6⟩ } bB5 rfl ⟨rfl,rfl⟩;refine Ed (v:=.agg #[.slice q5 c.t.es.length c5,.slice q6 c.t.ds.length c6]) aB (b:=g2) (cs:=cu) (cs':=putAt cu (k*19+17) [.slice q5 c.t.es.length c5,.slice q6 c.t.ds.length c6]) (tb:=74) (off:=k*19+17) (vs:=[.slice q5 c.t.es.length c5,.slice q6 c.t.ds.length c6]) (hp':=⟨X,#[.slice y1 H.ws.length d1,.slice (some ⟨g2,0,none⟩) cs.length d2,.slice (some ⟨g3,0,none⟩) vs.length d3,.slice y4 H.rs.length d4,.slice pp n1 k1,.slice gp n2 k2,.slice Zt n3 k3],90⟩::(hn++(⟨Hb,#[.slice q H.ws.length cap,.slice (some ⟨b2,o2_,none⟩) cs.length cap2,.slice q3 vs.length cap3,.slice q4 H.rs.length cap4],29⟩::⟨g3,uY,62⟩::(ht++(h1++h4))))) rfl rfl rfl rfl rfl rfl aU rfl (by show k*19+17+2≤_;omega) rfl ak ?_;refine di ?_;refine kV ?_;refine run ?_;refine aF ⟨k+1,xs.set k { xs.getD k default with t:=⟨c.t.es,c.t.ds,q5,c5,q6,c6⟩ },putAt cu (k*19+17) [.slice q5 c.t.es.length c5,.slice q6 c.t.ds.length c6],(h5++h6)++ht⟩ ⟨hlt,by dsimp only;rw[bM1];exact hxl,hnew,?_,?_⟩ (hm:=by dsimp only;omega) (h2:=by (exact cnt1 hle))
  ·dsimp only;rw[xm bB3,bJ4];exact hT.snoc (y:=⟨c.t.es,c.t.ds,q5,c5,q6,c6⟩) ⟨h5,h6,a5,a6,⟨hfc.1,hfc.2.1⟩,aI.refl _⟩
  ·dsimp only;have hxk:k<xs.length:=by omega
   have e9:jv.u { xs.getD k default with t:=⟨c.t.es,c.t.ds,q5,c5,q6,c6⟩ }=(xs.getD k default).u:=by
    rw[hxu];have h9:=congrArg JU.r hxu;have h10:=congrArg JU.vm hxu;have h11:=congrArg JU.vc hxu;simp only[jv.u] at h9 h10 h11 ⊢;rw[h9,h10,h11]
   rw[bN8,e9,←hE];refine pY ?_;rw[bJ',bH8,bH9 hxk];rfl
 ·have hge:k=cs.length:=by simp at hc;omega
  subst hge;rw[←hxl,bN4] at hT;refine run ?_;refine aK (σ:=CvS) (fun s=>[(58,.int .i64 (s.k:Int))]) (fun s=>⟨X,#[.slice y1 H.ws.length d1,.slice (some ⟨g2,0,none⟩) cs.length d2,.slice (some ⟨g3,0,none⟩) vs.length d3,.slice y4 H.rs.length d4,.slice pp n1 k1,.slice gp n2 k2,.slice Zt n3 k3],90⟩::⟨g2,cu,74⟩::⟨g3,s.cur,62⟩::(s.h++(ht++(h1++h4)))) (fun s=>s.k≤vs.length∧s.xs.length=vs.length∧Own 62 6 (.slice (some ⟨g3,0,none⟩) vs.length d3) [⟨g3,s.cur,62⟩] (s.xs.map mW)∧fP TU (s.xs.take s.k) s.h∧s.xs.map eG.u=H.vs∧s.xs.drop s.k=vs.drop s.k) (fun s=>vs.length-s.k) ⟨0,vs,uY,[]⟩ ⟨bI1 _,rfl,o3,trivial,e2,rfl⟩ ?_;rintro⟨k,ys,RJ,hz⟩ m2 hm2 ⟨hk2,hyl,hV,hZ,hEv,hdr⟩;dsimp only at hm2 hk2 hyl hV hZ hEv hdr ⊢;refine run ?_;refine ah _ rfl (fun hc2=>?_) (fun hc2=>?_)
  ·have hlt:k<vs.length:=by simpa using hc2
   have hfv:=hfit.v (H.vs.getD k default) (getD_mem bB3);rw[←rM e2 k] at hfv;have hf1:=hH.vs.fs _ (getD_mem (l:=vs) hlt);have hf2:=hH.vs.fr _ (getD_mem (l:=vs) hlt);have hf3:=hH.vs.vs _ (getD_mem (l:=vs) hlt);obtain⟨g',cap',cur',q1_,q2_,hsz,qh,hput⟩:=hV.oq (k:=k) bB3;rw[hyl] at q1_ hput;cases q1_;cases q2_;have hyk:=UX hdr;rw[hyk] at qh hput;generalize hmv:vs.getD k default=mv at hf1 hf2 hf3 hfv qh hput hyk;obtain⟨qf,cf,ef,_,_⟩:=hf1.opened;obtain⟨qr,cr,er,_,_⟩:=hf2.opened;obtain⟨qv,cvv,ev,_,_⟩:=hf3.opened;have nn3:=qh 3 _ rfl;have nn4:=qh 4 _ rfl;have nn5:=qh 5 _ rfl;rw[ef] at nn3;rw[er] at nn4;rw[ev] at nn5;refine run ?_;refine Ee 27 20 [0,1,2,3,4,5,6,8,9,10,11,13,14,15,16,18,19,21,22,24,25] [7,12,17] [20,23,26] [] ?_;refine kU ?_;refine jZ (R:=fun u hn=>Own 3 1 u hn (mv.fs.map bY)) (fun wc hG=>qK (.slice qf mv.fs.length cf) _ (by rw[←ef];exact hf1.good hG) (Fa _) (by rw[bH7];have:=hfv.1;show mv.fs.length<_;exact bW4 this bB4)) (dZ (Fa _) (by rw[bH7];exact Nat.le_of_lt (bW4 hfv.1 bB4))) ?_;refine jZ (R:=fun u hn=>Own 3 1 u hn (mv.fr.map bY)) (fun wc hG=>qK (.slice qr mv.fr.length cr) _ (by rw[←er];exact hf2.good hG) (Fa _) (by rw[bH7];exact bW4 hfv.2.1 bB4)) (dZ (Fa _) (by rw[bH7];exact Nat.le_of_lt (bW4 hfv.2.1 bB4))) ?_;refine jZ (R:=fun u hn=>Own 102 16 u hn (mv.vs.map wR)) (fun wc hG=>Jn (.slice qv mv.vs.length cvv) _ (by rw[←ev];exact hf3.good hG) (YV _) (by rw[bH7];exact bW4 hfv.2.2.1 bB4)) (dZ (YV _) (by rw[bH7];exact Nat.le_of_lt (bW4 hfv.2.2.1 bB4))) ?_;refine kL ?_;intro w7 a7 b7 w8 a8 b8 w9 a9 b9;obtain⟨q7,c7,e7⟩:=b9.opened;obtain⟨q8,c8,e8⟩:=b8.opened;obtain⟨q9,c9,e9⟩:=b7.opened;rw[bH7] at e7 e8 e9;subst e7 e8 e9;simp only[DN,bI0,bI3,bI'];refine Ed (v:=.slice q7 mv.fs.length c7) aB (b:=g3) (cs:=RJ) (cs':=putAt RJ (k*6+3) [.slice q7 mv.fs.length c7]) (tb:=62) (off:=k*6+3) (vs:=[.slice q7 mv.fs.length c7]) (hp':=⟨X,#[.slice y1 H.ws.length d1,.slice (some ⟨g2,0,none⟩) cs.length d2,.slice (some ⟨g3,0,none⟩) vs.length d3,.slice y4 H.rs.length d4,.slice pp n1 k1,.slice gp n2 k2,.slice Zt n3 k3],90⟩::(a7++(a8++a9)++(⟨g2,cu,74⟩::(hz++(ht++(h1++h4)))))) rfl rfl rfl rfl rfl rfl aU rfl bF3 rfl ak ?_;refine Ed (v:=.slice q8 mv.fr.length c8) aB (b:=g3) (cs:=putAt RJ (k*6+3) [.slice q7 mv.fs.length c7]) (cs':=putAt (putAt RJ (k*6+3) [.slice q7 mv.fs.length c7]) (k*6+4) [.slice q8 mv.fr.length c8]) (tb:=62) (off:=k*6+4) (vs:=[.slice q8 mv.fr.length c8]) (hp':=⟨X,#[.slice y1 H.ws.length d1,.slice (some ⟨g2,0,none⟩) cs.length d2,.slice (some ⟨g3,0,none⟩) vs.length d3,.slice y4 H.rs.length d4,.slice pp n1 k1,.slice gp n2 k2,.slice Zt n3 k3],90⟩::(a7++(a8++a9)++(⟨g2,cu,74⟩::(hz++(ht++(h1++h4)))))) rfl rfl rfl rfl rfl rfl aU rfl bF3 rfl ak ?_;refine Ed (v:=.slice q9 mv.vs.length c9) aB (b:=g3) (cs:=putAt (putAt RJ (k*6+3) [.slice q7 mv.fs.length c7]) (k*6+4) [.slice q8 mv.fr.length c8]) (cs':=putAt (putAt (putAt RJ (k*6+3) [.slice q7 mv.fs.length c7]) (k*6+4) [.slice q8 mv.fr.length c8]) (k*6+5) [.slice q9 mv.vs.length c9]) (tb:=62) (off:=k*6+5) (vs:=[.slice q9 mv.vs.length c9]) (hp':=⟨X,#[.slice y1 H.ws.length d1,.slice (some ⟨g2,0,none⟩) cs.length d2,.slice (some ⟨g3,0,none⟩) vs.length d3,.slice y4 H.rs.length d4,.slice pp n1 k1,.slice gp n2 k2,.slice Zt n3 k3],90⟩::(a7++(a8++a9)++(⟨g2,cu,74⟩::(hz++(ht++(h1++h4)))))) rfl rfl rfl rfl rfl rfl aU rfl bF3 rfl ak ?_;refine di ?_;refine kV ?_;have hnew:=hput 3 [.slice q7 mv.fs.length c7,.slice q8 mv.fr.length c8,.slice q9 mv.vs.length c9] { mv with fp:=q7,fc:=c7,rp:=q8,rc:=c8,vp:=q9,vk:=c9 } bB5 rfl ⟨rfl,rfl⟩;refine run ?_;refine aF ⟨k+1,ys.set k { mv with fp:=q7,fc:=c7,rp:=q8,rc:=c8,vp:=q9,vk:=c9 },putAt (putAt (putAt RJ (k*6+3) [.slice q7 mv.fs.length c7]) (k*6+4) [.slice q8 mv.fr.length c8]) (k*6+5) [.slice q9 mv.vs.length c9],(a9++(a8++a7))++hz⟩ ⟨hlt,by dsimp only;rw[bM1];exact hyl,hnew,?_,?_,?_⟩ (hm:=by dsimp only;omega) (h2:=by (exact ak))
   ·dsimp only;rw[xm bB3];exact hZ.snoc ⟨a9,a8,a7,b9,b8,b7,⟨hfv.1,hfv.2.1,hfv.2.2.1⟩,aI.refl _⟩
   ·dsimp only;have UZ:k<ys.length:=by omega
    rw[bN8,←hEv];refine pY ?_;rw[bJ',bH9 UZ];rw[bH8,bH9 UZ] at hyk;rw[show ys[k]=mv from hyk];rfl
   ·dsimp only;rw[List.drop_set_of_lt (bY8 k)];have:=congrArg (List.drop 1) hdr;rwa [bQ2,bQ2] at this
  ·have hge:k=vs.length:=by simp at hc2;omega
   subst hge;rw[←hyl,bN4] at hZ;refine run ?_;exact fin1 ⟨X,⟨.slice y1 H.ws.length d1,.slice (some ⟨g2,0,none⟩) cs.length d2,.slice (some ⟨g3,0,none⟩) vs.length d3,.slice y4 H.rs.length d4,xs,ys,h1,[⟨g2,cu,74⟩],ht,[⟨g3,RJ,62⟩],hz,h4⟩,rfl,⟨hH.Df,o1,hU,hT,hV,hZ,o4,hE,hEv⟩,by simp only[HL.hp,HL.rest];(exact ak)⟩
theorem YW{l:List Value}{o:Nat}{c:List Value}(h:∀ j u,c[j]?=some u→nth l (o+j)=some u):List.take c.length (List.drop o l)=c:=by
 apply bQ8;intro j;rw[bM7];by_cases hj:j<c.length
 ·rw[if_pos hj,bP2,bH9 hj];have:=h j c[j] (bH9 hj);rw[mZ] at this;simpa using this
 ·rw[if_neg hj,bO2 bB3]
theorem Du{l:List Value}{o:Nat}{c a b:List Value}(h:∀ j u,c[j]?=some u→nth l (o+j)=some u)(hc:c=a++b):List.take a.length (List.drop o l)=a:=
 YW fun j u hj=>h j u (by subst hc;rw[bT' (by have:=(bJ8.1 hj).1;exact this)];exact hj)
end
section
attribute [local irreducible] Hy St Ops DH dH jg iP gQ DS gX lJ
attribute [local irreducible] putAt
set_option maxHeartbeats 400000 in
theorem aj9(L:HL)(H:HyD)(h:zM L H)(cpu:Nat)(mQ:cpu<H.cs.length)(hrl:H.rs.length=H.cs.length)(a97:H.cs.length<100000)(hvm:1≤(H.cu cpu).vm∧(H.cu cpu).vm≤(H.vs.length:Int))(a98:H.vs.length<100000)(lC:0≤(H.cu cpu).vc∧(H.cu cpu).vc<((H.vu ((H.cu cpu).vm-1).toNat).vs.length:Int)){pv gv ov:Value}(hN:dY (L.hp X [pv,gv,ov] 90) w):
  Fn Tryz.prog 87 [.pointer (some ⟨X,0,none⟩),.int .i64 (cpu:Int)].toArray w ((L.hp X [pv,gv,ov] 90).map (·.b)) (HR X [pv,gv,ov] 90 (H.zD cpu)):=by
 obtain⟨wv,cv,vv,rv,cs,vs,hw,hc,ht,hvv,hz,hr⟩:=L;obtain⟨NQ,gw,F7,gt,zN,gz,gr,ec,ev⟩:=h;dsimp only at gw F7 gt zN gz gr ec ev;have ecl:cs.length=H.cs.length:=by rw[←ec,bH7]
 have evl:vs.length=H.vs.length:=by rw[←ev,bH7]
 have huc:=FM ec cpu;rw[show H.cs.getD cpu default=H.cu cpu from rfl] at huc;rw[←huc] at hvm lC;obtain⟨gc,cc,oz,rfl,rfl,csz,qX,Bf⟩:=F7.oq (k:=cpu) bB3;generalize JG:cs.getD cpu default=cp at huc qX Bf hvm lC;obtain⟨jW,n_,cvc,ct⟩:=cp;simp only[jv.u] at hvm lC;obtain⟨k,rfl⟩:∃ k:Nat,cvc=(k:Int):=⟨cvc.toNat,by omega⟩
 obtain⟨i,hi⟩:∃ i,i=(n_-1).toNat:=⟨_,rfl⟩
 have hi4:i<vs.length:=by omega
 have hu:=rM ev i;rw[show H.vs.getD i default=H.vu i from rfl] at hu;rw[←hi,←hu] at lC;obtain⟨NR,cv_,Ns,rfl,rfl,vsz,YX,aC'⟩:=zN.oq hi4;obtain⟨Qb,cr_,Qc,rfl,rfl,rsz,YY,YZ⟩:=gr.oq (k:=cpu) bB3;obtain⟨za,zb,⟨z1,z2,z3,o1,o2,o3,zl,hza⟩,hzz,xk⟩:=gz.out hi4;generalize Y0:vs.getD i default=vm at lC hu YX aC' o1 o2 o3 zl xk;have hkv:k<vm.vs.length:=by have:=lC.2;simp only[eG.u] at this;omega
 obtain⟨gk,ck,JH,ek,rfl,ksz,a99,aD0⟩:=o3.oq hkv;have nv5:=YX 5 _ rfl;rw[ek] at nv5;have Qd:=qX 15 _ rfl;have aD1:=qX 16 _ rfl;have tR:=Du (a:=kN jW) qX rfl;dsimp only at Qd aD1;generalize hrg:H.rs.getD cpu default=rg at YY YZ;have tH:=Du (a:=kN rg) YY (bI' _).symm;have JI:cpu<cs.length:=by omega
 simp only[HL.hp,HL.rest] at hN ⊢;refine dS _ hN Tryz.func87 ?_;refine run ?_;refine oD (⟨X,#[wv,.slice (some ⟨gc,0,none⟩) cs.length cc,.slice (some ⟨NR,0,none⟩) vs.length cv_,.slice (some ⟨Qb,0,none⟩) H.rs.length cr_,pv,gv,ov],90⟩::⟨gc,oz,74⟩::⟨NR,Ns,62⟩::⟨Qb,Qc,68⟩::⟨gk,JH,102⟩::(hw++(ht++(z1++(z2++zb))))) bD0 ?_;refine uh 20 17 [0,1,2,3,4,5,6,7,8,9,10,11,12,13,14,15,16,18] [17,19] [⟨X,#[wv,.slice (some ⟨gc,0,none⟩) cs.length cc,.slice (some ⟨NR,0,none⟩) vs.length cv_,.slice (some ⟨Qb,0,none⟩) H.rs.length cr_,pv,gv,ov],90⟩,⟨gc,oz,74⟩,⟨NR,Ns,62⟩] ?_;refine kU ?_;refine aw1 (fun wc hx9 hG=>aq6 (m:=vs.length) (E5 (tl:=[pv,gv,ov]) (hG.here ⟨X,#[wv,.slice (some ⟨gc,0,none⟩) cs.length cc,.slice (some ⟨NR,0,none⟩) vs.length cv_,.slice (some ⟨Qb,0,none⟩) H.rs.length cr_,pv,gv,ov],90⟩ bB5)) n_ bB3 bB3) ?_;rw[←hi];refine kU ?_;refine IW (out:=(wR ⟨jW,-1⟩).toArray) (out':=(wR ⟨jW,-1⟩).toArray) ?_ (hf:=by kernel_rfl) (hn:=rfl);refine Ed (v:=.agg (wR ⟨jW,-1⟩).toArray) aB (b:=gk) (cs:=JH) (cs':=putAt JH (k*16) (wR ⟨jW,-1⟩)) (tb:=102) (off:=k*16) (vs:=(wR ⟨jW,-1⟩)) (hp':=⟨X,#[wv,.slice (some ⟨gc,0,none⟩) cs.length cc,.slice (some ⟨NR,0,none⟩) vs.length cv_,.slice (some ⟨Qb,0,none⟩) H.rs.length cr_,pv,gv,ov],90⟩::⟨gc,oz,74⟩::⟨NR,Ns,62⟩::⟨Qb,Qc,68⟩::(hw++(ht++(z1++(z2++zb))))) rfl rfl rfl rfl rfl rfl aU rfl (by show k*16+16≤_;omega) rfl ak ?_;refine di ?_;refine kV ?_;generalize hk3:putAt JH (k*16) (wR ⟨jW,-1⟩)=k3;refine aS (⟨gc,oz,74⟩::⟨Qb,Qc,68⟩::⟨X,#[wv,.slice (some ⟨gc,0,none⟩) cs.length cc,.slice (some ⟨NR,0,none⟩) vs.length cv_,.slice (some ⟨Qb,0,none⟩) H.rs.length cr_,pv,gv,ov],90⟩::⟨NR,Ns,62⟩::⟨gk,k3,102⟩::(hw++(ht++(z1++(z2++zb))))) ak ?_;refine run ?_
 have hstop:H.zD cpu=⟨H.ws,H.cs.set cpu ⟨rg,0,0,ct.es,ct.ds⟩,H.vs.set i ⟨vm.live,vm.dying,vm.aN,vm.fs,vm.fr,vm.vs.set k ⟨jW,-1⟩⟩,H.rs.set cpu jA⟩:=by
  unfold HyD.zD;rw[←huc];simp only[jv.u];rw[←hi,←hu,bN1,hrg];rfl
 have hcn:=Bf 0 (kN rg++[.int .i64 0,.int .i64 0]) ⟨rg,0,0,ct⟩ bB5 rfl ⟨rfl,rfl⟩;have hrn:=YZ 0 (kN jA) jA bB5 rfl ⟨rfl,rfl⟩;have hkn:=aD0 0 (wR ⟨jW,-1⟩) ⟨jW,-1⟩ bB5 rfl ⟨rfl,rfl⟩
 have hc3:putAt oz (cpu*19+0) (kN rg++[.int .i64 0,.int .i64 0])=putAt (putAt (putAt oz (cpu*19) (kN rg)) (cpu*19+15) [.int .i64 0]) (cpu*19+16) [.int .i64 0]:=by
  rw[pF];exact pF [Value.int .i64 0] _ _ _
 rw[hc3] at hcn;rw[bL4] at hrn hkn;rw[hk3] at hkn;rw[show kN jA=[.int .u64 0,.int .u64 0,.int .u64 0,.int .u64 0,.int .u64 0,.int .u64 0,.int .u64 0,.int .u64 0,.int .u64 0,.int .u64 0,.int .u64 0,.int .u64 0,.int .u64 0,.int .u64 0,.int .u64 0] from rfl] at hrn;clear hc3;rw[hstop];simp only[putAt] at hcn hrn;generalize (((((((((((((((((oz.setIfInBounds (cpu*19) (.int .u64 (rg.x0:Int))).setIfInBounds (cpu*19+1) (.int .u64 (rg.x1:Int))).setIfInBounds (cpu*19+1+1) (.int .u64 (rg.x2:Int))).setIfInBounds (cpu*19+1+1+1) (.int .u64 (rg.x3:Int))).setIfInBounds (cpu*19+1+1+1+1) (.int .u64 (rg.x4:Int))).setIfInBounds (cpu*19+1+1+1+1+1) (.int .u64 (rg.x5:Int))).setIfInBounds (cpu*19+1+1+1+1+1+1) (.int .u64 (rg.x6:Int))).setIfInBounds (cpu*19+1+1+1+1+1+1+1) (.int .u64 (rg.x7:Int))).setIfInBounds (cpu*19+1+1+1+1+1+1+1+1) (.int .u64 (rg.pc:Int))).setIfInBounds (cpu*19+1+1+1+1+1+1+1+1+1) (.int .u64 (rg.Lp:Int))).setIfInBounds (cpu*19+1+1+1+1+1+1+1+1+1+1) (.int .u64 (rg.BD:Int))).setIfInBounds (cpu*19+1+1+1+1+1+1+1+1+1+1+1) (.int .u64 (rg.Lr:Int))).setIfInBounds (cpu*19+1+1+1+1+1+1+1+1+1+1+1+1) (.int .u64 (rg.elr:Int))).setIfInBounds (cpu*19+1+1+1+1+1+1+1+1+1+1+1+1+1) (.int .u64 (rg.esr:Int))).setIfInBounds (cpu*19+1+1+1+1+1+1+1+1+1+1+1+1+1+1) (.int .u64 (rg.far:Int))).setIfInBounds (cpu*19+15) (.int .i64 0)).setIfInBounds (cpu*19+16) (.int .i64 0))=c3 at hcn ⊢;generalize (((((((((((((((Qc.setIfInBounds (cpu*15) (.int .u64 0)).setIfInBounds (cpu*15+1) (.int .u64 0)).setIfInBounds (cpu*15+1+1) (.int .u64 0)).setIfInBounds (cpu*15+1+1+1) (.int .u64 0)).setIfInBounds (cpu*15+1+1+1+1) (.int .u64 0)).setIfInBounds (cpu*15+1+1+1+1+1) (.int .u64 0)).setIfInBounds (cpu*15+1+1+1+1+1+1) (.int .u64 0)).setIfInBounds (cpu*15+1+1+1+1+1+1+1) (.int .u64 0)).setIfInBounds (cpu*15+1+1+1+1+1+1+1+1) (.int .u64 0)).setIfInBounds (cpu*15+1+1+1+1+1+1+1+1+1) (.int .u64 0)).setIfInBounds (cpu*15+1+1+1+1+1+1+1+1+1+1) (.int .u64 0)).setIfInBounds (cpu*15+1+1+1+1+1+1+1+1+1+1+1) (.int .u64 0)).setIfInBounds (cpu*15+1+1+1+1+1+1+1+1+1+1+1+1) (.int .u64 0)).setIfInBounds (cpu*15+1+1+1+1+1+1+1+1+1+1+1+1+1) (.int .u64 0)).setIfInBounds (cpu*15+1+1+1+1+1+1+1+1+1+1+1+1+1+1) (.int .u64 0))=r3 at hrn ⊢;refine fin0 ⟨rfl,⟨wv,.slice (some ⟨gc,0,none⟩) cs.length cc,.slice (some ⟨NR,0,none⟩) vs.length cv_,.slice (some ⟨Qb,0,none⟩) H.rs.length cr_,cs.set cpu ⟨rg,0,0,ct⟩,vs.set i { vm with vs:=vm.vs.set k ⟨jW,-1⟩ },hw,[⟨gc,c3,74⟩],ht,[⟨NR,Ns,62⟩],(z1++(z2++[⟨gk,k3,102⟩]))++zb,[⟨Qb,r3,68⟩]⟩,⟨NQ,gw,hcn,?_,?_,xk _ _ ⟨z1,z2,[⟨gk,k3,102⟩],o1,o2,?_,⟨zl.1,zl.2.1,by rw[bM1];exact zl.2.2⟩,aI.refl _⟩,hrn,?_,?_⟩,?_⟩
 ·dsimp only;rw[bN8,pY]
  ·exact gt
  ·rw[bJ',bH9 JI];rw[bH8,bH9 JI] at JG;rw[show cs[cpu]=_ from JG];rfl
 ·dsimp only;rw[bN8,pY]
  ·exact zN
  ·rw[bJ',bH9 hi4];rw[bH8,bH9 hi4] at Y0;rw[show vs[i]=vm from Y0];simp only[bL5,mW,eG.vv,eG.fv,eG.rv,bM1]
 ·rw[show (eG.vv { vm with vs:=vm.vs.set k ⟨jW,-1⟩ })=vm.vv by simp only[eG.vv,bM1],ek];exact hkn
 ·dsimp only;rw[bN8,ec];rfl
 ·dsimp only;rw[bN8,ev];rfl
 ·simp only[HL.hp,HL.rest]
  (exact ak)
end
section
attribute [local irreducible] Hy St Ops DH dH jg iP gQ DS gX lJ
section
variable {L : HL} {H : HyD} {cpu : Nat} {c : zx} {X : Nat} {pv gv ov : Value} {w : World} {p7 p8 p9 : Option Addr} {n7 n8 n9 k7 k8 k9 : Nat}
theorem Nu(h:zM L H)(hW:H.lM)(mQ:cpu<H.cs.length)(hk:c.kind=5)(hf:16≤c.frame∧c.frame+5≤((H.ws.length/8:Nat):Int)){P2:PtD}(hPn:P.Len)(aj8:P2.Len)
  (hP:∀ w' hp,Good w ((L.hp X [pv,gv,ov] 90).map (·.b)) hp w'→dO w' pv gv ov P) (hPo:∀ b o n k,gv=.slice (some ⟨b,o,none⟩) n k→b∉(L.hp X [pv,gv,ov] 90).map (·.b)) (hP2:∀ w' hp,Good w ((L.hp X [pv,gv,ov] 90).map (·.b)) hp w'→dO w' (.slice p7 n7 k7) (.slice p8 n8 k8) (.slice p9 n9 k9) P2) (UW:∀ b o n k,Value.slice p8 n8 k8=.slice (some ⟨b,o,none⟩) n k→b∉(L.hp X [pv,gv,ov] 90).map (·.b)) (hN:dY (L.hp X [pv,gv,ov] 90) w):
  Fn Tryz.prog 35 [.pointer (some ⟨X,0,none⟩),.int .i64 (cpu:Int),uw c,.agg #[.slice p7 n7 k7,.slice p8 n8 k8,.slice p9 n9 k9]].toArray w ((L.hp X [pv,gv,ov] 90).map (·.b)) (HR X [pv,gv,ov] 90 (H.wM c.frame (HyD.UO P P2))):=by
 obtain⟨K_,n_,uA,mV,Bi,vN⟩:=c;dsimp only at hk;subst hk;obtain⟨wv,cv,vv,rv,cs,vs,hw,hc,ht,hvv,hz,hr⟩:=L;have h':=h;obtain⟨NQ,gw,F7,gt,zN,gz,gr,ec,ev⟩:=h;dsimp only at gw F7 gt zN gz gr ec ev;have ecl:cs.length=H.cs.length:=bG6;obtain⟨gc,cc,oz,rfl,rfl,csz,qX,Bf⟩:=F7.oq (k:=cpu) bB3;generalize JG:cs.getD cpu default=cp at qX Bf;have Qd:=qX 15 _ rfl;have JI:cpu<cs.length:=bB3;have hc3:=hW.c3;refine dS _ hN Tryz.func35 ?_;simp only[HL.hp,HL.rest] at hN ⊢;refine oD (⟨X,#[wv,.slice (some ⟨gc,0,none⟩) cs.length cc,vv,rv,pv,gv,ov],90⟩::⟨gc,oz,74⟩::(hw++(ht++(hvv++(hz++hr))))) ak ?_;refine run ?_;intro Cb Ib;refine aP ?_;refine iR ((⟨wv,.slice (some ⟨gc,0,none⟩) cs.length cc,vv,rv,cs,vs,hw,[⟨gc,oz,74⟩],ht,hvv,hz,hr⟩:HL).hp X [pv,gv,ov] 90) [⟨Ib,#[.slice p7 n7 k7,.slice p8 n8 k8,.slice p9 n9 k9],48⟩,⟨Cb,#[.int .i64 5,.int .i64 n_,.int .i64 uA,.int .i64 mV,.int .i64 Bi,.int .i64 vN],37⟩] (fun wc hG=>UU _ H h' hW ⟨5,n_,uA,mV,Bi,vN⟩ hf hG.iG (hP wc _ hG) hPn hPo (hP2 wc _ hG) aj8 UW) (fun v hn hR=>?_) bE3;obtain⟨rfl,L2,h2,hle⟩:=hR;refine run ?_;exact fin0 ⟨rfl,L2,h2,Di hle ak⟩
theorem Nv(h:zM L H)(hW:H.lM)(mQ:cpu<H.cs.length)(hk:c.kind=3)(hvm:1≤c.vm∧c.vm≤4)(hf:0≤c.frame∧c.frame<64)(hfs:0<(H.vu (c.vm-1).toNat).fs.length)(hN:dY (L.hp X [pv,gv,ov] 90) w):
  Fn Tryz.prog 35 [.pointer (some ⟨X,0,none⟩),.int .i64 (cpu:Int),uw c,.agg #[.slice p7 n7 k7,.slice p8 n8 k8,.slice p9 n9 k9]].toArray w ((L.hp X [pv,gv,ov] 90).map (·.b)) (HR X [pv,gv,ov] 90 (H.zF c.vm c.frame c.mid)):=by
 obtain⟨K_,n_,uA,mV,Bi,vN⟩:=c;dsimp only at hk;subst hk;obtain⟨wv,cv,vv,rv,cs,vs,hw,hc,ht,hvv,hz,hr⟩:=L;have h':=h;obtain⟨NQ,gw,F7,gt,zN,gz,gr,ec,ev⟩:=h;dsimp only at gw F7 gt zN gz gr ec ev;have ecl:cs.length=H.cs.length:=bG6;obtain⟨gc,cc,oz,rfl,rfl,csz,qX,Bf⟩:=F7.oq (k:=cpu) bB3;generalize JG:cs.getD cpu default=cp at qX Bf;have Qd:=qX 15 _ rfl;have JI:cpu<cs.length:=bB3;have hc3:=hW.c3;dsimp only at hvm hf hfs ⊢;refine dS _ hN Tryz.func35 ?_;simp only[HL.hp,HL.rest] at hN ⊢;refine oD (⟨X,#[wv,.slice (some ⟨gc,0,none⟩) cs.length cc,vv,rv,pv,gv,ov],90⟩::⟨gc,oz,74⟩::(hw++(ht++(hvv++(hz++hr))))) ak ?_;refine run ?_;intro Cb Ib;refine aP ?_;refine drawM 7 [0,1,2,4,5] [3,6] [] ?_;refine gI ?_;refine jZ (R:=fun u hn=>∃ C,u=.func (.func 163) [].toArray [.pointer (some ⟨C,0,none⟩)].toArray∧aI [⟨C,#[.int .i64 n_],3⟩] hn) (fun wc hG=>Nq n_ wc) ⟨_,_,0,rfl,aI.refl _⟩ ?_;refine Ry ?_;refine kL ?_;rintro _ _ ⟨Z,rfl,rfl⟩ _ hnC ⟨C,rfl,aC3⟩;refine jJ ?_;refine ry ?_;simp only[bI0,bI3];refine aS (⟨Z,#[.int .i64 uA],3⟩::⟨C,#[.int .i64 n_],3⟩::⟨Ib,#[.slice p7 n7 k7,.slice p8 n8 k8,.slice p9 n9 k9],48⟩::⟨Cb,#[.int .i64 3,.int .i64 n_,.int .i64 uA,.int .i64 mV,.int .i64 Bi,.int .i64 vN],37⟩::⟨X,#[wv,.slice (some ⟨gc,0,none⟩) cs.length cc,vv,rv,pv,gv,ov],90⟩::⟨gc,oz,74⟩::(hw++(ht++(hvv++(hz++hr))))) (cnt1 aC3) ?_;refine iR ((⟨wv,.slice (some ⟨gc,0,none⟩) cs.length cc,vv,rv,cs,vs,hw,[⟨gc,oz,74⟩],ht,hvv,hz,hr⟩:HL).hp X [pv,gv,ov] 90) (⟨Z,#[.int .i64 uA],3⟩::⟨C,#[.int .i64 n_],3⟩::⟨Ib,#[.slice p7 n7 k7,.slice p8 n8 k8,.slice p9 n9 k9],48⟩::[⟨Cb,#[.int .i64 3,.int .i64 n_,.int .i64 uA,.int .i64 mV,.int .i64 Bi,.int .i64 vN],37⟩]) (fun wc hG=>RG _ H h' hW (F:=163) (us:=[.pointer (some ⟨C,0,none⟩)]) (fun _=>jK (1+n_)) [uA] (fun f hf'=>by rw[bN3.1 hf'];exact hf) (fun _ _=>Gz bB3 bB3) (iI (xs:=[uA].map bY) (hG.here ⟨Z,#[.int .i64 uA],3⟩ bB5) (fun c hc=>(Fa _ c hc).1) bB5) (fun b o n k e hm=>?_) (fun f hf' w' hp hg=>?_) hG.iG) (fun v hn2 hR=>?_) bE3
 ·cases e;exact hG.Hr (e:=⟨Z,#[.int .i64 uA],3⟩) bB5 hm
 ·exact Hw C n_ f ⟨by omega,by omega⟩ w' ((hG.lH hg).cell1 (t:=3) bB5)
 obtain⟨rfl,L2,h2,hle2⟩:=hR;refine aS (⟨Ib,#[.slice p7 n7 k7,.slice p8 n8 k8,.slice p9 n9 k9],48⟩::⟨Cb,#[.int .i64 3,.int .i64 n_,.int .i64 uA,.int .i64 mV,.int .i64 Bi,.int .i64 vN],37⟩::(L2.hp X [pv,gv,ov] 90)) (cnt1 hle2) ?_;refine run ?_;refine drawM 8 [0,1,2,3,4,5,6,7] [] [] ?_;refine gI ?_;refine Eo (fun wc hx9 hG=>aC2 uA wc) ?_;refine gI ?_;refine kL ?_;refine jJ ?_;refine ry ?_;simp only[bI0,bI3];have hW2:(H.hst uA.toNat (jK (1+n_))).lM:=hW.hst _;refine iR (L2.hp X [pv,gv,ov] 90) (⟨Ib,#[.slice p7 n7 k7,.slice p8 n8 k8,.slice p9 n9 k9],48⟩::[⟨Cb,#[.int .i64 3,.int .i64 n_,.int .i64 uA,.int .i64 mV,.int .i64 Bi,.int .i64 vN],37⟩]) (fun wc hG=>UT L2 _ h2 hW2 n_ hvm hfs mV (aZ uA 0) hG.iG) (fun v hn3 hR=>?_) aU;obtain⟨rfl,L3,h3,hle3⟩:=hR;refine run ?_;exact fin0 ⟨rfl,L3,h3,Di hle3 ak⟩
end
end
section
attribute [local irreducible] Hy St Ops DH dH
theorem BP{ha:Hp}(xs:List Int)(hA:Own 3 1 v ha (xs.map bY))(hN:dY ha w)(hl:xs.length<100000):Fn Tryz.prog 185 [v].toArray w (ha.map (·.b)) (fun u hn=>u=.tuple #[]):=by
 obtain⟨q,cap,ev⟩:=hA.opened;rw[bH7] at ev;subst ev;refine dS _ hN Tryz.func185 ?_;refine run ?_;refine aK (σ:=Nat×Hp×List Int) (fun s=>[(2,.int .i64 (s.1:Int))]) (fun s=>s.2.1) (fun s=>s.1≤xs.length∧s.2.2.length=xs.length∧Own 3 1 (.slice q xs.length cap) s.2.1 (s.2.2.map bY)) (fun s=>xs.length-s.1) (0,ha,xs) ⟨bI1 _,rfl,hA⟩ ?_;rintro⟨k,h,ys⟩ m hm ⟨hk,hyl,hO⟩;dsimp only at hm hk hyl hO ⊢;refine run ?_;refine ah _ rfl (fun hc=>?_) (fun hc=>?_)
 ·have hlt:k<xs.length:=by simp at hc;omega
  obtain⟨g,cap',cur,eg,rfl,hn,hsz,hset⟩:=hO.aa6 (k:=k) bB3;rw[hyl] at eg;cases eg;refine run ?_;exact aF (k+1,[⟨g,cur.setIfInBounds k (.int .i64 (-99)),3⟩],ys.set k (-99)) (hm:=by dsimp only;omega) ⟨hlt,by rw[bM1];exact hyl,hset _⟩ (h2:=by (exact ak))
 ·refine run ?_;intro T;refine wz (c:=bY 5) [⟨T,#[.int .i64 5],3⟩] hO (fun v' ha' hA'=>?_) bB6 (aY (m:=1) mh rfl) aU;refine run ?_;exact fin0 rfl
section
variable {P : PtD} {Y : Lay} {w : World}
end
end
section
attribute [local irreducible] Hy St Ops DH dH
namespace PtD
def Hz(r:Except Int PtD):Prop:=∀ e,r=.error e→e≠0
theorem aD2{e:Int}(h:e≠0):Hz (.error e):=fun _ h2=>by cases h2;exact h
theorem ak1{b:Bool}{x y:Except Int PtD}(h1:Hz x)(h2:Hz y):Hz (bif b then x else y):=by cases b<;>assumption
theorem aP'{Q:PtD}:Hz (.ok Q):=fun _ h=>by cases h
theorem xQ(P:PtD)(cpu:Nat)(c:zx):Hz (P.Cj cpu c):=by
 unfold Cj EW Bd YH Nc o6 Na qO Nh moreL aO5 YD BN
 repeat' first
  | exact aD2 bB4
  | exact aP'
  | refine ak1 ?_ ?_
end PtD
def PK(K:Int):Prop:=∀ (P:PtD) (w:World) (pv gv ov:Value),dO w pv gv ov P→P.Small 1000→∀ cpu:Nat,cpu<P.on.length→∀ c:zx,c.Wf→c.kind=K →
  Fn Tryz.prog 33 [.agg #[pv,gv,ov],.int .i64 (cpu:Int),uw c].toArray w [] (DoR (bif P.may then P.Cj cpu c else .error 1))
theorem ba0:PK 3:=by
 intro P w pv gv ov h hs cpu hc c hw hk;obtain⟨K,vm,fr,mid,vc,cc⟩:=c;dsimp only at hk;subst hk;refine EP h hs cpu hc _ _ (PtD.xQ P cpu _) (fun hm hv Y bx w hO hN=>?_) (fun hm hv Y bx w hO hN=>?_)
 ·rw[PtD.Cj,show decide ((P.st cpu).vm=0)=true by simp[hv],cond_true,PtD.EW];exact A8 hO hm hN cpu vm fr mid vc cc hw
 ·rw[PtD.Cj,show decide ((P.st cpu).vm=0)=false by simp[hv],cond_false,PtD.Bd];exact vM hO hN 3 vm fr mid vc cc cpu hc bB4 bB4 bB4
theorem ba1:PK 5:=by
 intro P w pv gv ov h hs cpu hc c hw hk;obtain⟨K,vm,fr,mid,vc,cc⟩:=c;dsimp only at hk;subst hk;refine EP h hs cpu hc _ _ (PtD.xQ P cpu _) (fun hm hv Y bx w hO hN=>?_) (fun hm hv Y bx w hO hN=>?_)
 ·rw[PtD.Cj,show decide ((P.st cpu).vm=0)=true by simp[hv],cond_true,PtD.EW];exact Ba hO hm hN cpu vm fr mid vc cc hw
 ·rw[PtD.Cj,show decide ((P.st cpu).vm=0)=false by simp[hv],cond_false,PtD.Bd];exact vM hO hN 5 vm fr mid vc cc cpu hc bB4 bB4 bB4
theorem aQ0:PK 9:=by
 intro P w pv gv ov h hs cpu hc c hw hk;obtain⟨K,vm,fr,mid,vc,cc⟩:=c;dsimp only at hk;subst hk;refine EP h hs cpu hc _ _ (PtD.xQ P cpu _) (fun hm hv Y bx w hO hN=>?_) (fun hm hv Y bx w hO hN=>?_)
 ·rw[PtD.Cj,show decide ((P.st cpu).vm=0)=true by simp[hv],cond_true,PtD.EW];exact F6 hO hN (.inl rfl) vm fr mid vc cc cpu
 ·rw[PtD.Cj,show decide ((P.st cpu).vm=0)=false by simp[hv],cond_false,PtD.Bd];exact Ci hO hm hN vm fr mid vc cc cpu hc hv
end
section
attribute [local irreducible] Hy St Ops DH dH jg iP gQ DS gX lJ
theorem rW{w0 wc:World}{mu:List Nat}{hi rest hn:Hp}(hG:Good w0 mu (hi++rest) wc)(hs:∀ e∈hn,e∈rest){pv gv ov:Value}(hP:∀ w,Here hn w→dO w pv gv ov P)(h0:0<P.ay.length):∀ b o n k,gv=.slice (some ⟨b,o,none⟩) n k→b∉hi.map (·.b):=by
 intro b o n k e hm;subst e;obtain⟨x,hx,rfl⟩:=bI7.1 hm;obtain⟨A,B,rfl⟩:=bW8 hx
 have kK:(x::(A++B++rest)).Perm (A++x::B++rest):=by
  rw[←bI0];exact (bS6 (l₁:=A) (l₂:=B)).symm.append_right rest
 have hG2:=hG.perm kK;have hG3:=hG2.row #[];have hH:Here hn (wc.setRow x.b #[]):=fun e he=>hG3.here e (bI5 _ (bI4 _ (hs e he)));obtain⟨_,⟨vv,mv,hg,_⟩,_,_⟩:=hP _ hH;have hr:=(aA.a5' hg (i:=0) (by rw[bJ',bO' h0];rfl))
 have hc:=aj hr;rw[cell_of_block (hG3.here _ (bI8 ..))] at hc;simp at hc
def HY(H:HyD)(u:Value)(hn:Hp):Prop:=∃ L:HL,u=.tuple #[.agg #[L.wv,L.cv,L.vv,L.rv],.int .i64 0]∧zM L H∧aI L.rest hn
theorem JJ{K:Int}(pk:PK K){w:World}{vv rv:Value}(h:vw w wv cv vv rv H)(hok:H.ok=true)(cpu:Nat)(mQ:cpu<H.cs.length)(c:zx)(hk:c.kind=K)(hw:c.Wf){P2:PtD}(hd:H.aG.Cj cpu c=.ok P2)(hs:H.aG.Small 1000){H2:HyD}
  (hdo:∀ (L:HL) (X:Nat) (p4 p5 p6 p7 p8 p9:Option Addr) (n4 n5 n6 n7 n8 n9 k4 k5 k6 k7 k8 k9:Nat) (w:World),zM L H→dY (L.hp X [.slice p4 n4 k4,.slice p5 n5 k5,.slice p6 n6 k6] 90) w →
   (∀ w' hp,Good w ((L.hp X [.slice p4 n4 k4,.slice p5 n5 k5,.slice p6 n6 k6] 90).map (·.b)) hp w'→dO w' (.slice p4 n4 k4) (.slice p5 n5 k5) (.slice p6 n6 k6) H.aG)→(∀ b o n k,Value.slice p5 n5 k5=.slice (some ⟨b,o,none⟩) n k→b∉(L.hp X [.slice p4 n4 k4,.slice p5 n5 k5,.slice p6 n6 k6] 90).map (·.b)) →
   (∀ w' hp,Good w ((L.hp X [.slice p4 n4 k4,.slice p5 n5 k5,.slice p6 n6 k6] 90).map (·.b)) hp w'→dO w' (.slice p7 n7 k7) (.slice p8 n8 k8) (.slice p9 n9 k9) P2)→(∀ b o n k,Value.slice p8 n8 k8=.slice (some ⟨b,o,none⟩) n k→b∉(L.hp X [.slice p4 n4 k4,.slice p5 n5 k5,.slice p6 n6 k6] 90).map (·.b)) →
   Fn Tryz.prog 35 [.pointer (some ⟨X,0,none⟩),.int .i64 (cpu:Int),uw c,.agg #[.slice p7 n7 k7,.slice p8 n8 k8,.slice p9 n9 k9]].toArray w ((L.hp X [.slice p4 n4 k4,.slice p5 n5 k5,.slice p6 n6 k6] 90).map (·.b)) (HR X [.slice p4 n4 k4,.slice p5 n5 k5,.slice p6 n6 k6] 90 H2)):
  Fn Tryz.prog 16 [.agg #[wv,cv,vv,rv],.int .i64 (cpu:Int),uw c].toArray w [] (HY H2):=by
 have h':=h;have hL:vG H:=jq (by simp only[HyD.ok,bH6] at hok;exact hok.1.1.1);have hlook:H.iq=true:=by simp only[HyD.ok,bH6] at hok;exact hok.1.1.1
 have hmay:H.aG.may=true:=by simp only[HyD.ok,bH6] at hok;exact hok.1.1.2.1.1
 have rY:=bP hL.m;have hc1:=hL.c1;have hc3:=hL.c3;have hv4:=hL.v;obtain⟨cs,vs,e1,e2,_,hH⟩:=h.ex;have hcl:cs.length=H.cs.length:=by rw[←e1,bH7]
 obtain⟨q,cap,rfl,hne,_⟩:=hH.ws.opened;obtain⟨q2,cap2,rfl,hne2,_⟩:=hH.cs.rows.opened;obtain⟨q3,cap3,rfl,jG,_⟩:=hH.vs.rows.opened;obtain⟨q4,cap4,rfl,oV,_⟩:=hH.rs.opened;refine enter Tryz.func16 ?_;refine run ?_;intro Hb Cb Rb;refine run ?_;refine az (fun wc hG=>vJ (h'.good hG)) ?_;rw[hok];refine aP ?_;refine ah _ rfl (fun hc=>absurd hc bB9) (fun hc=>?_);refine aP ?_;refine bH (fun wc hG=>EJ (h'.good hG)) ?_;intro u hn hu;unfold zi at hu;rw[hlook] at hu;obtain⟨p4,p5,p6,k4,k5,k6,n4,n5,n6,rfl,hPw⟩:=hu;refine aP ?_;intro Wb;have hon:H.aG.on.length=H.cs.length:=by unfold HyD.aG;dsimp only;rw[bH7]
 refine bH (fun wc hG=>pk _ _ _ _ _ (hPw wc (fun e he=>hG.here e bC9)) hs cpu bG0 c hw hk) ?_;rw[hmay,cond_true,hd];rintro _ hn2 ⟨Y,rfl,hO,hle⟩;refine aS (⟨Wb,#[.slice p4 n4 k4,.slice p5 n5 k5,.slice p6 n6 k6],48⟩::(Y.in++(hn++[⟨Rb,#[.slice none 0 0,.slice none 0 0,.slice none 0 0,.slice none 0 0],29⟩,⟨Cb,#[.int .i64 c.kind,.int .i64 c.vm,.int .i64 c.frame,.int .i64 c.mid,.int .i64 c.kX,.int .i64 c.mM],37⟩,⟨Hb,#[.slice q H.ws.length cap,.slice q2 cs.length cap2,.slice q3 vs.length cap3,.slice q4 H.rs.length cap4],29⟩]))) (cnt1 hle) ?_;refine aP ?_;intro Vb;refine bH (fun wc hG=>UY (h'.good hG) bB3 bB3 bB3 p4 p5 p6 n4 n5 n6 k4 k5 k6) ?_;rintro _ hn3 ⟨X,L,rfl,hL3,hle3⟩;refine aS (⟨Rb,#[.slice none 0 0,.slice none 0 0,.slice none 0 0,.slice none 0 0],29⟩::⟨Vb,#[Y.pv P2,Y.gv P2,Y.ov P2],48⟩::⟨Cb,#[.int .i64 c.kind,.int .i64 c.vm,.int .i64 c.frame,.int .i64 c.mid,.int .i64 c.kX,.int .i64 c.mM],37⟩::(Y.in++(hn++(L.hp X [.slice p4 n4 k4,.slice p5 n5 k5,.slice p6 n6 k6] 90)))) (cnt1 hle3) ?_;refine aP ?_;have hIs:∀ w',Here Y.in w'→dO w' (Y.pv P2) (Y.gv P2) (Y.ov P2) P2:=fun w' hh=>hO.aq3 hh;have hg4:H.aG.ay.length=4:=by unfold HyD.aG;simp
 have ba2:P2.ay.length=4:=hO.n.g4
 refine iR (L.hp X [.slice p4 n4 k4,.slice p5 n5 k5,.slice p6 n6 k6] 90) (⟨Rb,#[.slice none 0 0,.slice none 0 0,.slice none 0 0,.slice none 0 0],29⟩::⟨Vb,#[Y.pv P2,Y.gv P2,Y.ov P2],48⟩::⟨Cb,#[.int .i64 c.kind,.int .i64 c.vm,.int .i64 c.frame,.int .i64 c.mid,.int .i64 c.kX,.int .i64 c.mM],37⟩::(Y.in++hn)) (fun wc hG=>hdo L X p4 p5 p6 (some ⟨Y.pb,0,none⟩) (some ⟨Y.gb,0,none⟩) (some ⟨Y.ob,0,none⟩) n4 n5 n6 P2.pages.length P2.ay.length P2.on.length k4 k5 k6 Y.zu Y.AX Y.AY wc hL3 hG.iG
  (fun w' hp hg=>hPw w' (fun e he=>(hG.lH hg).here e bC9)) (rW hG (fun e he=>by simp[he]) hPw bB3) (fun w' hp hg=>hIs w' (fun e he=>(hG.lH hg).here e bC8)) (rW hG (fun e he=>by simp only[bK4,bJ3,he,true_or,or_true]) hIs bB3)) (fun v hn4 hR=>?_) aU
 obtain⟨rfl,L2,h2,Ap⟩:=hR;obtain⟨wv2,AL,vv2,rv2,cs2,vs2,hw2,hc2,ht2,hv2,hz2,hr2⟩:=L2;obtain⟨y1,y2,y3⟩:=h2.w.opened;obtain⟨y4,y5,y6⟩:=h2.c.opened;obtain⟨y7,y8,y9⟩:=h2.v.opened;obtain⟨RN,RP,y12⟩:=h2.r.opened;dsimp only at y3 y6 y9 y12;subst y3 y6 y9 y12;simp only[HL.hp,HL.rest] at Ap;refine aS (⟨Rb,#[.slice none 0 0,.slice none 0 0,.slice none 0 0,.slice none 0 0],29⟩::⟨X,#[.slice y1 (List.map uV H2.ws).length y2,.slice y4 (List.map qY cs2).length y5,.slice y7 (List.map mW vs2).length y8,.slice RN (List.map kN H2.rs).length RP,.slice p4 n4 k4,.slice p5 n5 k5,.slice p6 n6 k6],90⟩::(hw2++(hc2++(ht2++(hv2++(hz2++hr2)))))) (cnt1 Ap) ?_;refine aP ?_;refine fZ ?_;exact⟨_,rfl,h2,by simp only[HL.rest];(exact ak)⟩
end
section
attribute [local irreducible] Hy St Ops DH dH
def RK(K:Int):Prop:=∀ (P:PtD) (w:World) (pv gv ov:Value),dO w pv gv ov P→P.Small 1000→P.may=true→∀ cpu:Nat,cpu<P.on.length→∀ c:zx,c.Wf→c.kind=K →
  Fn Tryz.prog 176 [.agg #[pv,gv,ov],.int .i64 (cpu:Int),uw c].toArray w [] (DoR (P.Cj cpu c))
theorem aQ1:RK 9:=by
 intro P w pv gv ov h hs hm cpu hc c hw hk;obtain⟨K,vm,fr,mid,vc,cc⟩:=c;dsimp only at hk;subst hk;refine ai2 h hs hm cpu hc _ _ (PtD.xQ P cpu _) (fun hv Y bx w hO hN=>?_) (fun hv Y bx w hO hN=>?_)
 ·rw[PtD.Cj,show decide ((P.st cpu).vm=0)=true by simp[hv],cond_true,PtD.EW];exact UF hO hN (.inl rfl) vm fr mid vc cc cpu
 ·rw[PtD.Cj,show decide ((P.st cpu).vm=0)=false by simp[hv],cond_false,PtD.Bd];exact UG hO hm hN vm fr mid vc cc cpu hc hv
end
section
attribute [local irreducible] Hy St Ops DH dH jg iP gQ DS gX lJ
theorem ak2(xs:List fF)(v:Value)(h:aA w v 14 (xs.map iy))(hl:xs.length<1000000):Fn Tryz.prog 341 [v].toArray w [] (fun u hp=>Acc 80 14 u hp (xs.map iy)):=by
 obtain⟨q,cap,rfl,hne,hle⟩:=h.opened;refine enter Tryz.func341 ?_;refine run ?_;refine aK (σ:=Nat×Value×Hp) (fun s=>[(3,s.2.1),(4,.int .i64 (s.1:Int))]) (fun s=>s.2.2) (fun s=>s.1≤xs.length∧Acc 80 14 s.2.1 s.2.2 ((xs.take s.1).map iy)) (fun s=>xs.length-s.1) (0,_,[]) ⟨by omega,Acc.nil _ _⟩ ?_;rintro⟨k,v,ha⟩ m hm ⟨hk,hA⟩;dsimp only at hm hk hA ⊢;refine run ?_;refine ah _ rfl (fun hc=>?_) (fun hc=>?_)
 ·have hlt:k<xs.length:=by simp at hc;omega
  obtain⟨b,o,rfl⟩:=hne bB7;have h1:=(h.row hlt)
  refine run ?_;intro T;refine dK (c:=iy (xs.getD k default)) hA (fun v' ha' hA'=>?_) bB9 (aY (m:=14) mh rfl);refine run ?_;refine aF (k+1,v',ha') ⟨hlt,?_⟩;dsimp only;rw[dW hlt,bJ4];exact hA'
 ·have:k=xs.length:=by simp at hc;omega
  subst this;refine run ?_;refine fin1 ?_;simpa using hA
theorem ak3(xs:List jy)(v:Value)(h:aA w v 4 (xs.map lg))(hl:xs.length<1000000):Fn Tryz.prog 342 [v].toArray w [] (fun u hp=>Acc 127 4 u hp (xs.map lg)):=by
 obtain⟨q,cap,rfl,hne,hle⟩:=h.opened;refine enter Tryz.func342 ?_;refine run ?_;refine aK (σ:=Nat×Value×Hp) (fun s=>[(3,s.2.1),(4,.int .i64 (s.1:Int))]) (fun s=>s.2.2) (fun s=>s.1≤xs.length∧Acc 127 4 s.2.1 s.2.2 ((xs.take s.1).map lg)) (fun s=>xs.length-s.1) (0,_,[]) ⟨by omega,Acc.nil _ _⟩ ?_;rintro⟨k,v,ha⟩ m hm ⟨hk,hA⟩;dsimp only at hm hk hA ⊢;refine run ?_;refine ah _ rfl (fun hc=>?_) (fun hc=>?_)
 ·have hlt:k<xs.length:=by simp at hc;omega
  obtain⟨b,o,rfl⟩:=hne bB7;have h1:=(h.row hlt)
  refine run ?_;intro T;refine dK (c:=lg (xs.getD k default)) hA (fun v' ha' hA'=>?_) bB9 (aY (m:=4) mh rfl);refine run ?_;refine aF (k+1,v',ha') ⟨hlt,?_⟩;dsimp only;rw[dW hlt,bJ4];exact hA'
 ·have:k=xs.length:=by simp at hc;omega
  subst this;refine run ?_;refine fin1 ?_;simpa using hA
theorem ak4(es:List fF)(ds:List jy)(v u:Value)(h:aA w v 14 (es.map iy))(hd:aA w u 4 (ds.map lg))(hl:es.length<1000000)(hl2:ds.length<1000000):Fn Tryz.prog 312 [.agg #[v,u]].toArray w [] (fun r hn=>∃ v1 h1 v2 h2,r=.agg #[v1,v2]∧Acc 80 14 v1 h1 (es.map iy)∧Acc 127 4 v2 h2 (ds.map lg)∧aI (h1++h2) hn):=by
 have h':=h;have hd':=hd;obtain⟨q,cap,rfl,_,_⟩:=h.opened;obtain⟨q2,cap2,rfl,_,_⟩:=hd.opened;refine enter Tryz.func312 ?_;refine run ?_;intro B R X;refine run ?_;refine bH (fun wc hG=>ak2 es _ (h'.good hG) hl) (fun v1 h1 hA=>?_);obtain⟨q3,c3,e3⟩:=hA.own.opened;rw[bH7] at e3;subst e3;refine cZ (_++h1) bJ5 ?_;simp only[bI0,bI3];refine run ?_;refine bH (fun wc hG=>ak3 ds _ (hd'.good hG) hl2) (fun v2 h2 hA2=>?_);obtain⟨q4,c4,e4⟩:=hA2.own.opened;rw[bH7] at e4;subst e4;refine cZ (_++h2) bJ5 ?_;simp only[bI0,bI3];refine run ?_;exact dR (cs:=#[.slice q3 es.length c3,.slice q4 ds.length c4]) ⟨_,h1,_,h2,rfl,hA,hA2,by (exact ak)⟩
theorem aD3(xs:List Az)(v:Value)(h:aA w v 16 (xs.map wR))(hl:xs.length<1000000):Fn Tryz.prog 313 [v].toArray w [] (fun u hp=>Acc 102 16 u hp (xs.map wR)):=by
 obtain⟨q,cap,rfl,hne,hle⟩:=h.opened;refine enter Tryz.func313 ?_;refine run ?_;refine aK (σ:=Nat×Value×Hp) (fun s=>[(3,s.2.1),(4,.int .i64 (s.1:Int))]) (fun s=>s.2.2) (fun s=>s.1≤xs.length∧Acc 102 16 s.2.1 s.2.2 ((xs.take s.1).map wR)) (fun s=>xs.length-s.1) (0,_,[]) ⟨by omega,Acc.nil _ _⟩ ?_;rintro⟨k,v,ha⟩ m hm ⟨hk,hA⟩;dsimp only at hm hk hA ⊢;refine run ?_;refine ah _ rfl (fun hc=>?_) (fun hc=>?_)
 ·have hlt:k<xs.length:=by simp at hc;omega
  obtain⟨b,o,rfl⟩:=hne bB7;have h1:=(h.row hlt)
  refine run ?_;intro T;refine dK (c:=wR (xs.getD k default)) hA (fun v' ha' hA'=>?_) bB9 (aY (m:=16) mh rfl);refine run ?_;refine aF (k+1,v',ha') ⟨hlt,?_⟩;dsimp only;rw[dW hlt,bJ4];exact hA'
 ·have:k=xs.length:=by simp at hc;omega
  subst this;refine run ?_;refine fin1 ?_;simpa using hA
theorem aD4(xs:List zL)(v:Value)(h:aA w v 15 (xs.map kN))(hl:xs.length<1000000):Fn Tryz.prog 174 [v].toArray w [] (fun u hp=>Acc 68 15 u hp (xs.map kN)):=by
 obtain⟨q,cap,rfl,hne,hle⟩:=h.opened;refine enter Tryz.func174 ?_;refine run ?_;refine aK (σ:=Nat×Value×Hp) (fun s=>[(3,s.2.1),(4,.int .i64 (s.1:Int))]) (fun s=>s.2.2) (fun s=>s.1≤xs.length∧Acc 68 15 s.2.1 s.2.2 ((xs.take s.1).map kN)) (fun s=>xs.length-s.1) (0,_,[]) ⟨by omega,Acc.nil _ _⟩ ?_;rintro⟨k,v,ha⟩ m hm ⟨hk,hA⟩;dsimp only at hm hk hA ⊢;refine run ?_;refine ah _ rfl (fun hc=>?_) (fun hc=>?_)
 ·have hlt:k<xs.length:=by simp at hc;omega
  obtain⟨b,o,rfl⟩:=hne bB7;have h1:=(h.row hlt)
  refine run ?_;intro T;refine dK (c:=kN (xs.getD k default)) hA (fun v' ha' hA'=>?_) bB9 (aY (m:=15) mh rfl);refine run ?_;refine aF (k+1,v',ha') ⟨hlt,?_⟩;dsimp only;rw[dW hlt,bJ4];exact hA'
 ·have:k=xs.length:=by simp at hc;omega
  subst this;refine run ?_;refine fin1 ?_;simpa using hA
theorem ak5(c:jv)(h1:aA w c.t.ev 14 (c.t.es.map iy))(h2:aA w c.t.dv 4 (c.t.ds.map lg))(l1:c.t.es.length<100000)(l2:c.t.ds.length<100000):Fn Tryz.prog 259 [.agg (qY c).toArray].toArray w [] (fun u hn=>∃ t h,u=.agg (qY { c with t:=t }).toArray∧t.es=c.t.es∧t.ds=c.t.ds∧wS t h∧aI h hn):=by
 obtain⟨⟨x0,x1,x2,x3,x4,x5,x6,x7,x8,x9,x10,x11,x12,x13,x14⟩,vm,vc,⟨es,ds,ep,ec,dp,dc⟩⟩:=c;dsimp only[uo.ev,uo.dv,qY] at *;refine enter Tryz.func259 ?_;refine run ?_;intro B X Y;refine run ?_;refine bH (fun wc hG=>ak4 es ds _ _ (h1.good hG) (h2.good hG) bB3 bB3) ?_;rintro _ hn ⟨v1,g1,v2,g2,rfl,hA1,hA2,hle⟩;obtain⟨q1,c1,e1⟩:=hA1.own.opened;obtain⟨q2,c2,e2⟩:=hA2.own.opened;rw[bH7] at e1 e2;subst e1 e2;refine cZ (_++hn) bJ5 ?_;simp only[bI0,bI3];refine run ?_;refine dR (cs:=(qY ⟨⟨x0,x1,x2,x3,x4,x5,x6,x7,x8,x9,x10,x11,x12,x13,x14⟩,vm,vc,⟨es,ds,q1,c1,q2,c2⟩⟩).toArray) ⟨⟨es,ds,q1,c1,q2,c2⟩,g1++g2,rfl,rfl,rfl,⟨g1,g2,hA1.own,hA2.own,⟨l1,l2⟩,aI.refl _⟩,by (exact cnt1 hle)⟩
theorem aD5(m:eG)(h1:aA w m.fv 1 (m.fs.map bY))(h2:aA w m.rv 1 (m.fr.map bY))(h3:aA w m.vv 16 (m.vs.map wR))(l1:m.fs.length<100000)(l2:m.fr.length<100000)(l3:m.vs.length<100000):Fn Tryz.prog 260 [.agg (mW m).toArray].toArray w [] (fun u hn=>∃ y h,u=.agg (mW y).toArray∧y.u=m.u∧TU y h∧aI h hn):=by
 obtain⟨li,dy,id,fs,fp,fc,fr,rp,rc,vs,vp,vk⟩:=m;dsimp only[eG.fv,eG.rv,eG.vv,mW] at *;refine enter Tryz.func260 ?_;refine run ?_;intro B X Y;refine run ?_;refine bH (fun wc hG=>qR fs _ (h1.good hG) bB3) ?_;intro v1 g1 hA1;obtain⟨q1,c1,e1⟩:=hA1.own.opened;rw[bH7] at e1;subst e1;refine cZ (_++g1) bJ5 ?_;simp only[bI0,bI3];refine run ?_;refine bH (fun wc hG=>qR fr _ (h2.good hG) bB3) ?_;intro v2 g2 hA2;obtain⟨q2,c2,e2⟩:=hA2.own.opened;rw[bH7] at e2;subst e2;refine cZ (_++g2) bJ5 ?_;simp only[bI0,bI3];refine run ?_;refine bH (fun wc hG=>aD3 vs _ (h3.good hG) bB3) ?_;intro v3 g3 hA3;obtain⟨q3,c3,e3⟩:=hA3.own.opened;rw[bH7] at e3;subst e3;refine cZ (_++g3) bJ5 ?_;simp only[bI0,bI3];refine run ?_;refine dR (cs:=(mW ⟨li,dy,id,fs,q1,c1,fr,q2,c2,vs,q3,c3⟩).toArray) ⟨⟨li,dy,id,fs,q1,c1,fr,q2,c2,vs,q3,c3⟩,g1++(g2++g3),rfl,rfl,⟨g1,g2,g3,hA1.own,hA2.own,hA3.own,⟨l1,l2,l3⟩,aI.refl _⟩,by (exact ak)⟩
structure U0 where
 k:Nat
 v:Value
 ys:List jv
 ha:Hp
 ht:Hp
theorem Y4(xs:List jv)(v:Value)(h:AA w v xs)(hl:xs.length<100000)(hb:∀ c∈xs,c.t.es.length<100000∧c.t.ds.length<100000):Fn Tryz.prog 172 [v].toArray w [] (fun u hn=>∃ ys:List jv,∃ ha ht,Own 74 19 u ha (ys.map qY)∧fP wS (ys.map (·.t)) ht∧ys.map jv.u=xs.map jv.u∧aI (ha++ht) hn):=by
 obtain⟨q,cap,rfl,hne,hle⟩:=h.rows.opened;refine enter Tryz.func172 ?_;refine run ?_;refine aK (σ:=U0) (fun s=>[(3,s.v),(4,.int .i64 (s.k:Int))]) (fun s=>s.ha++s.ht) (fun s=>s.k≤xs.length∧Acc 74 19 s.v s.ha (s.ys.map qY)∧fP wS (s.ys.map (·.t)) s.ht∧s.ys.map jv.u=(xs.take s.k).map jv.u) (fun s=>xs.length-s.k) ⟨0,.slice none 0 0,[],[],[]⟩ ⟨bI1 _,Acc.nil _ _,trivial,rfl⟩ ?_;rintro⟨k,v,ys,ha,ht⟩ m hm ⟨hk,hA,hT,hE⟩;dsimp only at hm hk hA hT hE ⊢;refine run ?_;refine ah _ rfl (fun hc=>?_) (fun hc=>?_)
 ·have hlt:k<xs.length:=by simp at hc;omega
  obtain⟨b,o,rfl⟩:=hne bB7;have h1:=(h.rows.row hlt)
  have hlb:=hb _ (getD_mem (l:=xs) hlt);have hen:=h.en _ (getD_mem (l:=xs) hlt);have hiv:=h.iv _ (getD_mem (l:=xs) hlt);have htn:=dW hlt;have hyl:ys.length=k:=by have:=congrArg List.length hE;simp at this;omega
  generalize xs.getD k default=c at *;refine run ?_;refine bH (fun wc hG=>ak5 c (hen.good hG) (hiv.good hG) hlb.1 hlb.2) ?_;rintro _ hn ⟨t,g,rfl,et,ed,hB,hle2⟩;have he:jv.u { c with t:=t }=c.u:=by simp only[jv.u,et,ed]
  refine ig hle2 ?_;refine run ?_;intro T;refine dK (c:=qY { c with t:=t }) hA (fun v' ha' hA'=>?_) bB9 (aY (m:=19) mh rfl) (hp':=⟨T,#[.int .u64 (c.r.x0:Int),.int .u64 (c.r.x1:Int),.int .u64 (c.r.x2:Int),.int .u64 (c.r.x3:Int),.int .u64 (c.r.x4:Int),.int .u64 (c.r.x5:Int),.int .u64 (c.r.x6:Int),.int .u64 (c.r.x7:Int),.int .u64 (c.r.pc:Int),.int .u64 (c.r.Lp:Int),.int .u64 (c.r.BD:Int),.int .u64 (c.r.Lr:Int),.int .u64 (c.r.elr:Int),.int .u64 (c.r.esr:Int),.int .u64 (c.r.far:Int),.int .i64 c.vm,.int .i64 c.vc,t.ev,t.dv],74⟩::(ht++g)) (hperm:=by (exact aU));refine run ?_;refine aF ⟨k+1,v',ys++[{ c with t:=t }],ha',g++ht⟩ ⟨hlt,by dsimp only;rw[bJ4];exact hA',by dsimp only;rw[bJ4];exact hT.snoc hB,?_⟩ (hm:=by dsimp only;omega) (h2:=by (exact ak));dsimp only;rw[htn,bJ4,bJ4,hE,bL9,bO9,bL9,bO9,he]
 ·have:k=xs.length:=by simp at hc;omega
  subst this;refine run ?_;refine fin1 ⟨ys,ha,ht,hA.own,hT,by simpa using hE,aI.refl _⟩
structure Y5 where
 k:Nat
 v:Value
 ys:List eG
 ha:Hp
 ht:Hp
theorem ak6(xs:List eG)(v:Value)(h:yT w v xs)(hl:xs.length<100000)(hb:∀ m∈xs,m.fs.length<100000∧m.fr.length<100000∧m.vs.length<100000):Fn Tryz.prog 173 [v].toArray w [] (fun u hn=>∃ ys:List eG,∃ ha ht,Own 62 6 u ha (ys.map mW)∧fP TU ys ht∧ys.map eG.u=xs.map eG.u∧aI (ha++ht) hn):=by
 obtain⟨q,cap,rfl,hne,hle⟩:=h.rows.opened;refine enter Tryz.func173 ?_;refine run ?_;refine aK (σ:=Y5) (fun s=>[(3,s.v),(4,.int .i64 (s.k:Int))]) (fun s=>s.ha++s.ht) (fun s=>s.k≤xs.length∧Acc 62 6 s.v s.ha (s.ys.map mW)∧fP TU s.ys s.ht∧s.ys.map eG.u=(xs.take s.k).map eG.u) (fun s=>xs.length-s.k) ⟨0,.slice none 0 0,[],[],[]⟩ ⟨bI1 _,Acc.nil _ _,trivial,rfl⟩ ?_;rintro⟨k,v,ys,ha,ht⟩ m hm ⟨hk,hA,hT,hE⟩;dsimp only at hm hk hA hT hE ⊢;refine run ?_;refine ah _ rfl (fun hc=>?_) (fun hc=>?_)
 ·have hlt:k<xs.length:=by simp at hc;omega
  obtain⟨b,o,rfl⟩:=hne bB7;have h1:=(h.rows.row hlt)
  have hlb:=hb _ (getD_mem (l:=xs) hlt);have hf1:=h.fs _ (getD_mem (l:=xs) hlt);have hf2:=h.fr _ (getD_mem (l:=xs) hlt);have hf3:=h.vs _ (getD_mem (l:=xs) hlt);have htn:=dW hlt;have hyl:ys.length=k:=by have:=congrArg List.length hE;simp at this;omega
  generalize xs.getD k default=c at *;refine run ?_;refine bH (fun wc hG=>aD5 c (hf1.good hG) (hf2.good hG) (hf3.good hG) hlb.1 hlb.2.1 hlb.2.2) ?_;rintro _ hn ⟨y,g,rfl,he,hB,hle2⟩;refine ig hle2 ?_;refine run ?_;intro T;refine dK (c:=mW y) hA (fun v' ha' hA'=>?_) bB9 (aY (m:=6) mh rfl) (hp':=⟨T,#[.bool y.live,.bool y.dying,.int .i64 y.aN,y.fv,y.rv,y.vv],62⟩::(ht++g)) (hperm:=by (exact aU));refine run ?_;refine aF ⟨k+1,v',ys++[y],ha',g++ht⟩ ⟨hlt,by dsimp only;rw[bJ4];exact hA',hT.snoc hB,?_⟩ (hm:=by dsimp only;omega) (h2:=by (exact ak));dsimp only;rw[htn,bJ4,bJ4,hE,bL9,bO9,bL9,bO9,he]
 ·have:k=xs.length:=by simp at hc;omega
  subst this;refine run ?_;refine fin1 ⟨ys,ha,ht,hA.own,hT,by simpa using hE,aI.refl _⟩
theorem ak7{vv rv:Value}{ws:List Nat}{cs:List jv}{vs:List eG}{rs:List zL}(h:Et w wv cv vv rv ws cs vs rs)(hf:HyD.Fit ⟨ws,cs.map jv.u,vs.map eG.u,rs⟩):Fn Tryz.prog 95 [.agg #[wv,cv,vv,rv]].toArray w [] (fun u hn=>∃ L:HL,u=.agg #[L.wv,L.cv,L.vv,L.rv]∧zM L ⟨ws,cs.map jv.u,vs.map eG.u,rs⟩∧aI L.rest hn):=by
 have l1:=hf.l;simp only[bH7] at l1;have l2:∀ c∈cs,c.t.es.length<100000∧c.t.ds.length<100000:=fun c hc=>⟨(hf.c _ (bI7.2 ⟨c,hc,rfl⟩)).1,(hf.c _ (bI7.2 ⟨c,hc,rfl⟩)).2.1⟩
 have l3:∀ m∈vs,m.fs.length<100000∧m.fr.length<100000∧m.vs.length<100000:=fun m hm=>⟨(hf.v _ (bI7.2 ⟨m,hm,rfl⟩)).1,(hf.v _ (bI7.2 ⟨m,hm,rfl⟩)).2.1,(hf.v _ (bI7.2 ⟨m,hm,rfl⟩)).2.2.1⟩
 obtain⟨q,cap,rfl,hne,_⟩:=h.ws.opened;obtain⟨q2,cap2,rfl,hne2,_⟩:=h.cs.rows.opened;obtain⟨q3,cap3,rfl,jG,_⟩:=h.vs.rows.opened;obtain⟨q4,cap4,rfl,oV,_⟩:=h.rs.opened;refine enter Tryz.func95 ?_;refine run ?_;intro H R Y;refine run ?_;refine bH (fun wc hG=>Ak ws _ (h.ws.good hG) bB3) ?_;rintro _ hn1 ⟨v1,h1,rfl,Dh,hle1⟩;obtain⟨q9,k1,e1⟩:=Dh.opened;rw[bH7] at e1;subst e1;refine aS (⟨Y,#[.slice q ws.length cap,.slice q2 cs.length cap2,.slice q3 vs.length cap3,.slice q4 rs.length cap4],29⟩::⟨H,#[.slice q ws.length cap,.slice q2 cs.length cap2,.slice q3 vs.length cap3,.slice q4 rs.length cap4],29⟩::⟨R,#[.slice none 0 0,.slice none 0 0,.slice none 0 0,.slice none 0 0],29⟩::h1) (cnt1 hle1) ?_;refine run ?_;refine bH (fun wc hG=>Y4 cs _ (h.cs.good hG) bB3 l2) ?_;rintro v2 hn2 ⟨ys,h2,t2,hO2,hT2,hE2,hle2⟩;obtain⟨q8,k2,e2⟩:=hO2.opened;rw[bH7] at e2;have ly:=congrArg List.length hE2;rw[bH7,bH7] at ly;rw[ly] at e2;subst e2;refine aS (⟨Y,#[.slice q9 ws.length k1,.slice q2 cs.length cap2,.slice q3 vs.length cap3,.slice q4 rs.length cap4],29⟩::⟨H,#[.slice q ws.length cap,.slice q2 cs.length cap2,.slice q3 vs.length cap3,.slice q4 rs.length cap4],29⟩::⟨R,#[.slice none 0 0,.slice none 0 0,.slice none 0 0,.slice none 0 0],29⟩::(h1++(h2++t2))) (cnt1 hle2) ?_;refine run ?_;refine bH (fun wc hG=>ak6 vs _ (h.vs.good hG) bB3 l3) ?_;rintro v3 hn3 ⟨zs,h3,t3,hO3,hT3,hE3,hle3⟩;obtain⟨q7,k3,e3⟩:=hO3.opened;rw[bH7] at e3;have lz:=congrArg List.length hE3;rw[bH7,bH7] at lz;rw[lz] at e3;subst e3;refine aS (⟨Y,#[.slice q9 ws.length k1,.slice q8 cs.length k2,.slice q3 vs.length cap3,.slice q4 rs.length cap4],29⟩::⟨H,#[.slice q ws.length cap,.slice q2 cs.length cap2,.slice q3 vs.length cap3,.slice q4 rs.length cap4],29⟩::⟨R,#[.slice none 0 0,.slice none 0 0,.slice none 0 0,.slice none 0 0],29⟩::(h1++(h2++(t2++(h3++t3))))) (cnt1 hle3) ?_;refine run ?_;refine bH (fun wc hG=>aD4 rs _ (h.rs.good hG) bB3) ?_;rintro v4 h4 hA4;obtain⟨q6,k4,e4⟩:=hA4.own.opened;rw[bH7] at e4;subst e4;refine aS (⟨Y,#[.slice q9 ws.length k1,.slice q8 cs.length k2,.slice q7 vs.length k3,.slice q4 rs.length cap4],29⟩::⟨H,#[.slice q ws.length cap,.slice q2 cs.length cap2,.slice q3 vs.length cap3,.slice q4 rs.length cap4],29⟩::⟨R,#[.slice none 0 0,.slice none 0 0,.slice none 0 0,.slice none 0 0],29⟩::(h1++(h2++(t2++(h3++(t3++h4)))))) ak ?_;refine run ?_;refine dR (cs:=#[.slice q9 ws.length k1,.slice q8 cs.length k2,.slice q7 vs.length k3,.slice q6 rs.length k4]) ⟨⟨.slice q9 ws.length k1,.slice q8 cs.length k2,.slice q7 vs.length k3,.slice q6 rs.length k4,ys,zs,h1,h2,t2,h3,t3,h4⟩,rfl,⟨h.Df,Dh,hO2,hT2,hO3,hT3,hA4.own,hE2,hE3⟩,by simp only[HL.rest];(exact ak)⟩
def aD6(e:Int)(u:Value):Prop:=u=.tuple #[.agg #[.slice none 0 0,.slice none 0 0,.slice none 0 0,.slice none 0 0],.int .i64 e]
theorem Y6{K:Int}(pk:PK K){vv rv:Value}(h:vw w wv cv vv rv H)(hok:H.ok=true)(cpu:Nat)(mQ:cpu<H.cs.length)(c:zx)(hk:c.kind=K)(hw:c.Wf){e:Int}(hd:H.aG.Cj cpu c=.error e)(hs:H.aG.Small 1000):
  Fn Tryz.prog 16 [.agg #[wv,cv,vv,rv],.int .i64 (cpu:Int),uw c].toArray w [] (fun u _=>aD6 e u):=by
 have hne0:=PtD.xQ _ _ _ _ hd;have h':=h;have hL:vG H:=jq (by simp only[HyD.ok,bH6] at hok;exact hok.1.1.1);have hlook:H.iq=true:=by simp only[HyD.ok,bH6] at hok;exact hok.1.1.1
 have hmay:H.aG.may=true:=by simp only[HyD.ok,bH6] at hok;exact hok.1.1.2.1.1
 have rY:=bP hL.m;have hc1:=hL.c1;have hc3:=hL.c3;have hv4:=hL.v;obtain⟨cs,vs,e1,e2,_,hH⟩:=h.ex;have hcl:cs.length=H.cs.length:=by rw[←e1,bH7]
 obtain⟨q,cap,rfl,hne,_⟩:=hH.ws.opened;obtain⟨q2,cap2,rfl,hne2,_⟩:=hH.cs.rows.opened;obtain⟨q3,cap3,rfl,jG,_⟩:=hH.vs.rows.opened;obtain⟨q4,cap4,rfl,oV,_⟩:=hH.rs.opened;refine enter Tryz.func16 ?_;refine run ?_;intro Hb Cb Rb;refine run ?_;refine az (fun wc hG=>vJ (h'.good hG)) ?_;rw[hok];refine aP ?_;refine ah _ rfl (fun hc=>absurd hc bB9) (fun hc=>?_);refine aP ?_;refine bH (fun wc hG=>EJ (h'.good hG)) ?_;intro u hn hu;unfold zi at hu;rw[hlook] at hu;obtain⟨p4,p5,p6,k4,k5,k6,n4,n5,n6,rfl,hPw⟩:=hu;refine aP ?_;intro Wb;have hon:H.aG.on.length=H.cs.length:=by unfold HyD.aG;dsimp only;rw[bH7]
 refine bH (fun wc hG=>pk _ _ _ _ _ (hPw wc (fun e he=>hG.here e bC9)) hs cpu bG0 c hw hk) ?_;rw[hmay,cond_true,hd];intro u2 hn2 hu2;replace hu2:u2=.tuple #[.agg #[.slice none 0 0,.slice none 0 0,.slice none 0 0],.int .i64 e]:=hu2;subst hu2;refine aS [⟨Rb,#[.slice none 0 0,.slice none 0 0,.slice none 0 0,.slice none 0 0],29⟩] ak ?_;refine aP ?_;intro A;refine ah _ rfl (fun _=>?_) (fun hc5=>absurd hc5 (by simp[hne0]));refine run ?_;exact fZ (cs:=#[.slice none 0 0,.slice none 0 0,.slice none 0 0,.slice none 0 0]) rfl
theorem U1{vv rv:Value}(h:vw w wv cv vv rv H)(hok:H.ok=false)(cpu:Int)(c:zx):
  Fn Tryz.prog 16 [.agg #[wv,cv,vv,rv],.int .i64 cpu,uw c].toArray w [] (fun u _=>aD6 1 u):=by
 have h':=h;obtain⟨cs,vs,e1,e2,_,hH⟩:=h.ex;obtain⟨q,cap,rfl,hne,_⟩:=hH.ws.opened;obtain⟨q2,cap2,rfl,hne2,_⟩:=hH.cs.rows.opened;obtain⟨q3,cap3,rfl,jG,_⟩:=hH.vs.rows.opened;obtain⟨q4,cap4,rfl,oV,_⟩:=hH.rs.opened;refine enter Tryz.func16 ?_;refine run ?_;intro Hb Cb Rb;refine run ?_;refine az (fun wc hG=>vJ (h'.good hG)) ?_;rw[hok];refine aP ?_;exact fZ (cs:=#[.slice none 0 0,.slice none 0 0,.slice none 0 0,.slice none 0 0]) rfl
end
section
attribute [local irreducible] Hy St Ops DH dH jg iP gQ DS gX lJ
attribute [local irreducible] putAt
set_option maxHeartbeats 400000 in
theorem ak8(L:HL)(H:HyD)(h:zM L H)(cpu:Nat)(mQ:cpu<H.cs.length)(hrl:H.rs.length=H.cs.length)(a97:H.cs.length<100000)(hvm:1≤(H.cu cpu).vm∧(H.cu cpu).vm≤(H.vs.length:Int))(a98:H.vs.length<100000)(lC:0≤(H.cu cpu).vc∧(H.cu cpu).vc<((H.vu ((H.cu cpu).vm-1).toNat).vs.length:Int))(hN:dY (L.hp X [] 29) w):
  Fn Tryz.prog 175 [.pointer (some ⟨X,0,none⟩),.int .i64 (cpu:Int)].toArray w ((L.hp X [] 29).map (·.b)) (HR X [] 29 (H.zD cpu)):=by
 obtain⟨wv,cv,vv,rv,cs,vs,hw,hc,ht,hvv,hz,hr⟩:=L;obtain⟨NQ,gw,F7,gt,zN,gz,gr,ec,ev⟩:=h;dsimp only at gw F7 gt zN gz gr ec ev;have ecl:cs.length=H.cs.length:=by rw[←ec,bH7]
 have evl:vs.length=H.vs.length:=by rw[←ev,bH7]
 have huc:=FM ec cpu;rw[show H.cs.getD cpu default=H.cu cpu from rfl] at huc;rw[←huc] at hvm lC;obtain⟨gc,cc,oz,rfl,rfl,csz,qX,Bf⟩:=F7.oq (k:=cpu) bB3;generalize JG:cs.getD cpu default=cp at huc qX Bf hvm lC;obtain⟨jW,n_,cvc,ct⟩:=cp;simp only[jv.u] at hvm lC;obtain⟨k,rfl⟩:∃ k:Nat,cvc=(k:Int):=⟨cvc.toNat,by omega⟩
 obtain⟨i,hi⟩:∃ i,i=(n_-1).toNat:=⟨_,rfl⟩
 have hi4:i<vs.length:=by omega
 have hu:=rM ev i;rw[show H.vs.getD i default=H.vu i from rfl] at hu;rw[←hi,←hu] at lC;obtain⟨NR,cv_,Ns,rfl,rfl,vsz,YX,aC'⟩:=zN.oq hi4;obtain⟨Qb,cr_,Qc,rfl,rfl,rsz,YY,YZ⟩:=gr.oq (k:=cpu) bB3;obtain⟨za,zb,⟨z1,z2,z3,o1,o2,o3,zl,hza⟩,hzz,xk⟩:=gz.out hi4;generalize Y0:vs.getD i default=vm at lC hu YX aC' o1 o2 o3 zl xk;have hkv:k<vm.vs.length:=by have:=lC.2;simp only[eG.u] at this;omega
 obtain⟨gk,ck,JH,ek,rfl,ksz,a99,aD0⟩:=o3.oq hkv;have nv5:=YX 5 _ rfl;rw[ek] at nv5;have Qd:=qX 15 _ rfl;have aD1:=qX 16 _ rfl;have tR:=Du (a:=kN jW) qX rfl;dsimp only at Qd aD1;generalize hrg:H.rs.getD cpu default=rg at YY YZ;have tH:=Du (a:=kN rg) YY (bI' _).symm;have JI:cpu<cs.length:=by omega
 simp only[HL.hp,HL.rest] at hN ⊢;refine dS _ hN Tryz.func175 ?_;refine run ?_;refine oD (⟨X,#[wv,.slice (some ⟨gc,0,none⟩) cs.length cc,.slice (some ⟨NR,0,none⟩) vs.length cv_,.slice (some ⟨Qb,0,none⟩) H.rs.length cr_ ],29⟩::⟨gc,oz,74⟩::⟨NR,Ns,62⟩::⟨Qb,Qc,68⟩::⟨gk,JH,102⟩::(hw++(ht++(z1++(z2++zb))))) bD0 ?_;refine run ?_;refine dA ?_;refine dI ?_;rw[show n_-1=(i:Int) by omega];refine dI ?_;refine run ?_
 have hstop:H.zD cpu=⟨H.ws,H.cs.set cpu ⟨rg,0,0,ct.es,ct.ds⟩,H.vs.set i ⟨vm.live,vm.dying,vm.aN,vm.fs,vm.fr,vm.vs.set k ⟨jW,-1⟩⟩,H.rs.set cpu jA⟩:=by
  unfold HyD.zD;rw[←huc];simp only[jv.u];rw[←hi,←hu,bN1,hrg];rfl
 have hcn:=Bf 0 (kN rg++[.int .i64 0,.int .i64 0]) ⟨rg,0,0,ct⟩ bB5 rfl ⟨rfl,rfl⟩;have hrn:=YZ 0 (kN jA) jA bB5 rfl ⟨rfl,rfl⟩;have hkn:=aD0 0 (kN jW++[.int .i64 (-1)]) ⟨jW,-1⟩ bB5 rfl ⟨rfl,rfl⟩;rw[show putAt JH (k*16+0) (kN jW++[.int .i64 (-1)])=putAt (putAt JH (k*16) (kN jW)) (k*16+15) [.int .i64 (-1)] from pF _ _ _ _] at hkn
 have hc3:putAt oz (cpu*19+0) (kN rg++[.int .i64 0,.int .i64 0])=putAt (putAt (putAt oz (cpu*19) (kN rg)) (cpu*19+15) [.int .i64 0]) (cpu*19+16) [.int .i64 0]:=by
  rw[pF];exact pF [Value.int .i64 0] _ _ _
 rw[hc3] at hcn;rw[bL4] at hrn;rw[show kN jA=[.int .u64 0,.int .u64 0,.int .u64 0,.int .u64 0,.int .u64 0,.int .u64 0,.int .u64 0,.int .u64 0,.int .u64 0,.int .u64 0,.int .u64 0,.int .u64 0,.int .u64 0,.int .u64 0,.int .u64 0] from rfl] at hrn;clear hc3;rw[hstop];simp only[putAt] at hcn hrn hkn;generalize (((((((((((((((((oz.setIfInBounds (cpu*19) (.int .u64 (rg.x0:Int))).setIfInBounds (cpu*19+1) (.int .u64 (rg.x1:Int))).setIfInBounds (cpu*19+1+1) (.int .u64 (rg.x2:Int))).setIfInBounds (cpu*19+1+1+1) (.int .u64 (rg.x3:Int))).setIfInBounds (cpu*19+1+1+1+1) (.int .u64 (rg.x4:Int))).setIfInBounds (cpu*19+1+1+1+1+1) (.int .u64 (rg.x5:Int))).setIfInBounds (cpu*19+1+1+1+1+1+1) (.int .u64 (rg.x6:Int))).setIfInBounds (cpu*19+1+1+1+1+1+1+1) (.int .u64 (rg.x7:Int))).setIfInBounds (cpu*19+1+1+1+1+1+1+1+1) (.int .u64 (rg.pc:Int))).setIfInBounds (cpu*19+1+1+1+1+1+1+1+1+1) (.int .u64 (rg.Lp:Int))).setIfInBounds (cpu*19+1+1+1+1+1+1+1+1+1+1) (.int .u64 (rg.BD:Int))).setIfInBounds (cpu*19+1+1+1+1+1+1+1+1+1+1+1) (.int .u64 (rg.Lr:Int))).setIfInBounds (cpu*19+1+1+1+1+1+1+1+1+1+1+1+1) (.int .u64 (rg.elr:Int))).setIfInBounds (cpu*19+1+1+1+1+1+1+1+1+1+1+1+1+1) (.int .u64 (rg.esr:Int))).setIfInBounds (cpu*19+1+1+1+1+1+1+1+1+1+1+1+1+1+1) (.int .u64 (rg.far:Int))).setIfInBounds (cpu*19+15) (.int .i64 0)).setIfInBounds (cpu*19+16) (.int .i64 0))=c3 at hcn ⊢;generalize (((((((((((((((Qc.setIfInBounds (cpu*15) (.int .u64 0)).setIfInBounds (cpu*15+1) (.int .u64 0)).setIfInBounds (cpu*15+1+1) (.int .u64 0)).setIfInBounds (cpu*15+1+1+1) (.int .u64 0)).setIfInBounds (cpu*15+1+1+1+1) (.int .u64 0)).setIfInBounds (cpu*15+1+1+1+1+1) (.int .u64 0)).setIfInBounds (cpu*15+1+1+1+1+1+1) (.int .u64 0)).setIfInBounds (cpu*15+1+1+1+1+1+1+1) (.int .u64 0)).setIfInBounds (cpu*15+1+1+1+1+1+1+1+1) (.int .u64 0)).setIfInBounds (cpu*15+1+1+1+1+1+1+1+1+1) (.int .u64 0)).setIfInBounds (cpu*15+1+1+1+1+1+1+1+1+1+1) (.int .u64 0)).setIfInBounds (cpu*15+1+1+1+1+1+1+1+1+1+1+1) (.int .u64 0)).setIfInBounds (cpu*15+1+1+1+1+1+1+1+1+1+1+1+1) (.int .u64 0)).setIfInBounds (cpu*15+1+1+1+1+1+1+1+1+1+1+1+1+1) (.int .u64 0)).setIfInBounds (cpu*15+1+1+1+1+1+1+1+1+1+1+1+1+1+1) (.int .u64 0))=r3 at hrn ⊢;generalize ((((((((((((((((JH.setIfInBounds (k*16) (.int .u64 (jW.x0:Int))).setIfInBounds (k*16+1) (.int .u64 (jW.x1:Int))).setIfInBounds (k*16+1+1) (.int .u64 (jW.x2:Int))).setIfInBounds (k*16+1+1+1) (.int .u64 (jW.x3:Int))).setIfInBounds (k*16+1+1+1+1) (.int .u64 (jW.x4:Int))).setIfInBounds (k*16+1+1+1+1+1) (.int .u64 (jW.x5:Int))).setIfInBounds (k*16+1+1+1+1+1+1) (.int .u64 (jW.x6:Int))).setIfInBounds (k*16+1+1+1+1+1+1+1) (.int .u64 (jW.x7:Int))).setIfInBounds (k*16+1+1+1+1+1+1+1+1) (.int .u64 (jW.pc:Int))).setIfInBounds (k*16+1+1+1+1+1+1+1+1+1) (.int .u64 (jW.Lp:Int))).setIfInBounds (k*16+1+1+1+1+1+1+1+1+1+1) (.int .u64 (jW.BD:Int))).setIfInBounds (k*16+1+1+1+1+1+1+1+1+1+1+1) (.int .u64 (jW.Lr:Int))).setIfInBounds (k*16+1+1+1+1+1+1+1+1+1+1+1+1) (.int .u64 (jW.elr:Int))).setIfInBounds (k*16+1+1+1+1+1+1+1+1+1+1+1+1+1) (.int .u64 (jW.esr:Int))).setIfInBounds (k*16+1+1+1+1+1+1+1+1+1+1+1+1+1+1) (.int .u64 (jW.far:Int))).setIfInBounds (k*16+15) (.int .i64 (-1)))=k3 at hkn ⊢;refine fin0 ⟨rfl,⟨wv,.slice (some ⟨gc,0,none⟩) cs.length cc,.slice (some ⟨NR,0,none⟩) vs.length cv_,.slice (some ⟨Qb,0,none⟩) H.rs.length cr_,cs.set cpu ⟨rg,0,0,ct⟩,vs.set i { vm with vs:=vm.vs.set k ⟨jW,-1⟩ },hw,[⟨gc,c3,74⟩],ht,[⟨NR,Ns,62⟩],(z1++(z2++[⟨gk,k3,102⟩]))++zb,[⟨Qb,r3,68⟩]⟩,⟨NQ,gw,hcn,?_,?_,xk _ _ ⟨z1,z2,[⟨gk,k3,102⟩],o1,o2,?_,⟨zl.1,zl.2.1,by rw[bM1];exact zl.2.2⟩,aI.refl _⟩,hrn,?_,?_⟩,?_⟩
 ·dsimp only;rw[bN8,pY]
  ·exact gt
  ·rw[bJ',bH9 JI];rw[bH8,bH9 JI] at JG;rw[show cs[cpu]=_ from JG];rfl
 ·dsimp only;rw[bN8,pY]
  ·exact zN
  ·rw[bJ',bH9 hi4];rw[bH8,bH9 hi4] at Y0;rw[show vs[i]=vm from Y0];simp only[bL5,mW,eG.vv,eG.fv,eG.rv,bM1]
 ·rw[show (eG.vv { vm with vs:=vm.vs.set k ⟨jW,-1⟩ })=vm.vv by simp only[eG.vv,bM1],ek];exact hkn
 ·dsimp only;rw[bN8,ec];rfl
 ·dsimp only;rw[bN8,ev];rfl
 ·simp only[HL.hp,HL.rest]
  (exact ak)
end
section
attribute [local irreducible] Hy St Ops DH dH jg iP gQ DS gX lJ
section
variable {L : HL} {H : HyD} {cpu : Nat} {c : zx} {X : Nat} {w : World} {p4 p5 p6 p7 p8 p9 : Option Addr} {n4 n5 n6 n7 n8 n9 k4 k5 k6 k7 k8 k9 : Nat}
theorem JK(h:zM L H)(hW:H.lM)(mQ:cpu<H.cs.length)(hk:c.kind=9)(hvm:1≤(H.cu cpu).vm∧(H.cu cpu).vm≤4)(lC:0≤(H.cu cpu).vc∧(H.cu cpu).vc<((H.vu ((H.cu cpu).vm-1).toNat).vs.length:Int))(hN:dY (L.hp X [] 29) w):
  Fn Tryz.prog 177 [.pointer (some ⟨X,0,none⟩),.agg #[.slice p4 n4 k4,.slice p5 n5 k5,.slice p6 n6 k6],.agg #[.slice p7 n7 k7,.slice p8 n8 k8,.slice p9 n9 k9],.int .i64 (cpu:Int),uw c].toArray w ((L.hp X [] 29).map (·.b)) (HR X [] 29 (H.zD cpu)):=by
 obtain⟨K_,n_,uA,mV,Bi,vN⟩:=c;dsimp only at hk;subst hk;obtain⟨wv,cv,vv,rv,cs,vs,hw,hc,ht,hvv,hz,hr⟩:=L;have h':=h;obtain⟨NQ,gw,F7,gt,zN,gz,gr,ec,ev⟩:=h;dsimp only at gw F7 gt zN gz gr ec ev;have ecl:cs.length=H.cs.length:=bG6;obtain⟨gc,cc,oz,rfl,rfl,csz,qX,Bf⟩:=F7.oq (k:=cpu) bB3;generalize JG:cs.getD cpu default=cp at qX Bf;have Qd:=qX 15 _ rfl;have JI:cpu<cs.length:=bB3;have hc3:=hW.c3;refine dS _ hN Tryz.func177 ?_;simp only[HL.hp,HL.rest] at hN ⊢;refine oD (⟨X,#[wv,.slice (some ⟨gc,0,none⟩) cs.length cc,vv,rv],29⟩::⟨gc,oz,74⟩::(hw++(ht++(hvv++(hz++hr))))) ak ?_;refine run ?_;intro Fb Ib Cb;refine aP ?_;refine iR ((⟨wv,.slice (some ⟨gc,0,none⟩) cs.length cc,vv,rv,cs,vs,hw,[⟨gc,oz,74⟩],ht,hvv,hz,hr⟩:HL).hp X [] 29) [⟨Fb,#[.slice p4 n4 k4,.slice p5 n5 k5,.slice p6 n6 k6],48⟩,⟨Ib,#[.slice p7 n7 k7,.slice p8 n8 k8,.slice p9 n9 k9],48⟩,⟨Cb,#[.int .i64 9,.int .i64 n_,.int .i64 uA,.int .i64 mV,.int .i64 Bi,.int .i64 vN],37⟩] (fun wc hG=>ak8 _ H h' cpu mQ hW.r bB3 ⟨hvm.1,by rw[hW.v];exact hvm.2⟩ (by rw[hW.v];decide) lC hG.iG) (fun v hn hR=>?_) bE3;obtain⟨rfl,L2,h2,hle⟩:=hR;refine run ?_;exact fin0 ⟨rfl,L2,h2,Di hle ak⟩
end
end
theorem Y7{hn:Hp}{w1:World}(h1:Here hn w1){b o:Nat}{cs:List Value}(hne:cs≠[])(hr:∀ w,Here hn w→w.rangeAt b o cs):∃ e∈hn,e.b=b∧∀ j u,cs[j]?=some u→nth e.cs.toList (o+j)=some u:=by
 by_cases hb:∃ e∈hn,e.b=b
 ·obtain⟨e,he,rfl⟩:=hb;refine⟨e,he,rfl,fun j u hj=>?_⟩;have:=hr w1 h1 j u hj;rw[cell_of_block (h1 e he)] at this;rw[mZ];exact this
 ·exfalso;obtain⟨v,r,rfl⟩:=List.exists_cons_of_ne_nil hne
  have hw:Here hn { w1 with heap:=w1.heap.setIfInBounds b (.cells #[] 0 (0,0)) }:=fun e he=>by
   show (w1.heap.setIfInBounds b _)[e.b]?=_;rw[bQ0 (fun h=>hb ⟨e,he,h.symm⟩)];exact h1 e he
  have hc:=aj (hr _ hw);by_cases hs:b<w1.heap.size
  ·have h2:({ w1 with heap:=w1.heap.setIfInBounds b (.cells #[] 0 (0,0)) }:World).heap[b]?=some (.cells #[] 0 (0,0)):=by
    show (w1.heap.setIfInBounds b _)[b]?=_;simp[hs]
   rw[cell_of_block h2] at hc;simp at hc
  ·simp[World.cell?,hs] at hc
theorem U2{hn:Hp}{w1:World}(h1:Here hn w1){pv gv:Value}{po:Option Addr}{no ko:Nat}(hP:∀ w,Here hn w→dO w pv gv (.slice po no ko) P){c:Nat}(hc:c<P.on.length):∃ b o e A B,po=some ⟨b,o,none⟩∧no=P.on.length∧hn=A++e::B∧e.b=b∧nth e.cs.toList (o+c*2)=some (.int .i64 (P.st c).vm):=by
 obtain⟨p,cap,e1,hne,_⟩:=(hP w1 h1).on.opened;cases e1;obtain⟨b,o,rfl⟩:=hne (by intro e;rw[e] at hc;simp at hc);obtain⟨e,he,rfl,hr⟩:=Y7 h1 (b:=b) (o:=o+c*2) (cs:=yG (P.on.getD c default)) (by simp[yG]) (fun w hw=>(hP w hw).on.row hc);obtain⟨A,B,rfl⟩:=bW8 he;exact⟨e.b,o,e,A,B,rfl,rfl,rfl,rfl,hr 0 _ rfl⟩
theorem JL{vv rv:Value}(h:vw w wv cv vv rv H):Fn Tryz.prog 95 [.agg #[wv,cv,vv,rv]].toArray w [] (fun u hn=>∃ L:HL,u=.agg #[L.wv,L.cv,L.vv,L.rv]∧zM L H∧aI L.rest hn):=by
 obtain⟨cs,vs,e1,e2,_,hH⟩:=h.ex;have hf:=h.fit;obtain⟨ws,cu,vu,rs⟩:=H;dsimp only at e1 e2 hH;subst e1 e2;exact ak7 hH hf
section
attribute [local irreducible] Hy St Ops DH dH jg iP gQ DS gX lJ
theorem Y8{K:Int}(rk:RK K){vv rv:Value}(h:vw w wv cv vv rv H)(hok:H.ok=true)(cpu:Nat)(mQ:cpu<H.cs.length)(c:zx)(hk:c.kind=K)(hw:c.Wf){e:Int}(hd:H.aG.Cj cpu c=.error e)(hs:H.aG.Small 1000):
  Fn Tryz.prog 99 [.agg #[wv,cv,vv,rv],.int .i64 (cpu:Int),uw c].toArray w [] (fun u _=>aD6 e u):=by
 have hne0:=PtD.xQ _ _ _ _ hd;have h':=h;have hlook:H.iq=true:=by simp only[HyD.ok,bH6] at hok;exact hok.1.1.1
 have hmay:H.aG.may=true:=by simp only[HyD.ok,bH6] at hok;exact hok.1.1.2.1.1
 obtain⟨cs,vs,e1,e2,_,hH⟩:=h.ex;obtain⟨q,cap,rfl,hne,_⟩:=hH.ws.opened;obtain⟨q2,cap2,rfl,hne2,_⟩:=hH.cs.rows.opened;obtain⟨q3,cap3,rfl,jG,_⟩:=hH.vs.rows.opened;obtain⟨q4,cap4,rfl,oV,_⟩:=hH.rs.opened;have hon:H.aG.on.length=H.cs.length:=by unfold HyD.aG;dsimp only;rw[bH7]
 refine enter Tryz.func99 ?_;refine run ?_;intro Hb Cb Rb;refine run ?_;refine bH (fun wc hG=>Jr (h'.good hG) hlook) ?_;rintro _ hn ⟨p4,p5,p6,k4,k5,k6,n4,n5,n6,rfl,hPw⟩;refine run ?_;intro Wb;refine run ?_;refine bH (fun wc hG=>rk _ _ _ _ _ (hPw wc (fun e he=>hG.here e bC9)) hs hmay cpu bG0 c hw hk) ?_;rw[hd];intro u2 hn2 hu2;replace hu2:u2=.tuple #[.agg #[.slice none 0 0,.slice none 0 0,.slice none 0 0],.int .i64 e]:=hu2;subst hu2;refine aS [⟨Rb,#[.slice none 0 0,.slice none 0 0,.slice none 0 0,.slice none 0 0],29⟩] ak ?_;refine run ?_;intro Tb;refine aP ?_;refine ah _ rfl (fun _=>?_) (fun hc5=>absurd hc5 (by simp[hne0]));refine run ?_;exact fZ (cs:=#[.slice none 0 0,.slice none 0 0,.slice none 0 0,.slice none 0 0]) rfl
theorem ak9{K:Int}(rk:RK K){w:World}{vv rv:Value}(h:vw w wv cv vv rv H)(hok:H.ok=true)(cpu:Nat)(mQ:cpu<H.cs.length)(c:zx)(hk:c.kind=K)(hw:c.Wf){P2:PtD}(hd:H.aG.Cj cpu c=.ok P2)(hs:H.aG.Small 1000){H2:HyD}
  (hdo:(H.aG.st cpu).vm=0→(∀ (L:HL) (X:Nat) (p4 p5 p6 p7 p8 p9:Option Addr) (n4 n5 n6 n7 n8 n9 k4 k5 k6 k7 k8 k9:Nat) (w:World),zM L H→dY (L.hp X [] 29) w →
   (∀ w' hp,Good w ((L.hp X [] 29).map (·.b)) hp w'→dO w' (.slice p4 n4 k4) (.slice p5 n5 k5) (.slice p6 n6 k6) H.aG)→(∀ b o n k,Value.slice p5 n5 k5=.slice (some ⟨b,o,none⟩) n k→b∉(L.hp X [] 29).map (·.b)) →
   (∀ w' hp,Good w ((L.hp X [] 29).map (·.b)) hp w'→dO w' (.slice p7 n7 k7) (.slice p8 n8 k8) (.slice p9 n9 k9) P2)→(∀ b o n k,Value.slice p8 n8 k8=.slice (some ⟨b,o,none⟩) n k→b∉(L.hp X [] 29).map (·.b)) →
   Fn Tryz.prog 178 [.pointer (some ⟨X,0,none⟩),.agg #[.slice p4 n4 k4,.slice p5 n5 k5,.slice p6 n6 k6],.agg #[.slice p7 n7 k7,.slice p8 n8 k8,.slice p9 n9 k9],.int .i64 (cpu:Int),uw c].toArray w ((L.hp X [] 29).map (·.b)) (HR X [] 29 H2)))
  (hgo:(H.aG.st cpu).vm > 0→(∀ (L:HL) (X:Nat) (p4 p5 p6 p7 p8 p9:Option Addr) (n4 n5 n6 n7 n8 n9 k4 k5 k6 k7 k8 k9:Nat) (w:World),zM L H→dY (L.hp X [] 29) w →
   (∀ w' hp,Good w ((L.hp X [] 29).map (·.b)) hp w'→dO w' (.slice p4 n4 k4) (.slice p5 n5 k5) (.slice p6 n6 k6) H.aG)→(∀ b o n k,Value.slice p5 n5 k5=.slice (some ⟨b,o,none⟩) n k→b∉(L.hp X [] 29).map (·.b)) →
   (∀ w' hp,Good w ((L.hp X [] 29).map (·.b)) hp w'→dO w' (.slice p7 n7 k7) (.slice p8 n8 k8) (.slice p9 n9 k9) P2)→(∀ b o n k,Value.slice p8 n8 k8=.slice (some ⟨b,o,none⟩) n k→b∉(L.hp X [] 29).map (·.b)) →
   Fn Tryz.prog 177 [.pointer (some ⟨X,0,none⟩),.agg #[.slice p4 n4 k4,.slice p5 n5 k5,.slice p6 n6 k6],.agg #[.slice p7 n7 k7,.slice p8 n8 k8,.slice p9 n9 k9],.int .i64 (cpu:Int),uw c].toArray w ((L.hp X [] 29).map (·.b)) (HR X [] 29 H2))):
  Fn Tryz.prog 99 [.agg #[wv,cv,vv,rv],.int .i64 (cpu:Int),uw c].toArray w [] (HY H2):=by
 have h':=h;have hlook:H.iq=true:=by simp only[HyD.ok,bH6] at hok;exact hok.1.1.1
 have hmay:H.aG.may=true:=by simp only[HyD.ok,bH6] at hok;exact hok.1.1.2.1.1
 obtain⟨cs,vs,e1,e2,_,hH⟩:=h.ex;obtain⟨q,cap,rfl,hne,_⟩:=hH.ws.opened;obtain⟨q2,cap2,rfl,hne2,_⟩:=hH.cs.rows.opened;obtain⟨q3,cap3,rfl,jG,_⟩:=hH.vs.rows.opened;obtain⟨q4,cap4,rfl,oV,_⟩:=hH.rs.opened;have hon:H.aG.on.length=H.cs.length:=by unfold HyD.aG;dsimp only;rw[bH7]
 refine enter Tryz.func99 ?_;refine run ?_;intro Hb Cb Rb;refine run ?_;refine bH (fun wc hG=>Jr (h'.good hG) hlook) ?_;rintro _ hn ⟨p4,p5,p6,k4,k5,k6,n4,n5,n6,rfl,hPw⟩;refine run ?_;intro Wb;refine run ?_;refine bH (fun wc hG=>rk _ _ _ _ _ (hPw wc (fun e he=>hG.here e bC9)) hs hmay cpu bG0 c hw hk) ?_;rw[hd];rintro _ hn2 ⟨Y,rfl,hO,hle⟩;refine aS (⟨Wb,#[.slice p4 n4 k4,.slice p5 n5 k5,.slice p6 n6 k6],48⟩::(Y.in++(hn++[⟨Rb,#[.slice none 0 0,.slice none 0 0,.slice none 0 0,.slice none 0 0],29⟩,⟨Cb,#[.int .i64 c.kind,.int .i64 c.vm,.int .i64 c.frame,.int .i64 c.mid,.int .i64 c.kX,.int .i64 c.mM],37⟩,⟨Hb,#[.slice q H.ws.length cap,.slice q2 cs.length cap2,.slice q3 vs.length cap3,.slice q4 H.rs.length cap4],29⟩]))) (cnt1 hle) ?_;refine run ?_;intro Vb;refine aP ?_;refine bH (fun wc hG=>JL (h'.good hG)) ?_;rintro _ hn3 ⟨L,rfl,hL3,hle3⟩;obtain⟨wv0,cv0,vv0,rv0,cs0,JM,hw0,hc0,ht0,hv0,hz0,hr0⟩:=L;obtain⟨y1,y2,y3⟩:=hL3.w.opened;obtain⟨y4,y5,y6⟩:=hL3.c.opened;obtain⟨y7,y8,y9⟩:=hL3.v.opened;obtain⟨RN,RP,y12⟩:=hL3.r.opened;dsimp only at y3 y6 y9 y12;subst y3 y6 y9 y12;simp only[HL.rest] at hle3;refine aS (⟨Wb,#[.slice p4 n4 k4,.slice p5 n5 k5,.slice p6 n6 k6],48⟩::⟨Vb,#[Y.pv P2,Y.gv P2,Y.ov P2],48⟩::((hw0++(hc0++(ht0++(hv0++(hz0++hr0)))))++(Y.in++(hn++[⟨Rb,#[.slice none 0 0,.slice none 0 0,.slice none 0 0,.slice none 0 0],29⟩,⟨Cb,#[.int .i64 c.kind,.int .i64 c.vm,.int .i64 c.frame,.int .i64 c.mid,.int .i64 c.kX,.int .i64 c.mM],37⟩,⟨Hb,#[.slice q H.ws.length cap,.slice q2 cs.length cap2,.slice q3 vs.length cap3,.slice q4 H.rs.length cap4],29⟩])))) (cnt1 hle3) ?_;refine run ?_;intro X;refine KZ fun w1 hG1=>?_;obtain⟨b,o,e,A,B,rfl,rfl,rfl,rfl,bj5⟩:=U2 (c:=cpu) (hG1.lie (fun e he=>by simp only[bK4,bJ3,he,true_or,or_true])) hPw bG0;refine aS (⟨Wb,#[.slice p4 n4 k4,.slice p5 n5 k5,.slice (some ⟨e.b,o,none⟩) H.aG.on.length k6],48⟩::e::⟨Vb,#[Y.pv P2,Y.gv P2,Y.ov P2],48⟩::((⟨.slice y1 (List.map uV H.ws).length y2,.slice y4 (List.map qY cs0).length y5,.slice y7 (List.map mW JM).length y8,.slice RN (List.map kN H.rs).length RP,cs0,JM,hw0,hc0,ht0,hv0,hz0,hr0⟩:HL).hp X [] 29++(Y.in++((A++B)++[⟨Rb,#[.slice none 0 0,.slice none 0 0,.slice none 0 0,.slice none 0 0],29⟩,⟨Cb,#[.int .i64 c.kind,.int .i64 c.vm,.int .i64 c.frame,.int .i64 c.mid,.int .i64 c.kX,.int .i64 c.mM],37⟩,⟨Hb,#[.slice q H.ws.length cap,.slice q2 cs.length cap2,.slice q3 vs.length cap3,.slice q4 H.rs.length cap4],29⟩])))) (by simp only[HL.hp,HL.rest];(exact ak)) ?_;refine aP ?_;have hIs:∀ w',Here Y.in w'→dO w' (Y.pv P2) (Y.gv P2) (Y.ov P2) P2:=fun w' hh=>hO.aq3 hh;have hg4:H.aG.ay.length=4:=by have hL:vG H:=jq hlook;unfold HyD.aG;simp
 have ba2:P2.ay.length=4:=hO.n.g4;refine oD (⟨Wb,#[.slice p4 n4 k4,.slice p5 n5 k5,.slice (some ⟨e.b,o,none⟩) H.aG.on.length k6],48⟩::⟨Vb,#[Y.pv P2,Y.gv P2,Y.ov P2],48⟩::⟨Rb,#[.slice none 0 0,.slice none 0 0,.slice none 0 0,.slice none 0 0],29⟩::⟨Cb,#[.int .i64 c.kind,.int .i64 c.vm,.int .i64 c.frame,.int .i64 c.mid,.int .i64 c.kX,.int .i64 c.mM],37⟩::⟨Hb,#[.slice q H.ws.length cap,.slice q2 cs.length cap2,.slice q3 vs.length cap3,.slice q4 H.rs.length cap4],29⟩::((⟨.slice y1 (List.map uV H.ws).length y2,.slice y4 (List.map qY cs0).length y5,.slice y7 (List.map mW JM).length y8,.slice RN (List.map kN H.rs).length RP,cs0,JM,hw0,hc0,ht0,hv0,hz0,hr0⟩:HL).hp X [] 29++(Y.in++(A++e::B)))) ak ?_;generalize A++e::B=hn at hPw ⊢;refine ah _ rfl (fun hc=>?_) (fun hc=>?_)
 ·refine aP ?_;refine iR ((⟨.slice y1 (List.map uV H.ws).length y2,.slice y4 (List.map qY cs0).length y5,.slice y7 (List.map mW JM).length y8,.slice RN (List.map kN H.rs).length RP,cs0,JM,hw0,hc0,ht0,hv0,hz0,hr0⟩:HL).hp X [] 29) (⟨Wb,#[.slice p4 n4 k4,.slice p5 n5 k5,.slice (some ⟨e.b,o,none⟩) H.aG.on.length k6],48⟩::⟨Vb,#[Y.pv P2,Y.gv P2,Y.ov P2],48⟩::⟨Rb,#[.slice none 0 0,.slice none 0 0,.slice none 0 0,.slice none 0 0],29⟩::⟨Cb,#[.int .i64 c.kind,.int .i64 c.vm,.int .i64 c.frame,.int .i64 c.mid,.int .i64 c.kX,.int .i64 c.mM],37⟩::⟨Hb,#[.slice q H.ws.length cap,.slice q2 cs.length cap2,.slice q3 vs.length cap3,.slice q4 H.rs.length cap4],29⟩::(Y.in++hn)) (fun wc hG=>hgo (by simpa using hc) (⟨.slice y1 (List.map uV H.ws).length y2,.slice y4 (List.map qY cs0).length y5,.slice y7 (List.map mW JM).length y8,.slice RN (List.map kN H.rs).length RP,cs0,JM,hw0,hc0,ht0,hv0,hz0,hr0⟩:HL) X p4 p5 (some ⟨e.b,o,none⟩) (some ⟨Y.pb,0,none⟩) (some ⟨Y.gb,0,none⟩) (some ⟨Y.ob,0,none⟩) n4 n5 H.aG.on.length P2.pages.length P2.ay.length P2.on.length k4 k5 k6 Y.zu Y.AX Y.AY wc hL3 hG.iG (fun w' hp hg=>hPw w' (fun e he=>(hG.lH hg).here e bC8)) (rW hG (fun e he=>by simp only[bK4,bJ3,he,true_or,or_true]) hPw bB3) (fun w' hp hg=>hIs w' (fun e he=>(hG.lH hg).here e bC8)) (rW hG (fun e he=>by simp only[bK4,bJ3,he,true_or,or_true]) hIs bB3)) (fun v hn4 hR=>?_) aU;obtain⟨rfl,L2,h2,Ap⟩:=hR;obtain⟨wv2,AL,vv2,rv2,cs2,vs2,hw2,hc2,ht2,hv2,hz2,hr2⟩:=L2;obtain⟨x1,x2,x3⟩:=h2.w.opened;obtain⟨x4,x5,x6⟩:=h2.c.opened;obtain⟨x7,x8,x9⟩:=h2.v.opened;obtain⟨x10,x11,x12⟩:=h2.r.opened;dsimp only at x3 x6 x9 x12;subst x3 x6 x9 x12;simp only[HL.hp,HL.rest] at Ap;refine aS (⟨Rb,#[.slice none 0 0,.slice none 0 0,.slice none 0 0,.slice none 0 0],29⟩::⟨X,#[.slice x1 (List.map uV H2.ws).length x2,.slice x4 (List.map qY cs2).length x5,.slice x7 (List.map mW vs2).length x8,.slice x10 (List.map kN H2.rs).length x11],29⟩::(hw2++(hc2++(ht2++(hv2++(hz2++hr2)))))) (cnt1 Ap) ?_;refine aP ?_;refine fZ ?_;exact⟨_,rfl,h2,by simp only[HL.rest];(exact ak)⟩
 ·have ba3:(H.aG.st cpu).vm=0:=by
   by_cases hv:(H.aG.st cpu).vm=0
   ·exact hv
   ·have:=zy hmay bG0 hv;simp at hc;omega
  refine aP ?_;refine iR ((⟨.slice y1 (List.map uV H.ws).length y2,.slice y4 (List.map qY cs0).length y5,.slice y7 (List.map mW JM).length y8,.slice RN (List.map kN H.rs).length RP,cs0,JM,hw0,hc0,ht0,hv0,hz0,hr0⟩:HL).hp X [] 29) (⟨Wb,#[.slice p4 n4 k4,.slice p5 n5 k5,.slice (some ⟨e.b,o,none⟩) H.aG.on.length k6],48⟩::⟨Vb,#[Y.pv P2,Y.gv P2,Y.ov P2],48⟩::⟨Rb,#[.slice none 0 0,.slice none 0 0,.slice none 0 0,.slice none 0 0],29⟩::⟨Cb,#[.int .i64 c.kind,.int .i64 c.vm,.int .i64 c.frame,.int .i64 c.mid,.int .i64 c.kX,.int .i64 c.mM],37⟩::⟨Hb,#[.slice q H.ws.length cap,.slice q2 cs.length cap2,.slice q3 vs.length cap3,.slice q4 H.rs.length cap4],29⟩::(Y.in++hn)) (fun wc hG=>hdo ba3 (⟨.slice y1 (List.map uV H.ws).length y2,.slice y4 (List.map qY cs0).length y5,.slice y7 (List.map mW JM).length y8,.slice RN (List.map kN H.rs).length RP,cs0,JM,hw0,hc0,ht0,hv0,hz0,hr0⟩:HL) X p4 p5 (some ⟨e.b,o,none⟩) (some ⟨Y.pb,0,none⟩) (some ⟨Y.gb,0,none⟩) (some ⟨Y.ob,0,none⟩) n4 n5 H.aG.on.length P2.pages.length P2.ay.length P2.on.length k4 k5 k6 Y.zu Y.AX Y.AY wc hL3 hG.iG (fun w' hp hg=>hPw w' (fun e he=>(hG.lH hg).here e bC8)) (rW hG (fun e he=>by simp only[bK4,bJ3,he,true_or,or_true]) hPw bB3) (fun w' hp hg=>hIs w' (fun e he=>(hG.lH hg).here e bC8)) (rW hG (fun e he=>by simp only[bK4,bJ3,he,true_or,or_true]) hIs bB3)) (fun v hn4 hR=>?_) aU;obtain⟨rfl,L2,h2,Ap⟩:=hR;obtain⟨wv2,AL,vv2,rv2,cs2,vs2,hw2,hc2,ht2,hv2,hz2,hr2⟩:=L2;obtain⟨x1,x2,x3⟩:=h2.w.opened;obtain⟨x4,x5,x6⟩:=h2.c.opened;obtain⟨x7,x8,x9⟩:=h2.v.opened;obtain⟨x10,x11,x12⟩:=h2.r.opened;dsimp only at x3 x6 x9 x12;subst x3 x6 x9 x12;simp only[HL.hp,HL.rest] at Ap;refine aS (⟨Rb,#[.slice none 0 0,.slice none 0 0,.slice none 0 0,.slice none 0 0],29⟩::⟨X,#[.slice x1 (List.map uV H2.ws).length x2,.slice x4 (List.map qY cs2).length x5,.slice x7 (List.map mW vs2).length x8,.slice x10 (List.map kN H2.rs).length x11],29⟩::(hw2++(hc2++(ht2++(hv2++(hz2++hr2)))))) (cnt1 Ap) ?_;refine aP ?_;refine fZ ?_;exact⟨_,rfl,h2,by simp only[HL.rest];(exact ak)⟩
theorem aD7(e:fF):(iy e).length=14∧(iy e).all (·.oneCell')=true:=⟨rfl,rfl⟩
theorem aD8(e:jy):(lg e).length=4∧(lg e).all (·.oneCell')=true:=⟨rfl,rfl⟩
theorem Own.aq9{α:Type}{f:α→List Value}{sz:Nat}(hf:∀ a,(f a).length=sz∧(f a).all (·.oneCell')=true)(h0:0<sz){e:Nat}{h:Hp}{xs:List α}(hA:Own e sz v h (xs.map f))(hk:k<xs.length):∃ g cap cur,v=.slice (some ⟨g,0,none⟩) xs.length cap∧h=[⟨g,cur,e⟩]∧k*sz+sz≤cur.size ∧
  ∀ z:α,Own e sz v [⟨g,putAt cur (k*sz) (f z),e⟩] ((xs.set k z).map f):=by
 obtain⟨g,cap,cur,rfl,rfl,hr⟩:=hA.row (n:=xs.length) bB5 bB3
 have hall:∀ c∈xs.map f,c.length=sz:=fun c hc=>by
  obtain⟨a,_,rfl⟩:=bI7.1 hc;exact (hf a).1
 have hi:(xs.map f)[k]?=some (f xs[k]):=by
  rw[bJ',bH9 hk];rfl
 have hsz:=hr.size;have hle:=hr.le
 have hks:k*sz+sz≤cur.size:=by
  have:(k+1)*sz≤cap*sz:=bK8 _ bB3;rw[bR0,Nat.one_mul] at this;omega
 refine⟨g,cap,cur,rfl,rfl,hks,fun z=>⟨fun c hc=>?_,.inr ⟨g,cap,_,by simp,rfl,?_⟩⟩⟩
 ·obtain⟨a,_,rfl⟩:=bI7.1 hc;exact hf a
 ·have h2:=hr.put hall hi (k:=0) (vs:=f z) (by simp[(hf z).1]);have e2:((xs.set k z).map f).length=xs.length:=by simp
  rw[e2,bN8]
  have e3:List.take 0 (f xs[k])++f z++List.drop (0+(f z).length) (f xs[k])=f z:=by
   rw[bN0,bI3,List.drop_of_length_le (by rw[(hf z).1,(hf _).1];omega),bI']
  rw[e3] at h2;exact h2
theorem U3{u:Value}{he hd:Hp}(es:List fF)(ds:List jy)(h1:Own 80 14 v he (es.map iy))(h2:Own 127 4 u hd (ds.map lg))(hN:dY (he++hd) w)(hl:es.length<100000)(hl2:ds.length<100000):Fn Tryz.prog 184 [.agg #[v,u]].toArray w ((he++hd).map (·.b)) (fun r hn=>r=.tuple #[]):=by
 obtain⟨q,cap,ev⟩:=h1.opened;rw[bH7] at ev;subst ev;obtain⟨q2,cap2,ev2⟩:=h2.opened;rw[bH7] at ev2;subst ev2;refine dS _ hN Tryz.func184 ?_;refine run ?_;intro B;refine run ?_;refine aK (σ:=Nat×Hp×List fF) (fun s=>[(2,.int .i64 (s.1:Int))]) (fun s=>⟨B,#[.slice q es.length cap,.slice q2 ds.length cap2],72⟩::(s.2.1++hd)) (fun s=>s.1≤es.length∧s.2.2.length=es.length∧Own 80 14 (.slice q es.length cap) s.2.1 (s.2.2.map iy)) (fun s=>es.length-s.1) (0,he,es) ⟨bI1 _,rfl,h1⟩ ?_;rintro⟨k,h,ys⟩ m hm ⟨hk,hyl,hO⟩;dsimp only at hm hk hyl hO ⊢;refine run ?_;refine ah _ rfl (fun hc=>?_) (fun hc=>?_)
 ·have hlt:k<es.length:=by simp at hc;omega
  obtain⟨g,cap',cur,eg,rfl,hsz,hset⟩:=hO.aq9 aD7 bB4 (k:=k) bB3;rw[hyl] at eg;cases eg;simp only[bI0,bI3];refine run ?_;exact aF (k+1,[⟨g,putAt cur (k*14) (iy ⟨-9,0,0,false,0,0,0,0,false,false,false,false,false,0⟩),80⟩],ys.set k ⟨-9,0,0,false,0,0,0,0,false,false,false,false,false,0⟩) (hm:=by dsimp only;omega) ⟨hlt,by rw[bM1];exact hyl,hset _⟩ (h2:=by simp only[putAt,iy];(exact ak))
 refine run ?_;refine aK (σ:=Nat×Hp×List jy) (fun s=>[(3,.int .i64 (s.1:Int))]) (fun s=>⟨B,#[.slice q es.length cap,.slice q2 ds.length cap2],72⟩::s.2.1) (fun s=>s.1≤ds.length∧s.2.2.length=ds.length∧Own 127 4 (.slice q2 ds.length cap2) s.2.1 (s.2.2.map lg)) (fun s=>ds.length-s.1) (0,hd,ds) ⟨bI1 _,rfl,h2⟩ (hh:=by (exact ak)) ?_;rintro⟨k2,h2',ys2⟩ m2 hm2 ⟨hk2,UZ,hO2⟩;dsimp only at hm2 hk2 UZ hO2 ⊢;refine run ?_;refine ah _ rfl (fun hc=>?_) (fun hc=>?_)
 ·have hlt:k2<ds.length:=by simp at hc;omega
  obtain⟨g,cap',cur,eg,rfl,hsz,hset⟩:=hO2.aq9 aD8 bB4 (k:=k2) bB3;rw[UZ] at eg;cases eg;refine run ?_;exact aF (k2+1,[⟨g,putAt cur (k2*4) (lg ⟨-9,0,0,0⟩),127⟩],ys2.set k2 ⟨-9,0,0,0⟩) (hm:=by dsimp only;omega) ⟨hlt,by rw[bM1];exact UZ,hset _⟩ (h2:=by simp only[putAt,lg];(exact ak))
 refine run ?_;exact fin0 rfl
theorem fP.get{α:Type}[Inhabited α]{O:α→Hp→Prop}:∀ {ts:List α} {h:Hp} {k:Nat},fP O (ts.drop k) h→k<ts.length→∃ a b,O (ts.getD k default) a∧fP O (ts.drop (k+1)) b∧aI (a++b) h
 | [],_,_,_,hk=>absurd hk bB5
 | t::ts,h,0,hw,_=>hw
 | t::ts,h,k+1,hw,hk=>fP.get (ts:=ts) (k:=k) hw (by simpa using hk)
def cpS:jv:=⟨jA,-9,0,⟨[],[],none,0,none,0⟩⟩
def rgS:zL:={ jA with pc:=9 }
structure SpC where
 k:Nat
 xs:List jv
 h:Hp
 g:Hp
structure SpV where
 k:Nat
 xs:List eG
 h:Hp
 g:Hp
structure SpK where
 k:Nat
 xs:List Az
 h:Hp
structure SpR where
 k:Nat
 xs:List zL
 h:Hp
theorem Fe{L:HL}(h:zM L H)(hf:H.Fit)(hN:dY L.rest w):Fn Tryz.prog 101 [.agg #[L.wv,L.cv,L.vv,L.rv]].toArray w (L.rest.map (·.b)) (fun u hn=>u=.tuple #[]):=by
 have ecl:L.cs.length=H.cs.length:=by rw[←h.ec,bH7]
 have evl:L.vs.length=H.vs.length:=by rw[←h.ev,bH7]
 have hl:=hf.l;obtain⟨wv,cv,vv,rv,cs,vs,hw,hc,ht,hv,hz,hr⟩:=L;obtain⟨ws,cu,vu,rs⟩:=H;obtain⟨NQ,gw,F7,gt,zN,gz,gr,ec,ev⟩:=h;dsimp only at gw F7 gt zN gz gr ec ev ecl evl hl NQ;have gw':=gw;obtain⟨q1,c1,e1⟩:=gw.opened;obtain⟨q2,c2,e2⟩:=F7.opened;obtain⟨q3,c3,e3⟩:=zN.opened;obtain⟨q4,c4,e4⟩:=gr.opened;rw[bH7] at e1 e2 e3 e4;subst e1 e2 e3 e4;simp only[HL.rest] at hN ⊢;refine dS _ hN Tryz.func101 ?_;refine run ?_;intro Hb;refine run ?_;refine iR hw (⟨Hb,#[.slice q1 ws.length c1,.slice q2 cs.length c2,.slice q3 vs.length c3,.slice q4 rs.length c4],29⟩::(hc++(ht++(hv++(hz++hr))))) (fun wc hG=>Jc ws NQ gw' hG.iG bB3) (fun v hn hv_=>?_) aU;subst hv_;refine aS (⟨Hb,#[.slice q1 ws.length c1,.slice q2 cs.length c2,.slice q3 vs.length c3,.slice q4 rs.length c4],29⟩::(hc++(ht++(hv++(hz++hr))))) ak ?_;refine run ?_;refine aK (σ:=SpC) (fun s=>[(2,.int .i64 (s.k:Int))]) (fun s=>⟨Hb,#[.slice q1 ws.length c1,.slice q2 cs.length c2,.slice q3 vs.length c3,.slice q4 rs.length c4],29⟩::(s.h++(s.g++(hv++(hz++hr))))) (fun s=>s.k≤cs.length∧s.xs.length=cs.length∧Own 74 19 (.slice q2 cs.length c2) s.h (s.xs.map qY)∧fP wS ((s.xs.map (·.t)).drop s.k) s.g) (fun s=>cs.length-s.k) ⟨0,cs,hc,ht⟩ ⟨bI1 _,rfl,F7,gt⟩ (hh:=by (exact ak)) ?_;rintro⟨k,xs,h,g⟩ m hm ⟨hk,hxl,hB,hW⟩;dsimp only at hm hk hxl hB hW ⊢;refine run ?_;refine ah _ rfl (fun hc5=>?_) (fun hc5=>?_)
 ·have hlt:k<cs.length:=by simp at hc5;omega
  obtain⟨b,cap',cur,eg,rfl,hsz,qh,hput⟩:=hB.oq (k:=k) bB3;rw[hxl] at eg;cases eg;obtain⟨a,r,⟨o1,o2,Dh,hO2,hb,hle1⟩,hW2,hle⟩:=fP.get hW bB6
  have hcp:(xs.map (·.t)).getD k default=(xs.getD k default).t:=by
   rw[bH8,bH8,bJ',bH9 (show k<xs.length by omega)];rfl
  rw[hcp] at Dh hO2 hb;have hS:=hput 0 [.int .u64 0,.int .u64 0,.int .u64 0,.int .u64 0,.int .u64 0,.int .u64 0,.int .u64 0,.int .u64 0,.int .u64 0,.int .u64 0,.int .u64 0,.int .u64 0,.int .u64 0,.int .u64 0,.int .u64 0,.int .i64 (-9),.int .i64 0,.slice none 0 0,.slice none 0 0] cpS bB5 rfl ⟨rfl,rfl⟩;have h17:=qh 17 _ rfl;have h18:=qh 18 _ rfl;have hld:=Dj h17 h18;generalize xs.getD k default=c at hld Dh hO2 hb;refine oD (mO.mk b cur 74::⟨Hb,#[.slice q1 ws.length c1,.slice (some ⟨b,0,none⟩) cs.length c2,.slice q3 vs.length c3,.slice q4 rs.length c4],29⟩::((o1++o2)++(r++(hv++(hz++hr))))) bD7 ?_;refine run ?_;refine iR (o1++o2) (mO.mk b cur 74::⟨Hb,#[.slice q1 ws.length c1,.slice (some ⟨b,0,none⟩) cs.length c2,.slice q3 vs.length c3,.slice q4 rs.length c4],29⟩::(r++(hv++(hz++hr)))) (fun wc hG=>U3 c.t.es c.t.ds Dh hO2 hG.iG hb.1 hb.2) (fun v hn hv_=>?_) aU;subst hv_;refine aS (mO.mk b cur 74::⟨Hb,#[.slice q1 ws.length c1,.slice (some ⟨b,0,none⟩) cs.length c2,.slice q3 vs.length c3,.slice q4 rs.length c4],29⟩::(r++(hv++(hz++hr)))) ak ?_;refine run ?_
  have hdr:((xs.set k cpS).map (·.t)).drop (k+1)=(xs.map (·.t)).drop (k+1):=by
   rw[bN8,List.drop_set_of_lt (bY8 k)]
  refine aF ⟨k+1,xs.set k cpS,[⟨b,putAt cur (k*19) [.int .u64 0,.int .u64 0,.int .u64 0,.int .u64 0,.int .u64 0,.int .u64 0,.int .u64 0,.int .u64 0,.int .u64 0,.int .u64 0,.int .u64 0,.int .u64 0,.int .u64 0,.int .u64 0,.int .u64 0,.int .i64 (-9),.int .i64 0,.slice none 0 0,.slice none 0 0],74⟩],r⟩ ⟨hlt,by dsimp only;rw[bM1];exact hxl,by dsimp only;rw[←hxl];exact hS,by dsimp only;rw[hdr];exact hW2⟩ (hm:=by dsimp only;omega) (h2:=by simp only[putAt];(exact ak))
 refine run ?_;refine aK (σ:=SpV) (fun s=>[(3,.int .i64 (s.k:Int))]) (fun s=>⟨Hb,#[.slice q1 ws.length c1,.slice q2 cs.length c2,.slice q3 vs.length c3,.slice q4 rs.length c4],29⟩::(s.h++(s.g++hr))) (fun s=>s.k≤vs.length∧s.xs.length=vs.length∧Own 62 6 (.slice q3 vs.length c3) s.h (s.xs.map mW)∧fP TU (s.xs.drop s.k) s.g) (fun s=>vs.length-s.k) ⟨0,vs,hv,hz⟩ ⟨bI1 _,rfl,zN,gz⟩ (hh:=by (exact ak)) ?_;rintro⟨k2,ys,h2,g2⟩ m2 hm2 ⟨hk2,hyl,hB2,hW2⟩;dsimp only at hm2 hk2 hyl hB2 hW2 ⊢;refine run ?_;refine ah _ rfl (fun hc6=>?_) (fun hc6=>?_)
 ·have hlt:k2<vs.length:=by simp at hc6;omega
  obtain⟨b,cap',cur,eg,rfl,hsz,qh,hput⟩:=hB2.oq (k:=k2) bB3;rw[hyl] at eg;cases eg;obtain⟨a,r,⟨o1,o2,o3,Dh,hO2,hO3,hb,hle1⟩,hW3,hle⟩:=fP.get hW2 bB3;have hS:=hput 0 [.bool false,.bool false,.int .i64 0,.slice none 0 0,.slice none 0 0,.slice none 0 0] vm0 bB5 rfl ⟨rfl,rfl⟩;have n3:=qh 3 _ rfl;have n4:=qh 4 _ rfl;have n5:=qh 5 _ rfl;generalize ys.getD k2 default=vm at n3 n4 n5 Dh hO2 hO3 hb;refine oD (mO.mk b cur 62::⟨Hb,#[.slice q1 ws.length c1,.slice q2 cs.length c2,.slice (some ⟨b,0,none⟩) vs.length c3,.slice q4 rs.length c4],29⟩::(o1++(o2++(o3++(r++hr))))) bD7 ?_;refine run ?_;refine iR o1 (mO.mk b cur 62::⟨Hb,#[.slice q1 ws.length c1,.slice q2 cs.length c2,.slice (some ⟨b,0,none⟩) vs.length c3,.slice q4 rs.length c4],29⟩::(o2++(o3++(r++hr)))) (fun wc hG=>BP vm.fs Dh hG.iG hb.1) (fun v hn hv_=>?_) aU;subst hv_;refine aS (mO.mk b cur 62::⟨Hb,#[.slice q1 ws.length c1,.slice q2 cs.length c2,.slice (some ⟨b,0,none⟩) vs.length c3,.slice q4 rs.length c4],29⟩::(o2++(o3++(r++hr)))) ak ?_;refine run ?_;refine iR o2 (mO.mk b cur 62::⟨Hb,#[.slice q1 ws.length c1,.slice q2 cs.length c2,.slice (some ⟨b,0,none⟩) vs.length c3,.slice q4 rs.length c4],29⟩::(o3++(r++hr))) (fun wc hG=>BP vm.fr hO2 hG.iG hb.2.1) (fun v hn hv_=>?_) aU;subst hv_;refine aS (mO.mk b cur 62::⟨Hb,#[.slice q1 ws.length c1,.slice q2 cs.length c2,.slice (some ⟨b,0,none⟩) vs.length c3,.slice q4 rs.length c4],29⟩::(o3++(r++hr))) ak ?_;refine run ?_;obtain⟨q5,c5,e5⟩:=hO3.opened;rw[bH7] at e5;rw[e5] at n5;rw[e5] at hO3;refine aK (σ:=SpK) (fun s=>[(4,.int .i64 (s.k:Int))]) (fun s=>mO.mk b cur 62::⟨Hb,#[.slice q1 ws.length c1,.slice q2 cs.length c2,.slice (some ⟨b,0,none⟩) vs.length c3,.slice q4 rs.length c4],29⟩::(s.h++(r++hr))) (fun s=>s.k≤vm.vs.length∧s.xs.length=vm.vs.length∧Own 102 16 (.slice q5 vm.vs.length c5) s.h (s.xs.map wR)) (fun s=>vm.vs.length-s.k) ⟨0,vm.vs,o3⟩ ⟨bI1 _,rfl,hO3⟩ (hh:=by (exact ak)) ?_;rintro⟨k3,zs,h3⟩ m3 Q3 ⟨hk3,hzl,hB3⟩;dsimp only at Q3 hk3 hzl hB3 ⊢;refine run ?_;refine ah _ rfl (fun hc7=>?_) (fun hc7=>?_)
  ·have hlt3:k3<vm.vs.length:=by simp at hc7;omega
   obtain⟨b3,cap3,uY,eg,rfl,hsz3,bj7,aQ2⟩:=hB3.oq (k:=k3) bB3;rw[hzl] at eg;cases eg;have hS3:=aQ2 0 [.int .u64 0,.int .u64 0,.int .u64 0,.int .u64 0,.int .u64 0,.int .u64 0,.int .u64 0,.int .u64 0,.int .u64 0,.int .u64 0,.int .u64 0,.int .u64 0,.int .u64 0,.int .u64 0,.int .u64 0,.int .i64 (-9)] ⟨jA,-9⟩ bB5 rfl ⟨rfl,rfl⟩;refine oD (mO.mk b3 uY 102::mO.mk b cur 62::⟨Hb,#[.slice q1 ws.length c1,.slice q2 cs.length c2,.slice (some ⟨b,0,none⟩) vs.length c3,.slice q4 rs.length c4],29⟩::(r++hr)) ak ?_;refine run ?_;refine aF ⟨k3+1,zs.set k3 ⟨jA,-9⟩,[⟨b3,putAt uY (k3*16) [.int .u64 0,.int .u64 0,.int .u64 0,.int .u64 0,.int .u64 0,.int .u64 0,.int .u64 0,.int .u64 0,.int .u64 0,.int .u64 0,.int .u64 0,.int .u64 0,.int .u64 0,.int .u64 0,.int .u64 0,.int .i64 (-9)],102⟩]⟩ ⟨hlt3,by dsimp only;rw[bM1];exact hzl,by dsimp only;rw[←hzl];exact hS3⟩ (hm:=by dsimp only;omega) (h2:=by simp only[putAt];(exact ak))
  refine oD (mO.mk b cur 62::⟨Hb,#[.slice q1 ws.length c1,.slice q2 cs.length c2,.slice (some ⟨b,0,none⟩) vs.length c3,.slice q4 rs.length c4],29⟩::(r++hr)) ak ?_;refine run ?_;refine aF ⟨k2+1,ys.set k2 vm0,[⟨b,putAt cur (k2*6) [.bool false,.bool false,.int .i64 0,.slice none 0 0,.slice none 0 0,.slice none 0 0],62⟩],r⟩ ⟨hlt,by dsimp only;rw[bM1];exact hyl,by dsimp only;rw[←hyl];exact hS,by dsimp only;rw[List.drop_set_of_lt (bY8 k2)];exact hW3⟩ (hm:=by dsimp only;omega) (h2:=by simp only[putAt];(exact ak))
 refine run ?_;refine aK (σ:=SpR) (fun s=>[(5,.int .i64 (s.k:Int))]) (fun s=>⟨Hb,#[.slice q1 ws.length c1,.slice q2 cs.length c2,.slice q3 vs.length c3,.slice q4 rs.length c4],29⟩::s.h) (fun s=>s.k≤rs.length∧s.xs.length=rs.length∧Own 68 15 (.slice q4 rs.length c4) s.h (s.xs.map kN)) (fun s=>rs.length-s.k) ⟨0,rs,hr⟩ ⟨bI1 _,rfl,gr⟩ (hh:=by (exact ak)) ?_;rintro⟨k4,us,h4⟩ m4 hm4 ⟨hk4,Fv,hB4⟩;dsimp only at hm4 hk4 Fv hB4 ⊢;refine run ?_;refine ah _ rfl (fun hc8=>?_) (fun hc8=>?_)
 ·have hlt:k4<rs.length:=by simp at hc8;omega
  obtain⟨b,cap',cur,eg,rfl,hsz,qh,hput⟩:=hB4.oq (k:=k4) bB3;rw[Fv] at eg;cases eg;have hS:=hput 0 [.int .u64 0,.int .u64 0,.int .u64 0,.int .u64 0,.int .u64 0,.int .u64 0,.int .u64 0,.int .u64 0,.int .u64 9,.int .u64 0,.int .u64 0,.int .u64 0,.int .u64 0,.int .u64 0,.int .u64 0] rgS bB5 rfl ⟨rfl,rfl⟩;refine oD (mO.mk b cur 68::[⟨Hb,#[.slice q1 ws.length c1,.slice q2 cs.length c2,.slice q3 vs.length c3,.slice (some ⟨b,0,none⟩) rs.length c4],29⟩]) ak ?_;refine run ?_;refine aF ⟨k4+1,us.set k4 rgS,[⟨b,putAt cur (k4*15) [.int .u64 0,.int .u64 0,.int .u64 0,.int .u64 0,.int .u64 0,.int .u64 0,.int .u64 0,.int .u64 0,.int .u64 9,.int .u64 0,.int .u64 0,.int .u64 0,.int .u64 0,.int .u64 0,.int .u64 0],68⟩]⟩ ⟨hlt,by dsimp only;rw[bM1];exact Fv,by dsimp only;rw[←Fv];exact hS⟩ (hm:=by dsimp only;omega) (h2:=by simp only[putAt];(exact ak))
 refine run ?_;exact fin0 rfl
end
def jf(F C:Nat):HyD:=⟨dP (F*8) (rG F 64),List.replicate C ⟨jA,0,0,[],[]⟩,List.replicate 4 ⟨false,false,0,[],[],[]⟩,List.replicate C jA⟩
def okE(r:Except Int PtD):Bool:=match r with | .ok _=>true | .error _=>false
def RQ(r:Except Int PtD):PtD:=match r with | .ok P=>P | .error _=>⟨[],[],[]⟩
theorem Y9{r:Except Int PtD}(h:okE r=true):r=.ok (RQ r):=by
 cases r with
 | ok P=>rfl
 | error e=>cases h
def mY(C:Nat):HyD:=(jf 32 C).wM 16 0
theorem Za:(jf 32 1).ok=true:=by decide +kernel
theorem Zc:(jf 32 2).ok=true:=by decide +kernel
theorem U4:(mY 1).ok=true:=by decide +kernel
theorem U5:(mY 2).ok=true:=by decide +kernel
theorem ba6:∀ C,C<3→0<C→okE ((jf 32 C).aG.Cj 0 ⟨5,0,16,0,0,0⟩)=true∧HyD.UO (jf 32 C).aG (RQ ((jf 32 C).aG.Cj 0 ⟨5,0,16,0,0,0⟩))=0:=by decide +kernel
theorem ba7:okE ((mY 1).aG.Cj 0 ⟨3,1,25,3,0,0⟩)=true:=by decide +kernel
theorem ar0:∀ C,C<3→(mY C).cs.length=C∧(mY C).vs.length=4:=by decide +kernel
theorem Zd:((mY 1).zF 1 25 3).cs.length=1∧((mY 1).zF 1 25 3).vs.length=4∧(((mY 1).zF 1 25 3).vu 0).live=true:=by decide +kernel
def dead:kJ:=⟨false,false,0,[],[],[]⟩
section
attribute [local irreducible] Hy St Ops DH dH jg iP gQ DS gX lJ
theorem Ze(F C:Nat)(hF1:24≤F)(hF:F≤64)(hC1:1≤C)(hC:C≤3)(w:World):Fn Tryz.prog 39 [.int .i64 (F:Int),.int .i64 (C:Int)].toArray w [] (fun u hn=>∃ p1 c1 p2 c2 p3 c3 p4 c4,u=.agg #[.slice p1 (F*8) c1,.slice p2 C c2,.slice p3 4 c3,.slice p4 C c4]∧(F*8≤c1∧4≤c3)∧∀ w,Here hn w→Et w (.slice p1 (F*8) c1) (.slice p2 C c2) (.slice p3 4 c3) (.slice p4 C c4) (dP (F*8) (rG F 64)) (List.replicate C TG) (List.replicate 4 vm0) (List.replicate C jA)):=by
 refine enter Tryz.func39 ?_;refine run ?_;intro R;refine run ?_;refine bH (fun wc hG=>ac7 F C hF bB3 hC wc) ?_;rintro u hn ⟨pv,gv,ov,rfl,hP⟩;refine KZ fun w1 hG1=>?_;have hP1:=hP w1 (fun b hb=>hG1.here b (bJ2 _ hb));obtain⟨p1,pc1,rfl,_⟩:=hP1.pages.opened;obtain⟨p3,pc3,rfl,_⟩:=hP1.on.opened
 obtain⟨g,gc,rfl,_⟩:∃ g gc,gv=.slice g (iw F C).ay.length gc∧True:=by
  obtain⟨vv,mv,⟨⟨g,gc,e,_⟩,hl⟩,_⟩:=hP1.ay;simp only[bH7,bO0] at e hl;exact⟨g,gc,e,trivial⟩
 clear hP1 hG1;refine run ?_;intro X;refine drawM 10 [0,1,2,4,7] [3,5,6,8] [9] ?_;refine gI ?_;refine jZ (fun wc hG=>GU F bB3 hF (iw F C).pages Xz (hP wc (fun b hb=>hG.here b bG2)).pages) ?_ ?_
 ·obtain⟨v,h1,hO⟩:=Jg (e:=53) ((qo (F*8) (dm (iw F C).pages) 64).ws.map uV) (fun c hc=>by obtain⟨x,_,rfl⟩:=bI7.1 hc;exact⟨rfl,rfl⟩) (by rw[bH7,LC bB3,eU];omega);exact⟨_,h1,v,h1,rfl,hO,aI.refl _⟩
 refine KA (m:=C) (sz:=19) (z:=.agg #[.int .u64 0,.int .u64 0,.int .u64 0,.int .u64 0,.int .u64 0,.int .u64 0,.int .u64 0,.int .u64 0,.int .u64 0,.int .u64 0,.int .u64 0,.int .u64 0,.int .u64 0,.int .u64 0,.int .u64 0,.int .i64 0,.int .i64 0,.slice none 0 0,.slice none 0 0]) ?_ bB3 (hcs:=by exact o9 [.int .u64 0,.int .u64 0,.int .u64 0,.int .u64 0,.int .u64 0,.int .u64 0,.int .u64 0,.int .u64 0,.int .u64 0,.int .u64 0,.int .u64 0,.int .u64 0,.int .u64 0,.int .u64 0,.int .u64 0,.int .i64 0,.int .i64 0,.slice none 0 0,.slice none 0 0] C 19 rfl bB3);refine KA (m:=4) (sz:=6) (z:=.agg #[.bool false,.bool false,.int .i64 0,.slice none 0 0,.slice none 0 0,.slice none 0 0]) ?_ bB3 (hcs:=by exact o9 [.bool false,.bool false,.int .i64 0,.slice none 0 0,.slice none 0 0,.slice none 0 0] 4 6 rfl bB3);refine KA (m:=C) (sz:=15) (z:=.agg #[.int .u64 0,.int .u64 0,.int .u64 0,.int .u64 0,.int .u64 0,.int .u64 0,.int .u64 0,.int .u64 0,.int .u64 0,.int .u64 0,.int .u64 0,.int .u64 0,.int .u64 0,.int .u64 0,.int .u64 0]) ?_ bB3 (hcs:=by exact o9 [.int .u64 0,.int .u64 0,.int .u64 0,.int .u64 0,.int .u64 0,.int .u64 0,.int .u64 0,.int .u64 0,.int .u64 0,.int .u64 0,.int .u64 0,.int .u64 0,.int .u64 0,.int .u64 0,.int .u64 0] C 15 rfl bB3);refine kL ?_;rintro _ _ ⟨Bh,rfl,rfl⟩ _ _ ⟨Bv,rfl,rfl⟩ _ _ ⟨Bc,rfl,rfl⟩ u hn2 ⟨v2,h2,rfl,hO,hle2⟩;rw[LC bB3] at hO;obtain⟨q,cap,e2,ar1⟩:=hO.sV;rw[bH7,eU] at e2 ar1;subst e2;refine uH ?_;refine jJ ?_;refine ry ?_;simp only[bI0,bI3];obtain⟨CC,hCC⟩:∃ G:Array Value,G=((List.replicate C [.int .u64 0,.int .u64 0,.int .u64 0,.int .u64 0,.int .u64 0,.int .u64 0,.int .u64 0,.int .u64 0,.int .u64 0,.int .u64 0,.int .u64 0,.int .u64 0,.int .u64 0,.int .u64 0,.int .u64 0,.int .i64 0,.int .i64 0,.slice none 0 0,.slice none 0 0]).flatten).toArray:=⟨_,rfl⟩
 obtain⟨VC,hVC⟩:∃ G:Array Value,G=((List.replicate 4 [.bool false,.bool false,.int .i64 0,.slice none 0 0,.slice none 0 0,.slice none 0 0]).flatten).toArray:=⟨_,rfl⟩
 obtain⟨RC,hRC⟩:∃ G:Array Value,G=((List.replicate C [.int .u64 0,.int .u64 0,.int .u64 0,.int .u64 0,.int .u64 0,.int .u64 0,.int .u64 0,.int .u64 0,.int .u64 0,.int .u64 0,.int .u64 0,.int .u64 0,.int .u64 0,.int .u64 0,.int .u64 0]).flatten).toArray:=⟨_,rfl⟩
 rw[←hCC,←hVC,←hRC];refine aS (⟨R,#[.slice none 0 0,.slice none 0 0,.slice none 0 0,.slice none 0 0],29⟩::⟨Bh,RC,68⟩::⟨Bv,VC,62⟩::⟨Bc,CC,74⟩::h2) (cnt1 hle2) ?_;refine run ?_;refine dR (cs:=#[.slice q (F*8) cap,.slice (some ⟨Bc,0,none⟩) C C,.slice (some ⟨Bv,0,none⟩) 4 4,.slice (some ⟨Bh,0,none⟩) C C]) ?_;subst hCC hVC hRC;exact⟨_,_,_,_,_,_,_,_,rfl,⟨ar1,bI9 4⟩,fun w' hw'=>⟨lW.dP (QW _ _),hO.lie (hw'.sub fun e he=>by simp[he]) (by simp[eU];omega),AA.zero (t:=74) (hw' _ (.tail _ (.tail _ (.tail _ (.head _))))) bB3,yT.zero (t:=62) (hw' _ (.tail _ (.tail _ (.head _)))) bB3,ad6 (t:=68) (hw' _ (.tail _ (.head _))) bB3⟩⟩
theorem zH(n:Int)(w:World):Fn Tryz.prog 17 [.int .i64 n].toArray w [] (fun u _=>u=.int .i64 n):=by
 refine enter Tryz.func17 ?_;refine run ?_;exact fin1 rfl
theorem rX{x:Int}(h:-1000≤x∧x≤1000):I64 x:=by unfold I64;omega
theorem U6(F C:Nat)(hF:F≤64)(hC:C≤3):(jf F C).Fit:=by
 refine⟨⟨by simp[jf,eU];omega,by simp[jf];omega,by simp[jf],by simp[jf];omega⟩,fun c hc=>?_,fun v hv=>?_⟩
 ·rw[bP9 hc];exact⟨by decide,by decide,rX bB4,rX bB4⟩
 ·rw[bP9 hv];exact⟨by decide,by decide,by decide,by simp,by simp,by simp⟩
theorem Zf{F C:Nat}(hF:F≤64)(hC:C≤3){p1 p2 p3 p4:Option Addr}{c1 c2 c3 c4:Nat}(h:Et w (.slice p1 (F*8) c1) (.slice p2 C c2) (.slice p3 4 c3) (.slice p4 C c4) (dP (F*8) (rG F 64)) (List.replicate C TG) (List.replicate 4 vm0) (List.replicate C jA))(h1:F*8≤c1)(h3:4≤c3):vw w (.slice p1 (F*8) c1) (.slice p2 C c2) (.slice p3 4 c3) (.slice p4 C c4) (jf F C):=by
 refine⟨U6 F C hF hC,⟨p3,c3,by simp[jf],by simp[jf];exact h3⟩,⟨p1,c1,by simp[jf,eU],by simp[jf,eU];exact h1⟩,List.replicate C TG,List.replicate 4 vm0,by rw[List.map_replicate];rfl,by rw[List.map_replicate];rfl,fun c hc=>by rw[bP9 hc];decide,h⟩
def JO(P:PtD):Bool:=decide (P.pages.length≤1000)&&decide (P.ay.length≤1000)&&decide (P.on.length≤1000)&&allB P.ay.length fun i=>decide ((P.gs i).aQ.length≤1000)&&decide ((P.gs i).maps.length≤1000)
theorem Nw(h:JO P=true):P.Small 1000:=by
 simp only[JO,bH6,decide_eq_true_eq] at h;refine⟨h.1.1.1,h.1.1.2,h.1.2,fun i hi=>?_⟩;have:=aJ.1 h.2 i hi;simpa only [bH6,decide_eq_true_eq] using this
theorem HyD.lM.of(hok:H.ok=true)(hw:lW H.ws):H.lM:=by
 simp only[HyD.ok,bH6] at hok;obtain⟨⟨⟨h1,⟨h2,h3⟩,h4⟩,h5⟩,h6⟩:=hok;have hL:=jq h1;refine⟨hL.m,hw,HostT.of hL h3,hL.c1,hL.c3,hL.r,hL.v,fun c hc=>?_⟩;obtain⟨j,hj,rfl⟩:=bT0 hc;have:=aJ.1 h6 j hj;simp only[HyD.sound,bH6] at this;have h9:=this.1;rw[show H.cu j=H.cs[j] by unfold HyD.cu;rw[bH8,bH9 hj];rfl] at h9;exact h9
theorem Ny:∀ C,C<3→JO (jf 32 C).aG=true:=by decide +kernel
theorem Zg:∀ C,C<3→0<C→(RQ ((jf 32 C).aG.Cj 0 ⟨5,0,16,0,0,0⟩)).may=true:=by decide +kernel
theorem Zh:∀ C,C<3→0<C→(jf 32 C).ok=true:=by
 intro C h1 h2
 match C,h1,h2 with
 | 1,_,_=>exact Za
 | 2,_,_=>exact Zc
theorem Nz(C:Nat)(h1:C<3)(h2:0<C){vv rv:Value}(h:vw w wv cv vv rv (jf 32 C)):Fn Tryz.prog 16 [.agg #[wv,cv,vv,rv],.int .i64 ((0:Nat):Int),uw ⟨5,0,16,0,0,0⟩].toArray w [] (HY (mY C)):=by
 have hok:=Zh C h1 h2;have hw64:lW (jf 32 C).ws:=lW.dP (QW _ _);have hW:=HyD.lM.of hok hw64;have hmay:(jf 32 C).aG.may=true:=by simp only[HyD.ok,bH6] at hok;exact hok.1.1.2.1.1
 obtain⟨hd,hn⟩:=ba6 C h1 h2;have hsv:mY C=(jf 32 C).wM 16 (HyD.UO (jf 32 C).aG (RQ ((jf 32 C).aG.Cj 0 ⟨5,0,16,0,0,0⟩))):=by rw[hn];rfl
 rw[hsv];have hcl:0<(jf 32 C).cs.length:=by simp[jf];exact h2
 refine JJ ba1 h hok 0 hcl ⟨5,0,16,0,0,0⟩ rfl (by constructor<;>exact rX bB4) (Y9 hd) (Nw (Ny C h1)) (fun L X p4 p5 p6 p7 p8 p9 n4 n5 n6 n7 n8 n9 k4 k5 k6 k7 k8 k9 wc hL hN hP hPo hP2 UW=>?_);exact Nu hL hW hcl rfl ⟨by decide,by simp[jf,eU]⟩ (wK hmay) (wK (Zg C h1 h2)) hP hPo hP2 UW hN
def smI(x:Int):Bool:=decide (-1000≤x)&&decide (x≤1000)
theorem NC{x:Int}(h:smI x=true):I64 x:=by
 simp only[smI,bH6,decide_eq_true_eq] at h;exact rX h
def aE0(H:HyD):Bool:=decide (H.ws.length<100000)&&decide (H.cs.length<100000)&&decide (H.vs.length<100000)&&decide (H.rs.length<100000)&&H.cs.all (fun c=>decide (c.es.length<100000)&&decide (c.ds.length<100000)&&smI c.vm&&smI c.vc)&&H.vs.all fun v=>decide (v.fs.length<100000)&&decide (v.fr.length<100000)&&decide (v.vs.length<100000)&&v.fs.all smI&&v.fr.all smI&&v.vs.all fun c=>smI c.on
theorem aE1(h:aE0 H=true):H.Fit:=by
 simp only[aE0,bH6,decide_eq_true_eq,bH'] at h;obtain⟨⟨⟨⟨⟨h1,h2⟩,h3⟩,h4⟩,h5⟩,h6⟩:=h;exact⟨⟨h1,h2,h3,h4⟩,fun c hc=>⟨(h5 c hc).1.1.1,(h5 c hc).1.1.2,NC (h5 c hc).1.2,NC (h5 c hc).2⟩,fun v hv=>⟨(h6 v hv).1.1.1.1.1,(h6 v hv).1.1.1.1.2,(h6 v hv).1.1.1.2,fun x hx=>NC ((h6 v hv).1.1.2 x hx),fun x hx=>NC ((h6 v hv).1.2 x hx),fun x hx=>NC ((h6 v hv).2 x hx)⟩⟩
theorem aQ3:∀ C,C<3→aE0 (mY C)=true:=by decide +kernel
def aQ4(ws:List Nat):Bool:=ws.all fun x=>decide (x<18446744073709551616)
theorem aE2{ws:List Nat}(h:aQ4 ws=true):lW ws:=fun x hx=>by
 have:=bH'.1 h x hx;simpa using this
theorem aQ5:∀ C,C<3→aQ4 (mY C).ws=true:=by decide +kernel
theorem ak':∀ C,C<3→JO (mY C).aG=true:=by decide +kernel
theorem ND:∀ C,C<3→0<C→(mY C).ok=true:=by
 intro C h1 h2
 match C,h1,h2 with
 | 1,_,_=>exact U4
 | 2,_,_=>exact U5
theorem NF{L:HL}(hL:zM L (mY 1))(hh:Here L.rest w):Fn Tryz.prog 16 [.agg #[L.wv,L.cv,L.vv,L.rv],.int .i64 ((0:Nat):Int),uw ⟨3,1,25,3,0,0⟩].toArray w [] (HY ((mY 1).zF 1 25 3)):=by
 have hW:=HyD.lM.of (ND 1 bB4 bB4) (aE2 (aQ5 1 bB4));refine JJ ba0 (hL.hv (aE1 (aQ3 1 bB4)) hh) (ND 1 bB4 bB4) 0 (bU9 Nat.zero_lt_one hW.c1) ⟨3,1,25,3,0,0⟩ rfl (by constructor<;>exact rX bB4) (Y9 ba7) (Nw (ak' 1 bB4)) (fun L X p4 p5 p6 p7 p8 p9 n4 n5 n6 n7 n8 n9 k4 k5 k6 k7 k8 k9 wc hL hN hP hPo hP2 UW=>?_);exact Nv hL hW (bU9 Nat.zero_lt_one hW.c1) rfl bB4 bB4 bG4 hN
theorem ar2{L:HL}(h:zM L H){n:Nat}(hn:H.cs.length=n):L.cs.length=n:=by
 have:=congrArg List.length h.ec;rw[bH7] at this;omega
theorem ar4{L:HL}(h:zM L H){n:Nat}(hn:H.vs.length=n):L.vs.length=n:=by
 have:=congrArg List.length h.ev;rw[bH7] at this;omega
theorem U7(w:World):Fn Tryz.prog 20 [].toArray w [] (fun u _=>u=.bool true):=by
 refine enter Tryz.func20 ?_;refine run ?_;refine bH (fun wc hG=>Ze 32 1 bB4 bB4 bB4 bB4 wc) ?_;rintro _ hn ⟨p1,c1,p2,c2,p3,c3,p4,c4,rfl,⟨hc1,hc3⟩,hH⟩;refine run ?_;refine bH (fun wc hG=>Nz 1 bB4 bB4 (Zf bB4 bB4 (hH wc (fun e he=>hG.here e bC9)) hc1 hc3)) ?_;rintro _ hn2 ⟨L,rfl,hL,hle⟩;have aQ6:=ar2 hL (ar0 1 bB4).1;have aQ7:=ar4 hL (ar0 1 bB4).2;obtain⟨wvx,cvx,vvx,rvx,csx,vsx,hwx,hcx,htx,hvx,hzx,hrx⟩:=L;obtain⟨ax1,bx1,fx1⟩:=hL.w.opened;obtain⟨ax2,bx2,fx2⟩:=hL.c.opened;obtain⟨ax3,bx3,fx3⟩:=hL.v.opened;obtain⟨ax4,bx4,fx4⟩:=hL.r.opened;dsimp only at aQ6 aQ7 fx1 fx2 fx3 fx4;rw[bH7,aQ6] at fx2;rw[bH7,aQ7] at fx3;subst fx1 fx2 fx3 fx4;refine run ?_;intro Eb;refine run ?_;refine bH (fun wc hG=>NF hL (fun e he=>hG.here e (by have:=hle.mem he;simp[this]))) ?_;rintro _ hn3 ⟨M,rfl,hM,hle3⟩;have aQ8:=ar2 hM Zd.1;have aE3:=ar4 hM Zd.2.1;obtain⟨wvy,cvy,vvy,rvy,csy,vsy,hwy,hcy,hty,hvy,hzy,hry⟩:=M;obtain⟨ay1,by1,fy1⟩:=hM.w.opened;obtain⟨ay2,by2,fy2⟩:=hM.c.opened;obtain⟨ay3,by3,fy3⟩:=hM.v.opened;obtain⟨ay4,by4,fy4⟩:=hM.r.opened;dsimp only at aQ8 aE3 fy1 fy2 fy3 fy4;rw[bH7,aQ8] at fy2;rw[bH7,aE3] at fy3;subst fy1 fy2 fy3 fy4;obtain⟨g,cap,cur,e7,rfl,hsz,qh,_⟩:=hM.v.oq (k:=0) (by dsimp only;omega);dsimp only at e7;rw[aE3] at e7;cases e7;have n0:=qh 0 _ rfl
 have hlv:(vsy.getD 0 default).live=true:=by
  have:=rM hM.ev 0;have h2:=congrArg kJ.live this;exact h2.trans Zd.2.2
 rw[hlv] at n0;simp only[bR6,bK2] at n0;simp only[HL.rest] at hle3;dsimp only;refine aS (⟨Eb,#[.slice ax1 (List.map uV (mY 1).ws).length bx1,.slice ax2 1 bx2,.slice ax3 4 bx3,.slice ax4 (List.map kN (mY 1).rs).length bx4],29⟩::⟨g,cur,62⟩::[]) (cnt1 hle3) ?_;refine run ?_;refine az (fun wc hG=>zH 0 wc) ?_;refine aC ?_;refine bG (fun _ wc hG=>zH 0 wc) ?_;refine aC ?_;exact fin1 rfl
end
section
namespace HyD
variable {H : HyD}
theorem Zi(h:H.ok=true):H.aG.may=true:=by simp only[HyD.ok,bH6] at h;exact h.1.1.2.1.1
theorem Ff(h:H.ok=true):H.aG.Small 1000:=by
 have hm:=Zi h;have h2:=PtD.ai9.1 hm;refine⟨by have:=h2.n1;omega,by have:=h2.g4;omega,by have:=h2.o3;omega,fun i hi=>?_⟩;have hi4:i<4:=by have:=h2.g4;omega
 refine⟨?_,by have:=PtD.ET hm hi4;omega⟩
 cases hl:(H.aG.gs i).live with
 | true=>have:=(h2.WE i hi4 hl).vl;omega
 | false=>rw[(h2.dead i hi4 hl).vc];simp
theorem aQ9{i:Nat}(hi:i<4)(hl:(H.aG.gs i).live=true):(H.aG.gs i).aQ.length=(H.vu i).vs.length:=by
 obtain⟨_,hp2,_⟩:=qC H;rw[hp2 i hi] at hl ⊢;unfold bU at hl ⊢
 cases hv:(H.vu i).live with
 | true=>rw[hv] at hl;simp
 | false=>rw[hv] at hl;cases hl
theorem BM{n:Int}(h:1≤n∧n≤4):ix n<4:=by unfold ix;omega
theorem al0(h:H.ok=true){cpu:Nat}(hc:cpu<H.cs.length){c:zx}(hk:c.kind=9){P2:PtD}(hd:H.aG.Cj cpu c=.ok P2):(H.aG.st cpu).vm > 0∧(1≤(H.cu cpu).vm∧(H.cu cpu).vm≤4)∧0≤(H.cu cpu).vc∧(H.cu cpu).vc<((H.vu ((H.cu cpu).vm-1).toNat).vs.length:Int):=by
 obtain⟨K,vm,fr,mid,vc,cc⟩:=c;dsimp only at hk ⊢;subst hk;obtain⟨_,_,hp3⟩:=qC H;have hst:=hp3 cpu hc;have hon:H.aG.on.length=H.cs.length:=by unfold HyD.aG;dsimp only;rw[bH7]
 unfold PtD.Cj at hd;by_cases hv:(H.aG.st cpu).vm=0
 ·rw[hv] at hd;simp[PtD.EW] at hd
 ·obtain⟨h1,h2,h3,h4,h5,_⟩:=zy (Zi h) (by rw[hon];exact hc) hv;have hg:=aQ9 (BM ⟨h1,h2⟩) h3;rw[hg] at h5;rw[hst] at h1 h2 h4 h5 ⊢;dsimp only at h1 h2 h4 h5 ⊢;unfold ix at h5;exact⟨by omega,⟨h1,h2⟩,h4,by omega⟩
end HyD
end
section
attribute [local irreducible] Hy St Ops DH dH jg iP gQ DS gX lJ
section
variable {L : HL} {H : HyD} {cpu : Nat} {c : zx} {X : Nat} {pv gv ov : Value} {w : World} {p7 p8 p9 : Option Addr} {n7 n8 n9 k7 k8 k9 : Nat}
theorem U8(h:zM L H)(hW:H.lM)(mQ:cpu<H.cs.length)(hk:c.kind=9)(hvm:1≤(H.cu cpu).vm∧(H.cu cpu).vm≤4)(lC:0≤(H.cu cpu).vc∧(H.cu cpu).vc<((H.vu ((H.cu cpu).vm-1).toNat).vs.length:Int))(hN:dY (L.hp X [pv,gv,ov] 90) w):
  Fn Tryz.prog 35 [.pointer (some ⟨X,0,none⟩),.int .i64 (cpu:Int),uw c,.agg #[.slice p7 n7 k7,.slice p8 n8 k8,.slice p9 n9 k9]].toArray w ((L.hp X [pv,gv,ov] 90).map (·.b)) (HR X [pv,gv,ov] 90 (H.zD cpu)):=by
 obtain⟨K_,n_,uA,mV,Bi,vN⟩:=c;dsimp only at hk;subst hk;obtain⟨wv,cv,vv,rv,cs,vs,hw,hc,ht,hvv,hz,hr⟩:=L;have h':=h;obtain⟨NQ,gw,F7,gt,zN,gz,gr,ec,ev⟩:=h;dsimp only at gw F7 gt zN gz gr ec ev;have ecl:cs.length=H.cs.length:=bG6;obtain⟨gc,cc,oz,rfl,rfl,csz,qX,Bf⟩:=F7.oq (k:=cpu) bB3;generalize JG:cs.getD cpu default=cp at qX Bf;have Qd:=qX 15 _ rfl;have JI:cpu<cs.length:=bB3;have hc3:=hW.c3;refine dS _ hN Tryz.func35 ?_;simp only[HL.hp,HL.rest] at hN ⊢;refine oD (⟨X,#[wv,.slice (some ⟨gc,0,none⟩) cs.length cc,vv,rv,pv,gv,ov],90⟩::⟨gc,oz,74⟩::(hw++(ht++(hvv++(hz++hr))))) ak ?_;refine run ?_;intro Cb Ib;refine aP ?_;refine iR ((⟨wv,.slice (some ⟨gc,0,none⟩) cs.length cc,vv,rv,cs,vs,hw,[⟨gc,oz,74⟩],ht,hvv,hz,hr⟩:HL).hp X [pv,gv,ov] 90) [⟨Ib,#[.slice p7 n7 k7,.slice p8 n8 k8,.slice p9 n9 k9],48⟩,⟨Cb,#[.int .i64 9,.int .i64 n_,.int .i64 uA,.int .i64 mV,.int .i64 Bi,.int .i64 vN],37⟩] (fun wc hG=>aj9 _ H h' cpu mQ hW.r bB3 ⟨hvm.1,by rw[hW.v];exact hvm.2⟩ (by rw[hW.v];decide) lC hG.iG) (fun v hn hR=>?_) bE3;obtain⟨rfl,L2,h2,hle⟩:=hR;refine run ?_;exact fin0 ⟨rfl,L2,h2,Di hle ak⟩
end
namespace HyD
variable {H : HyD}
def aQ'(c:JU):Prop:=c.es.length<100000∧c.ds.length<100000∧I64 c.vm∧I64 c.vc
def aR0(v:kJ):Prop:=v.fs.length<100000∧v.fr.length<100000∧v.vs.length<100000∧(∀ x∈v.fs,I64 x)∧(∀ x∈v.fr,I64 x)∧(∀ c∈v.vs,I64 c.on)
theorem al1(hf:H.Fit){i:Nat}{x:JU}{y:kJ}{r:zL}(hx:aQ' x)(hy:aR0 y):HyD.Fit ⟨H.ws,H.cs.set k x,H.vs.set i y,H.rs.set k r⟩:=by
 refine⟨by have:=hf.l;simpa only [bM1] using this,fun c hc=>?_,fun v hv=>?_⟩
 ·rcases bS3 hc with h | rfl
  ·exact hf.c _ h
  ·exact hx
 ·rcases bS3 hv with h | rfl
  ·exact hf.v _ h
  ·exact hy
theorem aE4(hf:H.Fit)(hk:k<H.cs.length):aQ' (H.cu k):=hf.c _ (getD_mem (l:=H.cs) hk)
theorem aE5(hf:H.Fit)(hk:k<H.vs.length):aR0 (H.vu k):=hf.v _ (getD_mem (l:=H.vs) hk)
theorem JP{n:Int}(h:-1≤n∧n<100000):I64 n:=by unfold I64;omega
end HyD
def aE6(K:Int):Prop:=(PK K∧RK K)∧∀ (H:HyD) (cpu:Nat) (c:zx) (P2:PtD),H.ok=true→lW H.ws→H.Fit→cpu<H.cs.length→c.kind=K→c.Wf→H.aG.Cj cpu c=.ok P2→∃ H2:HyD,H2.Fit ∧
 (∀ w wv cv vv rv,vw w wv cv vv rv H→Fn Tryz.prog 16 [.agg #[wv,cv,vv,rv],.int .i64 (cpu:Int),uw c].toArray w [] (HY H2)) ∧
 (∀ w wv cv vv rv,vw w wv cv vv rv H→Fn Tryz.prog 99 [.agg #[wv,cv,vv,rv],.int .i64 (cpu:Int),uw c].toArray w [] (HY H2))
theorem aE7:aE6 9:=by
 refine⟨⟨aQ0,aQ1⟩,?_⟩;intro H cpu c P2 hok h64 hf mQ hk hw hd;have hW:=HyD.lM.of hok h64;have hs:=HyD.Ff hok;obtain⟨hv0,hvm,lC⟩:=HyD.al0 hok mQ hk hd;have hi:((H.cu cpu).vm-1).toNat<H.vs.length:=by rw[hW.v];omega
 have fv:=HyD.aE5 hf hi;have fc:=HyD.aE4 hf mQ;have hl:=hf.l;refine⟨H.zD cpu,?_,fun w wv cv vv rv h=>JJ aQ0 h hok cpu mQ c hk hw hd hs fun L X p4 p5 p6 p7 p8 p9 n4 n5 n6 n7 n8 n9 k4 k5 k6 k7 k8 k9 w hL hN _ _ _ _=>U8 hL hW mQ hk hvm lC hN,fun w wv cv vv rv h=>ak9 aQ1 h hok cpu mQ c hk hw hd hs (fun hg=>absurd hg bB3) (fun _ L X p4 p5 p6 p7 p8 p9 n4 n5 n6 n7 n8 n9 k4 k5 k6 k7 k8 k9 w hL hN _ _ _ _=>JK hL hW mQ hk hvm lC hN)⟩;refine HyD.al1 hf ⟨fc.1,fc.2.1,HyD.JP (n:=0) bB4,HyD.JP (n:=0) bB4⟩ ⟨fv.1,fv.2.1,by rw[bM1];exact fv.2.2.1,fv.2.2.2.1,fv.2.2.2.2.1,fun x hx=>?_⟩;rcases bS3 hx with h | rfl
 ·exact fv.2.2.2.2.2 _ h
 ·exact HyD.JP (n:= -1) bB4
end
section
attribute [local irreducible] Hy St Ops DH dH jg iP gQ DS gX lJ
theorem aE8{a b:List jv}(h:a.map jv.u=b.map jv.u):a.map jv.core=b.map jv.core:=by
 have:jv.core=(fun u:JU=>(u.r,u.vm,u.vc,u.es,u.ds)) ∘ jv.u:=rfl;rw[this,←bW',h,bW']
theorem aE9{a b:List eG}(h:a.map eG.u=b.map eG.u):a.map eG.core=b.map eG.core:=by
 have:eG.core=(fun u:kJ=>(u.live,u.dying,u.aN,u.fs,u.fr,u.vs)) ∘ eG.u:=rfl;rw[this,←bW',h,bW']
theorem RS(w:World):Fn Tryz.prog 100 [(.agg #[.slice none 0 0,.slice none 0 0,.slice none 0 0,.slice none 0 0]),(.agg #[.slice none 0 0,.slice none 0 0,.slice none 0 0,.slice none 0 0])].toArray w [] (fun r _=>r=.bool true):=
 QZ [] [] [] [] [] [] _ _ _ _ _ _ _ _ rfl rfl (gW _ _) (gW _ _) ⟨gW _ _,by simp,by simp⟩ ⟨gW _ _,by simp,by simp⟩ ⟨gW _ _,by simp,by simp,by simp⟩ ⟨gW _ _,by simp,by simp,by simp⟩ (gW _ _) (gW _ _)
theorem BQ(w:World):Fn Tryz.prog 101 [(.agg #[.slice none 0 0,.slice none 0 0,.slice none 0 0,.slice none 0 0])].toArray w [] (fun u _=>u=.tuple #[]):=
 Fe (L:=⟨.slice none 0 0,.slice none 0 0,.slice none 0 0,.slice none 0 0,[],[],[],[],[],[],[],[]⟩) (H:=⟨[],[],[],[]⟩) ⟨fun _ h=>by simp at h,Own.nil _ _,Own.nil _ _,trivial,Own.nil _ _,trivial,Own.nil _ _,rfl,rfl⟩ ⟨by decide,by simp,by simp⟩ ⟨fun _ h=>by simp[HL.rest] at h,by simp[HL.rest]⟩
theorem xR{a b c d a' b' c' d':Value}(h:vw w a b c d H)(h2:vw w a' b' c' d' H):Fn Tryz.prog 100 [.agg #[a,b,c,d],.agg #[a',b',c',d']].toArray w [] (fun r _=>r=.bool true):=by
 obtain⟨cs,vs,e1,e2,_,hH⟩:=h.ex;obtain⟨cs2,vs2,f1,f2,_,hH2⟩:=h2.ex;exact QZ H.ws cs cs2 vs vs2 H.rs _ _ _ _ _ _ _ _ (aE8 (e1.trans f1.symm)) (aE9 (e2.trans f2.symm)) hH.ws hH2.ws hH.cs hH2.cs hH.vs hH2.vs hH.rs hH2.rs
theorem Zj{K:Int}(hK:aE6 K){vv rv:Value}(h:vw w wv cv vv rv H)(k_ n_ uA mV Bi Qe:Int)(cpu:Nat)(mQ:cpu<H.cs.length)(hk:k_=K)(hw:zx.Wf ⟨k_,n_,uA,mV,Bi,Qe⟩):Fn Tryz.prog 40 [.agg #[wv,cv,vv,rv],.agg #[.int .i64 (cpu:Int),.int .i64 k_,.int .i64 n_,.int .i64 uA,.int .i64 mV,.int .i64 Bi,.int .i64 Qe,.bool false]].toArray w [] (fun u _=>∃ p1 p2 p3 p4:Option Addr,∃ n1 n2 n3 n4 c1 c2 c3 c4:Nat,u=.tuple #[.agg #[.slice p1 n1 c1,.slice p2 n2 c2,.slice p3 n3 c3,.slice p4 n4 c4],.bool true]):=by
 have h':=h;obtain⟨cs,vs,e1,e2,_,hH⟩:=h.ex;have hcl:cs.length=H.cs.length:=by rw[←e1,bH7]
 obtain⟨q,cap,rfl,hne,_⟩:=hH.ws.opened;obtain⟨q2,cap2,rfl,hne2,_⟩:=hH.cs.rows.opened;obtain⟨q3,cap3,rfl,jG,_⟩:=hH.vs.rows.opened;obtain⟨q4,cap4,rfl,oV,_⟩:=hH.rs.opened;refine enter Tryz.func40 ?_;refine run ?_;intro Hb Ab Wb;refine run ?_;refine az (fun wc hG=>aA8 (h'.good hG)) ?_;rw[aB3];refine run ?_;refine bH (fun wc hG=>JL (h'.good hG)) ?_;rintro _ hn3 ⟨L,rfl,hL3,hle3⟩;have hLv:=fun (wc:World) (hh:Here L.rest wc)=>hL3.hv h'.fit hh;obtain⟨wv0,cv0,vv0,rv0,cs0,JM,hw0,hc0,ht0,hv0,hz0,hr0⟩:=L;obtain⟨y1,y2,y3⟩:=hL3.w.opened;obtain⟨y4,y5,y6⟩:=hL3.c.opened;obtain⟨y7,y8,y9⟩:=hL3.v.opened;obtain⟨RN,RP,y12⟩:=hL3.r.opened;dsimp only at y3 y6 y9 y12 hLv;subst y3 y6 y9 y12;simp only[HL.rest] at hle3 hLv;refine aS (⟨Wb,#[.slice none 0 0,.slice none 0 0,.slice none 0 0,.slice none 0 0],29⟩::⟨Ab,#[.int .i64 (cpu:Int),.int .i64 k_,.int .i64 n_,.int .i64 uA,.int .i64 mV,.int .i64 Bi,.int .i64 Qe,.bool false],39⟩::⟨Hb,#[.slice q H.ws.length cap,.slice q2 cs.length cap2,.slice q3 vs.length cap3,.slice q4 H.rs.length cap4],29⟩::(hw0++(hc0++(ht0++(hv0++(hz0++hr0)))))) (cnt1 hle3) ?_;refine run ?_;intro Ib;refine run ?_;have hin:∀ (wc:World) (hp:Hp),Good w [] hp wc→(∀ e∈(hw0++(hc0++(ht0++(hv0++(hz0++hr0))))),e∈hp)→vw wc (.slice y1 (List.map uV H.ws).length y2) (.slice y4 (List.map qY cs0).length y5) (.slice y7 (List.map mW JM).length y8) (.slice RN (List.map kN H.rs).length RP) H:=fun wc hp hG hm=>hLv wc (fun e he=>hG.here e (hm e he))
 cases hok:H.ok with
 | false=>
  refine aP ?_;intro Xb Nb;refine aP ?_;refine az (fun wc hG=>U1 (hin wc _ hG (fun e he=>bB')) hok (cpu:Int) ⟨k_,n_,uA,mV,Bi,Qe⟩) ?_;refine aP ?_;refine az (fun wc hG=>zH _ wc) ?_;refine aP ?_;refine bG (fun hg wc hG=>RS wc) ?_;refine aP ?_;refine bG (fun hg wc hG=>xR (hin wc _ hG (fun e he=>bB')) (h'.good hG)) ?_;refine aP ?_;refine az (fun wc hG=>BQ wc) ?_;refine aP ?_;refine az (fun wc hG=>xR (hin wc _ hG (fun e he=>bB')) (h'.good hG)) ?_;refine aP ?_
  exact fZ ⟨_,_,_,_,_,_,_,_,_,_,_,_,rfl⟩
 | true=>
  refine aP ?_;refine bG (fun hg wc hG=>Jl _ _ wc) ?_;rw[show (decide (0≤(cpu:Int))&&decide ((cpu:Int)≤(cs.length:Int)-1))=true by simp;omega];refine aP ?_;intro Xb Nb;refine aP ?_
  cases hd:H.aG.Cj cpu ⟨k_,n_,uA,mV,Bi,Qe⟩ with
  | error e=>
   refine az (fun wc hG=>Y6 hK.1.1 (hin wc _ hG (fun e he=>bB')) hok cpu mQ ⟨k_,n_,uA,mV,Bi,Qe⟩ hk hw hd (HyD.Ff hok)) ?_;refine aP ?_;obtain⟨e',he'⟩:∃ e',e'=e:=⟨_,rfl⟩
   refine az (fun wc hG=>Y8 hK.1.2 (h'.good hG) hok cpu mQ ⟨k_,n_,uA,mV,Bi,Qe⟩ hk hw (e:=e') (by rw[he'];exact hd) (HyD.Ff hok)) ?_;refine aP ?_;refine az (fun wc hG=>zH _ wc) ?_;refine aP ?_;rw[show (!decide (e=e'))=false by simp[he']];refine bG (fun hg wc hG=>RS wc) ?_;refine aP ?_;refine bG (fun hg wc hG=>xR (hin wc _ hG (fun e he=>bB')) (h'.good hG)) ?_;refine aP ?_;refine az (fun wc hG=>BQ wc) ?_;refine aP ?_;refine az (fun wc hG=>xR (hin wc _ hG (fun e he=>bB')) (h'.good hG)) ?_;refine aP ?_;refine ah _ rfl (fun hc=>absurd hc (by rw[he'];simp[PtD.xQ _ _ _ _ hd])) (fun hc=>?_);refine aP ?_
   exact fZ ⟨_,_,_,_,_,_,_,_,_,_,_,_,rfl⟩
  | ok P2=>
   obtain⟨H2,hf2,hA,hB⟩:=hK.2 H cpu ⟨k_,n_,uA,mV,Bi,Qe⟩ P2 hok hH.Df h'.fit mQ hk hw hd;refine bH (fun wc hG=>hA _ _ _ _ _ (hin wc _ hG (fun e he=>bB'))) ?_;rintro _ hnx ⟨Lx,rfl,hLx,hlex⟩;have hXv:=fun (wc:World) (hh:Here Lx.rest wc)=>hLx.hv hf2 hh;have hsp:=fun (wc:World) (hh:dY Lx.rest wc)=>Fe hLx hf2 hh;obtain⟨wvx,cvx,vvx,rvx,csx,vsx,hwx,hcx,htx,hvx,hzx,hrx⟩:=Lx;obtain⟨x1,x2,x3⟩:=hLx.w.opened;obtain⟨x4,x5,x6⟩:=hLx.c.opened;obtain⟨x7,x8,x9⟩:=hLx.v.opened;obtain⟨x10,x11,x12⟩:=hLx.r.opened;dsimp only at x3 x6 x9 x12 hXv hsp;subst x3 x6 x9 x12;simp only[HL.rest] at hlex hXv hsp;refine aS (⟨Xb,#[.slice none 0 0,.slice none 0 0,.slice none 0 0,.slice none 0 0],29⟩::⟨Nb,#[.slice none 0 0,.slice none 0 0,.slice none 0 0,.slice none 0 0],29⟩::⟨Ib,#[.slice y1 (List.map uV H.ws).length y2,.slice y4 (List.map qY cs0).length y5,.slice y7 (List.map mW JM).length y8,.slice RN (List.map kN H.rs).length RP],29⟩::⟨Wb,#[.slice none 0 0,.slice none 0 0,.slice none 0 0,.slice none 0 0],29⟩::⟨Ab,#[.int .i64 (cpu:Int),.int .i64 k_,.int .i64 n_,.int .i64 uA,.int .i64 mV,.int .i64 Bi,.int .i64 Qe,.bool false],39⟩::⟨Hb,#[.slice q H.ws.length cap,.slice q2 cs.length cap2,.slice q3 vs.length cap3,.slice q4 H.rs.length cap4],29⟩::((hwx++(hcx++(htx++(hvx++(hzx++hrx)))))++(hw0++(hc0++(ht0++(hv0++(hz0++hr0))))))) (cnt1 hlex) ?_;refine aP ?_;refine bH (fun wc hG=>hB _ _ _ _ _ (h'.good hG)) ?_;rintro _ hny ⟨Ly,rfl,hLy,aR2⟩;have hYv:=fun (wc:World) (hh:Here Ly.rest wc)=>hLy.hv hf2 hh;obtain⟨wvy,cvy,vvy,rvy,csy,vsy,hwy,hcy,hty,hvy,hzy,hry⟩:=Ly;obtain⟨z1,z2,z3⟩:=hLy.w.opened;obtain⟨z4,z5,z6⟩:=hLy.c.opened;obtain⟨z7,z8,z9⟩:=hLy.v.opened;obtain⟨z10,z11,z12⟩:=hLy.r.opened;dsimp only at z3 z6 z9 z12 hYv;subst z3 z6 z9 z12;simp only[HL.rest] at aR2 hYv;refine aS (⟨Nb,#[.slice none 0 0,.slice none 0 0,.slice none 0 0,.slice none 0 0],29⟩::⟨Xb,#[.slice x1 (List.map uV H2.ws).length x2,.slice x4 (List.map qY csx).length x5,.slice x7 (List.map mW vsx).length x8,.slice x10 (List.map kN H2.rs).length x11],29⟩::⟨Ib,#[.slice y1 (List.map uV H.ws).length y2,.slice y4 (List.map qY cs0).length y5,.slice y7 (List.map mW JM).length y8,.slice RN (List.map kN H.rs).length RP],29⟩::⟨Wb,#[.slice none 0 0,.slice none 0 0,.slice none 0 0,.slice none 0 0],29⟩::⟨Ab,#[.int .i64 (cpu:Int),.int .i64 k_,.int .i64 n_,.int .i64 uA,.int .i64 mV,.int .i64 Bi,.int .i64 Qe,.bool false],39⟩::⟨Hb,#[.slice q H.ws.length cap,.slice q2 cs.length cap2,.slice q3 vs.length cap3,.slice q4 H.rs.length cap4],29⟩::((hwy++(hcy++(hty++(hvy++(hzy++hry)))))++((hwx++(hcx++(htx++(hvx++(hzx++hrx)))))++(hw0++(hc0++(ht0++(hv0++(hz0++hr0)))))))) (cnt1 aR2) ?_;refine aP ?_;refine az (fun wc hG=>zH _ wc) ?_;refine aP ?_;refine bG (fun hg wc hG=>xR (hXv wc (fun e he=>hG.here e bC2)) (hYv wc (fun e he=>hG.here e bC2))) ?_;refine aP ?_;refine bG (fun hg wc hG=>xR (hin wc _ hG (fun e he=>bC2)) (h'.good hG)) ?_;refine aP ?_;refine iR (hwx++(hcx++(htx++(hvx++(hzx++hrx))))) (⟨Nb,#[.slice z1 (List.map uV H2.ws).length z2,.slice z4 (List.map qY csy).length z5,.slice z7 (List.map mW vsy).length z8,.slice z10 (List.map kN H2.rs).length z11],29⟩::⟨Xb,#[.slice x1 (List.map uV H2.ws).length x2,.slice x4 (List.map qY csx).length x5,.slice x7 (List.map mW vsx).length x8,.slice x10 (List.map kN H2.rs).length x11],29⟩::⟨Ib,#[.slice y1 (List.map uV H.ws).length y2,.slice y4 (List.map qY cs0).length y5,.slice y7 (List.map mW JM).length y8,.slice RN (List.map kN H.rs).length RP],29⟩::⟨Wb,#[.slice none 0 0,.slice none 0 0,.slice none 0 0,.slice none 0 0],29⟩::⟨Ab,#[.int .i64 (cpu:Int),.int .i64 k_,.int .i64 n_,.int .i64 uA,.int .i64 mV,.int .i64 Bi,.int .i64 Qe,.bool false],39⟩::⟨Hb,#[.slice q H.ws.length cap,.slice q2 cs.length cap2,.slice q3 vs.length cap3,.slice q4 H.rs.length cap4],29⟩::((hwy++(hcy++(hty++(hvy++(hzy++hry)))))++(hw0++(hc0++(ht0++(hv0++(hz0++hr0))))))) (fun wc hG=>hsp wc hG.iG) (fun v hnv hv=>?_) aU;subst hv;refine aS (⟨Nb,#[.slice z1 (List.map uV H2.ws).length z2,.slice z4 (List.map qY csy).length z5,.slice z7 (List.map mW vsy).length z8,.slice z10 (List.map kN H2.rs).length z11],29⟩::⟨Xb,#[.slice x1 (List.map uV H2.ws).length x2,.slice x4 (List.map qY csx).length x5,.slice x7 (List.map mW vsx).length x8,.slice x10 (List.map kN H2.rs).length x11],29⟩::⟨Ib,#[.slice y1 (List.map uV H.ws).length y2,.slice y4 (List.map qY cs0).length y5,.slice y7 (List.map mW JM).length y8,.slice RN (List.map kN H.rs).length RP],29⟩::⟨Wb,#[.slice none 0 0,.slice none 0 0,.slice none 0 0,.slice none 0 0],29⟩::⟨Ab,#[.int .i64 (cpu:Int),.int .i64 k_,.int .i64 n_,.int .i64 uA,.int .i64 mV,.int .i64 Bi,.int .i64 Qe,.bool false],39⟩::⟨Hb,#[.slice q H.ws.length cap,.slice q2 cs.length cap2,.slice q3 vs.length cap3,.slice q4 H.rs.length cap4],29⟩::((hwy++(hcy++(hty++(hvy++(hzy++hry)))))++(hw0++(hc0++(ht0++(hv0++(hz0++hr0))))))) ak ?_;refine aP ?_;refine az (fun wc hG=>xR (hin wc _ hG (fun e he=>bC2)) (h'.good hG)) ?_;refine aP ?_;refine bH (fun wc hG=>JL (hYv wc (fun e he=>hG.here e bC2))) ?_;rintro _ hnz ⟨Lz,rfl,hLz,hlez⟩;obtain⟨wvz,cvz,vvz,rvz,csz,vsz,hwz,hcz,htz,hvz,hzz,hrz⟩:=Lz;obtain⟨t1,t2,t3⟩:=hLz.w.opened;obtain⟨t4,t5,t6⟩:=hLz.c.opened;obtain⟨t7,t8,t9⟩:=hLz.v.opened;obtain⟨t10,t11,t12⟩:=hLz.r.opened;dsimp only at t3 t6 t9 t12;subst t3 t6 t9 t12;refine aS [⟨Wb,#[.slice none 0 0,.slice none 0 0,.slice none 0 0,.slice none 0 0],29⟩] ak ?_;refine aP ?_;exact fZ ⟨_,_,_,_,_,_,_,_,_,_,_,_,rfl⟩
theorem U9(n m cn cm:Nat)(q q2:Option Addr)(w:World)(hn:n≤281474976710656)(hm:m≤281474976710656):Fn Tryz.prog 102 [.agg #[.slice q n cn,.slice q2 m cm]].toArray w [] (fun r _=>r=.int .i64 ((n:Int)+m)):=by
 refine enter Tryz.func102 ?_;refine run ?_;intro B;exact fin1 rfl
def al2(ws:List Nat)(cs:List jv)(vs:List eG)(rs:List zL):Prop:=(ws.length≤1500∧cs.length≤1500∧vs.length≤1500∧rs.length≤1500)∧(∀ c∈cs,c.t.es.length≤1500∧c.t.ds.length≤1500)∧∀ v∈vs,v.fs.length≤1500∧v.fr.length≤1500∧v.vs.length≤1500
theorem Qg{vv rv:Value}{ws:List Nat}{cs:List jv}{vs:List eG}{rs:List zL}(h:Et w wv cv vv rv ws cs vs rs):Fn Tryz.prog 41 [.agg #[wv,cv,vv,rv]].toArray w [] (fun u _=>∃ n:Int,u=.int .i64 n∧(n≤1500→al2 ws cs vs rs)):=by
 obtain⟨q,cap,rfl,_,l1⟩:=h.ws.opened;obtain⟨q2,cap2,rfl,hne2,l2⟩:=h.cs.rows.opened;obtain⟨q3,cap3,rfl,jG,l3⟩:=h.vs.rows.opened;obtain⟨q4,cap4,rfl,_,l4⟩:=h.rs.opened;refine enter Tryz.func41 ?_;refine run ?_;intro B;refine run ?_;refine aK (σ:=Nat×Int) (fun s=>[(3,.int .i64 s.2),(4,.int .i64 (s.1:Int))]) (fun s=>[⟨B,#[.slice q ws.length cap,.slice q2 cs.length cap2,.slice q3 vs.length cap3,.slice q4 rs.length cap4],29⟩]) (fun s=>s.1≤cs.length∧(ws.length:Int)+cs.length+vs.length+rs.length≤s.2∧s.2≤3000000000000000∧∀ j,j<s.1→((cs.getD j default).t.es.length:Int)+(cs.getD j default).t.ds.length≤s.2) (fun s=>cs.length-s.1) (0,(ws.length:Int)+cs.length+vs.length+rs.length) ⟨bI1 _,by simp,by dsimp only;omega,fun j hj=>absurd hj bB5⟩ ?_;rintro⟨k,n⟩ m hm ⟨hk,h0,h1,h2⟩;dsimp only at hm hk h0 h1 h2 ⊢;refine aC ?_;refine ah _ rfl (fun hc=>?_) (fun hc=>?_)
 ·simp only[bH6,decide_eq_true_eq] at hc;have hlt:k<cs.length:=by omega
  obtain⟨b,o,rfl⟩:=hne2 bC';have hr:=h.cs.rows.row hlt;have ha1:=h.cs.en _ (getD_mem (l:=cs) hlt);have ha2:=h.cs.iv _ (getD_mem (l:=cs) hlt);obtain⟨_,_,_,_,b1⟩:=ha1.opened;obtain⟨_,_,_,_,b2⟩:=ha2.opened;have aP8:=aV (k:=17) (n:=2) hr rfl;refine run ?_;refine az (fun wc hG=>U9 (cs.getD k default).t.es.length (cs.getD k default).t.ds.length (cs.getD k default).t.ec (cs.getD k default).t.dc (cs.getD k default).t.ep (cs.getD k default).t.dp wc b1 b2) ?_;refine run ?_;refine aF (k+1,n+(((cs.getD k default).t.es.length:Int)+(cs.getD k default).t.ds.length)) ⟨by omega,by dsimp only;omega,by dsimp only;omega,fun j hj=>?_⟩;dsimp only at hj ⊢;rcases bJ0.1 hj with hj | rfl
  ·have:=h2 j hj;omega
  ·omega
 refine run ?_;refine aK (σ:=Nat×Int) (fun s=>[(3,.int .i64 s.2),(5,.int .i64 (s.1:Int))]) (fun s=>[⟨B,#[.slice q ws.length cap,.slice q2 cs.length cap2,.slice q3 vs.length cap3,.slice q4 rs.length cap4],29⟩]) (fun s=>s.1≤vs.length∧n≤s.2∧s.2≤4000000000000000∧∀ j,j<s.1→((vs.getD j default).fs.length:Int)+(vs.getD j default).fr.length+(vs.getD j default).vs.length≤s.2) (fun s=>vs.length-s.1) (0,n) ⟨bI1 _,by simp,by dsimp only;omega,fun j hj=>absurd hj bB5⟩ ?_;rintro⟨k2,n2⟩ m2 hm2 ⟨hk2,g0,g1,g2⟩;dsimp only at hm2 hk2 g0 g1 g2 ⊢;refine aC ?_;refine ah _ rfl (fun hc2=>?_) (fun hc2=>?_)
 ·simp only[bH6,decide_eq_true_eq] at hc2;have hlt:k2<vs.length:=by omega
  obtain⟨b,o,rfl⟩:=jG bC';have hr:=h.vs.rows.row hlt;have ha1:=h.vs.fs _ (getD_mem (l:=vs) hlt);have ha2:=h.vs.fr _ (getD_mem (l:=vs) hlt);have ha3:=h.vs.vs _ (getD_mem (l:=vs) hlt);obtain⟨_,_,_,_,b1⟩:=ha1.opened;obtain⟨_,_,_,_,b2⟩:=ha2.opened;obtain⟨_,_,_,_,b3⟩:=ha3.opened;have hc3:=cO (k:=3) hr rfl;have hc4:=cO (k:=4) hr rfl;have hc5:=cO (k:=5) hr rfl;refine run ?_;refine gU 25 ?_;refine dI ?_;refine run ?_;refine aF (k2+1,n2+((vs.getD k2 default).fs.length:Int)+((vs.getD k2 default).fr.length:Int)+((vs.getD k2 default).vs.length:Int)) ⟨by omega,by dsimp only;omega,by dsimp only;omega,fun j hj=>?_⟩;dsimp only at hj ⊢;rcases bJ0.1 hj with hj | rfl
  ·have:=g2 j hj;omega
  ·omega
 refine run ?_;refine fin1 ?_;refine⟨n2,rfl,fun hn=>?_⟩;simp only[bN7,decide_eq_false_iff_not] at hc hc2;have e1:k=cs.length:=by omega
 have e2:k2=vs.length:=by omega
 subst e1 e2;refine⟨⟨by omega,by omega,by omega,by omega⟩,fun c hc=>?_,fun v hv=>?_⟩
 ·obtain⟨j,hj,rfl⟩:=PtD.zA hc;have:=h2 j hj;omega
 ·obtain⟨j,hj,rfl⟩:=PtD.zA hv;have:=g2 j hj;omega
theorem Va{vv rv:Value}{ws:List Nat}{cs:List jv}{vs:List eG}{rs:List zL}(h:Et w wv cv vv rv ws cs vs rs):Fn Tryz.prog 22 [.agg #[wv,cv,vv,rv]].toArray w [] (fun u _=>∃ b,u=.bool b∧(b=false→al2 ws cs vs rs)):=by
 have h':=h;obtain⟨q,cap,rfl,_,l1⟩:=h.ws.opened;obtain⟨q2,cap2,rfl,hne2,l2⟩:=h.cs.rows.opened;obtain⟨q3,cap3,rfl,jG,l3⟩:=h.vs.rows.opened;obtain⟨q4,cap4,rfl,_,l4⟩:=h.rs.opened;refine enter Tryz.func22 ?_;refine run ?_;intro B;refine run ?_;refine QE (fun wc hG=>Qg (h'.good hG)) ?_;rintro _ ⟨n,rfl,hn⟩;refine run ?_;refine fin1 ⟨_,rfl,fun hb=>hn ?_⟩;have:=of_decide_eq_false hb;omega
theorem Vd{vv rv:Value}{ws:List Nat}{cs:List jv}{vs:List eG}{rs:List zL}(h:Et w wv cv vv rv ws cs vs rs){lp:Option Addr}{ln lc:Nat}:Fn Tryz.prog 13 [.agg #[wv,cv,vv,rv,.slice lp ln lc]].toArray w [] (fun u _=>∃ b,u=.bool b∧(b=false→al2 ws cs vs rs)):=by
 have h':=h;obtain⟨q,cap,rfl,_,l1⟩:=h.ws.opened;obtain⟨q2,cap2,rfl,hne2,l2⟩:=h.cs.rows.opened;obtain⟨q3,cap3,rfl,jG,l3⟩:=h.vs.rows.opened;obtain⟨q4,cap4,rfl,_,l4⟩:=h.rs.opened;refine enter Tryz.func13 ?_;refine run ?_;intro B;refine run ?_;refine QE (fun wc hG=>Va (h'.good hG)) ?_;rintro _ ⟨b,rfl,hn⟩;refine aC ?_;refine fin1 ⟨_,rfl,fun hb=>hn ?_⟩
 cases b with
 | false=>rfl
 | true=>simp at hb
structure F8(w:World)(wv cv vv rv lv:Value)(H:HyD)(A:List ER):Prop where
 hy:∃ cs vs,cs.map jv.u=H.cs∧vs.map eG.u=H.vs∧(∀ c∈cs,c.t.es.length≤c.t.ec)∧Et w wv cv vv rv H.ws cs vs H.rs
 cap:∃ q c,vv=.slice q H.vs.length c∧H.vs.length≤c
 EG:∃ q c,wv=.slice q H.ws.length c∧H.ws.length≤c
 cn:∀ c∈H.cs,I64 c.vm∧I64 c.vc
 vn:∀ v∈H.vs,(∀ x∈v.fs,I64 x)∧(∀ x∈v.fr,I64 x)∧(∀ c∈v.vs,I64 c.on)
 l:aA w lv 8 (A.map ai3)
 wf:∀ a∈A,a.Wf
theorem F8.hv{w:World}{wv cv vv rv lv:Value}{H:HyD}{A:List ER}(h:F8 w wv cv vv rv lv H A)(hl:∃ cs vs,cs.map jv.u=H.cs∧vs.map eG.u=H.vs∧al2 H.ws cs vs H.rs):vw w wv cv vv rv H:=by
 obtain⟨cs,vs,e1,e2,⟨⟨l1,l2,l3,l4⟩,l5,l6⟩⟩:=hl;have hc:cs.length=H.cs.length:=by rw[←e1,bH7]
 have hv:vs.length=H.vs.length:=by rw[←e2,bH7]
 refine⟨⟨⟨by omega,by omega,by omega,by omega⟩,fun c hc=>?_,fun v hv=>?_⟩,h.cap,h.EG,h.hy⟩
 ·have:=h.cn c hc;rw[←e1] at hc;obtain⟨x,hx,rfl⟩:=bI7.1 hc;have h5:=l5 x hx;exact⟨by simp only[jv.u];omega,by simp only[jv.u];omega,this.1,this.2⟩
 ·have:=h.vn v hv;rw[←e2] at hv;obtain⟨x,hx,rfl⟩:=bI7.1 hv;have h5:=l6 x hx;exact⟨by simp only[eG.u];omega,by simp only[eG.u];omega,by simp only[eG.u];omega,this.1,this.2.1,this.2.2⟩
theorem Zk{K:Int}(hK:aE6 K)(hKi:I64 K){vv rv lv:Value}{A:List ER}(h:F8 w wv cv vv rv lv H A):Fn Tryz.prog 21 [.agg #[wv,cv,vv,rv,lv],.int .i64 K].toArray w [] (fun u _=>u=.bool true):=by
 have h':=h;obtain⟨cs,vs,e1,e2,_,hH⟩:=h.hy;have hcl:cs.length=H.cs.length:=by rw[←e1,bH7]
 have hH':=hH;obtain⟨q,cap,rfl,hne,_⟩:=hH.ws.opened;obtain⟨q2,cap2,rfl,hne2,_⟩:=hH.cs.rows.opened;obtain⟨q3,cap3,rfl,jG,_⟩:=hH.vs.rows.opened;obtain⟨q4,cap4,rfl,oV,_⟩:=hH.rs.opened;obtain⟨q5,cap5,rfl,hne5,_⟩:=h.l.opened;refine enter Tryz.func21 ?_;refine run ?_;intro Pb;refine run ?_;refine QE (fun wc hG=>Vd (hH'.good hG)) ?_;rintro _ ⟨b,rfl,hn⟩;refine run ?_;refine ah _ rfl (fun hc=>?_) (fun hc=>?_)
 ·refine run ?_;exact fin1 rfl
 have hv:=h'.hv ⟨cs,vs,e1,e2,hn hc⟩;refine run ?_;refine aK (σ:=Nat) (fun k=>[(5,.int .i64 (k:Int))]) (fun _=>[⟨Pb,#[.slice q H.ws.length cap,.slice q2 cs.length cap2,.slice q3 vs.length cap3,.slice q4 H.rs.length cap4,.slice q5 A.length cap5],32⟩]) (fun k=>k≤A.length) (fun k=>A.length-k) 0 (bI1 _) ?_;rintro k m hm hk;refine aC ?_;refine ah _ rfl (fun hc2=>?_) (fun hc2=>?_)
 ·have hlt:k<A.length:=by simp only[bH6,decide_eq_true_eq] at hc2;omega
  obtain⟨b5,o5,rfl⟩:=hne5 bC';have hr:=h.l.row hlt;have hwf:=h.wf _ (getD_mem (l:=A) hlt);generalize A.getD k default=a at hr hwf;obtain⟨ac,k_,n_,uA,mV,Bi,Qe,st_⟩:=a;simp only[ai3] at hr;refine run ?_;intro Ab;refine run ?_;refine aK (σ:=Nat×Int) (fun s=>[(7,.int .i64 (s.1:Int))]) (fun s=>[⟨Ab,#[.int .i64 s.2,.int .i64 K,.int .i64 n_,.int .i64 uA,.int .i64 mV,.int .i64 Bi,.int .i64 Qe,.bool false],39⟩,⟨Pb,#[.slice q H.ws.length cap,.slice q2 cs.length cap2,.slice q3 vs.length cap3,.slice q4 H.rs.length cap4,.slice (some ⟨b5,o5,none⟩) A.length cap5],32⟩]) (fun s=>s.1≤cs.length) (fun s=>cs.length-s.1) (0,ac) (bI1 _) ?_;rintro⟨p,z⟩ m2 hm2 hp2;dsimp only at hm2 hp2 ⊢;refine aC ?_;refine ah _ rfl (fun hc3=>?_) (fun hc3=>?_)
  ·have hlp:p<cs.length:=by simp only[bH6,decide_eq_true_eq] at hc3;omega
   refine run ?_;refine QE (fun wc hG=>Zj hK (hv.good hG) K n_ uA mV Bi Qe p bB3 rfl ⟨hwf.vm,hwf.frame,hwf.mid,hwf.kX⟩) ?_;rintro _ ⟨t1,t2,t3,t4,j1,j2,j3,j4,i1,i2,i3,i4,rfl⟩;refine run ?_;intro Zb;refine aP ?_;refine aF (p+1,(p:Int)) hlp (hm:=by omega) (h2:=by (exact ak))
  refine run ?_;refine aF (k+1) hlt (h2:=by (exact ak))
 refine run ?_;refine az (fun wc hG=>U7 wc) ?_;refine aP ?_;exact fin1 rfl
end
section
open Go.ChangeShapes Go.WideShapes Go.ChangeAt Go.RowKit
attribute [local irreducible] Hy St Ops DH dH jg iP gQ DS gX lJ
theorem F8.good{w':World}{hp:Hp}{vv rv lv:Value}{A:List ER}(h:F8 w wv cv vv rv lv H A)(hG:Good w [] hp w'):F8 w' wv cv vv rv lv H A:=by
 obtain⟨cs,vs,e1,e2,e3,h5⟩:=h.hy;exact⟨⟨cs,vs,e1,e2,e3,h5.good hG⟩,h.cap,h.EG,h.cn,h.vn,h.l.good hG,h.wf⟩
theorem Zl{cs:List Value}(h:jB [.i .u64,.i .u64,.i .u64,.i .u64,.i .u64,.i .u64,.i .u64,.i .u64,.i .u64,.i .u64,.i .u64,.i .u64,.i .u64,.i .u64,.i .u64,.i .i64] cs=true):∃ c:Az,cs=wR c∧I64 c.on:=by
 obtain⟨_,_,rfl,h0,r0⟩:=aH h;obtain⟨_,_,rfl,h1,r1⟩:=aH r0;obtain⟨_,_,rfl,h2,r2⟩:=aH r1;obtain⟨_,_,rfl,h3,r3⟩:=aH r2;obtain⟨_,_,rfl,h4,r4⟩:=aH r3;obtain⟨_,_,rfl,h5,r5⟩:=aH r4;obtain⟨_,_,rfl,h6,r6⟩:=aH r5;obtain⟨_,_,rfl,h7,r7⟩:=aH r6;obtain⟨_,_,rfl,h8,r8⟩:=aH r7;obtain⟨_,_,rfl,h9,r9⟩:=aH r8;obtain⟨_,_,rfl,h10,r10⟩:=aH r9;obtain⟨_,_,rfl,h11,r11⟩:=aH r10;obtain⟨_,_,rfl,h12,r12⟩:=aH r11;obtain⟨_,_,rfl,h13,r13⟩:=aH r12;obtain⟨_,_,rfl,h14,r14⟩:=aH r13;obtain⟨_,_,rfl,h15,r15⟩:=aH r14;obtain⟨a0,rfl,b0⟩:=iM h0;obtain⟨a1,rfl,b1⟩:=iM h1;obtain⟨a2,rfl,b2⟩:=iM h2;obtain⟨a3,rfl,b3⟩:=iM h3;obtain⟨a4,rfl,b4⟩:=iM h4;obtain⟨a5,rfl,b5⟩:=iM h5;obtain⟨a6,rfl,b6⟩:=iM h6;obtain⟨a7,rfl,b7⟩:=iM h7;obtain⟨a8,rfl,b8⟩:=iM h8;obtain⟨a9,rfl,b9⟩:=iM h9;obtain⟨a10,rfl,b10⟩:=iM h10;obtain⟨a11,rfl,b11⟩:=iM h11;obtain⟨a12,rfl,b12⟩:=iM h12;obtain⟨a13,rfl,b13⟩:=iM h13;obtain⟨a14,rfl,b14⟩:=iM h14;obtain⟨a15,rfl,b15⟩:=kP h15;obtain rfl:=kM r15;exact⟨⟨⟨a0,a1,a2,a3,a4,a5,a6,a7,a8,a9,a10,a11,a12,a13,a14⟩,a15⟩,rfl,b15⟩
section
variable {H : Type} {enc : TypeId × Value → H} {w : World} {base : Nat} {spare : Nat → Bool} {held : Bool}
theorem NG{cs:List Value}{x:DataW H×List MemPlace}(h:DataW.trod enc Tryz.prog w base spare held fuel 60 cs=some x)(hz:FI Tryz.prog 60 x.1):∃ v,∃ xs:List Az,cs=[v]∧aA w v 16 (xs.map wR)∧(∀ a∈xs,I64 a.on)∧xs.length≤reachBytes:=
 nD (f:=wR) (q:=fun c=>I64 c.on) (ks:=[.i .u64,.i .u64,.i .u64,.i .u64,.i .u64,.i .u64,.i .u64,.i .u64,.i .u64,.i .u64,.i .u64,.i .u64,.i .u64,.i .u64,.i .u64,.i .i64]) Tryz.underlying60 bC3 (aB.zO (t:=102) (s:=16) rfl) bB4 bC3 (fun cs hc=>Zl hc) h hz
def eG.zI(w:World)(m:eG):Prop:=(aA w m.fv 1 (m.fs.map bY)∧aA w m.rv 1 (m.fr.map bY)∧aA w m.vv 16 (m.vs.map wR))∧(∀ x∈m.fs,I64 x)∧(∀ x∈m.fr,I64 x)∧(∀ c∈m.vs,I64 c.on)
theorem Zm{cs:List Value}{x:DataW H×List MemPlace}(h:DataW.trod enc Tryz.prog w base spare held fuel 62 cs=some x)(hz:FI Tryz.prog 62 x.1):∃ m:eG,cs=mW m∧m.zI w:=by
 obtain⟨hl,n,hf⟩:=lU Tryz.underlying62 h hz;rw[jE (show fK Tryz.prog 62=some 6 from aB.zO rfl)] at hl
 match cs,hl with
 | [c0,c1,c2,c3,c4,c5],_=>
  have c1s:Tryz.prog.cellsOf 4=1:=by kernel_rfl
  have c2s:Tryz.prog.cellsOf 3=1:=by kernel_rfl
  have c3s:Tryz.prog.cellsOf 59=1:=by kernel_rfl
  have c4s:Tryz.prog.cellsOf 60=1:=by kernel_rfl
  obtain⟨_,h0,_⟩:=hf 0 _ rfl;obtain⟨_,h1,_⟩:=hf 1 _ rfl;obtain⟨_,h2,_⟩:=hf 2 _ rfl;obtain⟨_,h3,z3⟩:=hf 3 _ rfl;obtain⟨_,h4,z4⟩:=hf 4 _ rfl;obtain⟨_,h5,z5⟩:=hf 5 _ rfl;simp only[bU0,bT2,bT3,c1s,c2s,c3s,c4s,bL',bL2,bL7,bN0] at h0 h1 h2 h3 h4 h5 z3 z4 z5;obtain⟨b0,e0⟩:=Q5 (ku 8 4 [.b] bC3 bC3 _ _ _ h0);obtain⟨b1,e1⟩:=Q5 (ku 8 4 [.b] bC3 bC3 _ _ _ h1);obtain⟨k2,e2,_⟩:=DataW.trod_int Tryz.underlying3 h2;obtain⟨v3,fs,e3,s3,i3,l3⟩:=EC h3 z3;obtain⟨v4,fr,e4,s4,i4,l4⟩:=EC h4 z4;obtain⟨v5,vs,e5,s5,o5,l5⟩:=NG h5 z5;obtain⟨p3,q3,rfl,_,_⟩:=s3.opened;obtain⟨p4,q4,rfl,_,_⟩:=s4.opened;obtain⟨p5,q5,rfl,_,_⟩:=s5.opened;cases e0;cases e1;cases e2;cases e3;cases e4;cases e5;exact⟨⟨b0,b1,k2,fs,p3,q3,fr,p4,q4,vs,p5,q5⟩,rfl,⟨s3,s4,s5⟩,i3,i4,o5⟩
theorem Ve{cs:List Value}{x:DataW H×List MemPlace}(h:DataW.trod enc Tryz.prog w base spare held fuel 26 cs=some x)(hz:FI Tryz.prog 26 x.1):∃ v,∃ ms:List eG,cs=[v]∧yT w v ms∧(∀ m∈ms,m.zI w)∧ms.length≤reachBytes:=by
 obtain⟨p,xs,cap,rfl,hl,hr⟩:=vW (α:=eG) (R:=fun cs m=>cs=mW m∧m.zI w) Tryz.underlying26 (aB.zO (t:=62) (s:=6) rfl) bB4 bC3 (fun n cs x hx hz=>Zm hx hz) h hz;obtain⟨h1,h2⟩:=vY (f:=mW) (q:=fun m=>m.zI w) hl hr;exact⟨_,xs,rfl,⟨h1,fun m hm=>(h2 m hm).1.1,fun m hm=>(h2 m hm).1.2.1,fun m hm=>(h2 m hm).1.2.2⟩,h2,hl⟩
def jv.zI(w:World)(c:jv):Prop:=(aA w c.t.ev 14 (c.t.es.map iy)∧aA w c.t.dv 4 (c.t.ds.map lg))∧c.t.es.length≤c.t.ec∧I64 c.vm∧I64 c.vc
theorem BR{cs:List Value}(h:jB [.i .i64] cs=true):∃ a,cs=[.int .i64 a]∧I64 a:=by
 obtain⟨_,_,rfl,h1,h⟩:=aH h;obtain rfl:=kM h;obtain⟨a,rfl,ha⟩:=kP h1;exact⟨a,rfl,ha⟩
theorem Vf{cs:List Value}{x:DataW H×List MemPlace}(h:DataW.trod enc Tryz.prog w base spare held fuel 74 cs=some x)(hz:FI Tryz.prog 74 x.1):∃ c:jv,cs=qY c∧c.zI w:=by
 obtain⟨hl,n,hf⟩:=lU Tryz.underlying74 h hz;rw[jE (show fK Tryz.prog 74=some 19 from aB.zO rfl)] at hl
 match cs,hl with
 | [c0,c1,c2,c3,c4,c5,c6,c7,c8,c9,c10,c11,c12,c13,c14,c15,c16,c17,c18],_=>
  have s1:Tryz.prog.cellsOf 68=15:=by kernel_rfl
  have s2:Tryz.prog.cellsOf 3=1:=by kernel_rfl
  have s3:Tryz.prog.cellsOf 72=2:=by kernel_rfl
  obtain⟨_,h0,z0⟩:=hf 0 _ rfl;obtain⟨_,h1,z1⟩:=hf 1 _ rfl;obtain⟨_,h2,z2⟩:=hf 2 _ rfl;obtain⟨_,h3,z3⟩:=hf 3 _ rfl;simp only[bU0,bT2,bT3,s1,s2,s3,bL',bL2,bL7,bN0] at h0 z0 h1 z1 h2 z2 h3 z3;obtain⟨r,e0,r0⟩:=Q4 (ku 8 68 [.i .u64,.i .u64,.i .u64,.i .u64,.i .u64,.i .u64,.i .u64,.i .u64,.i .u64,.i .u64,.i .u64,.i .u64,.i .u64,.i .u64,.i .u64] bC3 bC3 _ _ _ h0);obtain⟨_,e1,b1⟩:=BR (ku 8 3 [.i .i64] bC3 bC3 _ _ _ h1);obtain⟨_,e2,b2⟩:=BR (ku 8 3 [.i .i64] bC3 bC3 _ _ _ h2);obtain⟨t,e3,t1,t2,t3,_,_⟩:=XK h3 z3;cases e0;cases e1;cases e2;cases e3;exact⟨⟨r,_,_,t⟩,rfl,⟨t1,t2⟩,t3,b1,b2⟩
theorem Qh{cs:List Value}{x:DataW H×List MemPlace}(h:DataW.trod enc Tryz.prog w base spare held fuel 25 cs=some x)(hz:FI Tryz.prog 25 x.1):∃ v,∃ ms:List jv,cs=[v]∧AA w v ms∧(∀ m∈ms,m.zI w)∧ms.length≤reachBytes:=by
 obtain⟨p,xs,cap,rfl,hl,hr⟩:=vW (α:=jv) (R:=fun cs m=>cs=qY m∧m.zI w) Tryz.underlying25 (aB.zO (t:=74) (s:=19) rfl) bB4 bC3 (fun n cs x hx hz=>Vf hx hz) h hz;obtain⟨h1,h2⟩:=vY (f:=qY) (q:=fun m=>m.zI w) hl hr;exact⟨_,xs,rfl,⟨h1,fun m hm=>(h2 m hm).1.1,fun m hm=>(h2 m hm).1.2⟩,h2,hl⟩
theorem Fg{cs:List Value}{x:DataW H×List MemPlace}(h:DataW.trod enc Tryz.prog w base spare held fuel 32 cs=some x)(hz:FI Tryz.prog 32 x.1):∃ a b c d lv HH L,cs=[a,b,c,d,lv]∧F8 w a b c d lv HH L:=by
 obtain⟨hl,n,hf⟩:=lU Tryz.underlying32 h hz;rw[jE (show fK Tryz.prog 32=some 5 from aB.zO rfl)] at hl
 match cs,hl with
 | [c0,c1,c2,c3,c4],_=>
  have s2:Tryz.prog.cellsOf 29=4:=by kernel_rfl
  have s3:Tryz.prog.cellsOf 30=1:=by kernel_rfl
  have s4:Tryz.prog.cellsOf 24=1:=by kernel_rfl
  have s5:Tryz.prog.cellsOf 25=1:=by kernel_rfl
  have s6:Tryz.prog.cellsOf 26=1:=by kernel_rfl
  have s7:Tryz.prog.cellsOf 27=1:=by kernel_rfl
  have s8:Tryz.prog.cellsOf 22=1:=by kernel_rfl
  obtain⟨_,h1,z1⟩:=hf 0 _ rfl;obtain⟨_,h2,z2⟩:=hf 1 _ rfl;simp only[bU0,bT2,bT3,s2,s3,bL',bL2,bL7,bN0] at h1 h2 z1 z2;obtain⟨_,n2,hg⟩:=lU Tryz.underlying29 h1 z1;obtain⟨_,g0,y0⟩:=hg 0 _ rfl;obtain⟨_,g1,y1⟩:=hg 1 _ rfl;obtain⟨_,g2,y2⟩:=hg 2 _ rfl;obtain⟨_,g3,y3⟩:=hg 3 _ rfl;simp only[bU0,bT2,bT3,s4,s5,s6,s7,bL',bL2,bL7,bN0] at g0 g1 g2 g3 y0 y1 y2 y3;obtain⟨_,n3,hk⟩:=lU Tryz.underlying24 g0 y0;obtain⟨_,k0,x0⟩:=hk 0 _ rfl;simp only[bU0,bT2,bT3,s8,bL',bL7,bN0] at k0 x0;obtain⟨wv,ws,e1,m1,w1,l1⟩:=O3 k0 x0;obtain⟨cv,cs,e2,m2,w2,l2⟩:=Qh g1 y1;obtain⟨vv,vs,e3,m3,w3,l3⟩:=Ve g2 y2;obtain⟨rv,rs,e4,m4,w4,l4⟩:=O4 g3 y3;obtain⟨lv,L,e5,l5,wf⟩:=UD h2 z2;obtain⟨p1,q1,rfl,_,_⟩:=m1.opened;obtain⟨p3,q3,rfl,_,_⟩:=m3.rows.opened;cases e1;cases e2;cases e3;cases e4;cases e5;refine⟨_,_,_,_,_,⟨ws,cs.map jv.u,vs.map eG.u,rs⟩,L,rfl,⟨cs,vs,rfl,rfl,fun c hc=>(w2 c hc).2.1,w1,m1,m2,m3,m4⟩,⟨p3,q3,?_,?_⟩,⟨p1,q1,rfl,ED Tryz.underlying22 k0⟩,fun c hc=>?_,fun v hv=>?_,l5,wf⟩
  ·dsimp only;rw[bH7]
  ·dsimp only;rw[bH7];exact ED Tryz.underlying26 g2
  ·obtain⟨x,hx,rfl⟩:=bI7.1 hc;exact (w2 x hx).2.2
  ·obtain⟨x,hx,rfl⟩:=bI7.1 hv;exact (w3 x hx).2
end
theorem F9{vv rv lv:Value}{A:List ER}(h:F8 w wv cv vv rv lv H A):Fn Tryz.prog 12 [.agg #[wv,cv,vv,rv,lv]].toArray w [] (fun u _=>u=.bool true):=by
 have h':=h;obtain⟨cs,vs,e1,e2,_,hH⟩:=h.hy;obtain⟨q,cap,rfl,hne,_⟩:=hH.ws.opened;obtain⟨q2,cap2,rfl,hne2,_⟩:=hH.cs.rows.opened;obtain⟨q3,cap3,rfl,jG,_⟩:=hH.vs.rows.opened;obtain⟨q4,cap4,rfl,oV,_⟩:=hH.rs.opened;obtain⟨q5,cap5,rfl,hne5,_⟩:=h.l.opened;refine enter Tryz.func12 ?_;refine run ?_;intro Pb;refine run ?_;refine az (fun wc hG=>Zk aE7 (by unfold I64;omega) (h'.good hG)) ?_;refine run ?_;exact fin1 rfl
end
end Go.Proofs.YtellmabgmnbhcaaGreat
