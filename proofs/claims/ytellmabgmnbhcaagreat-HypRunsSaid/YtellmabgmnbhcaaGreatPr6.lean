/- Texts of one's own, merged: the engine, what the functions do, plain laws. -/
import Derived.Test.YtellmabgmnbhcaaGreatPr5
namespace Go.Proofs.YtellmabgmnbhcaaGreat
open Go.RowKit
set_option linter.unusedVariables false
set_option linter.unusedSimpArgs false
set_option maxRecDepth 20000
variable {w:World}{v wv cv:Value}{P:PtD}{k X fuel:Nat}{H:HyD}
section
attribute [local irreducible] Hy St Ops DH dI
theorem YB{ha:Hp}(xs:List jT)(i:Nat)(x:jT)(vb tv:Nat)(hA:Own 173 2 v ha (xs.map eu))(hN:eU ha w)(hvb:w.heap[vb]?=some (.cells (eu x).toArray tv (0,0)))(hne:vb∉ha.map (·.b))(hi:i≤xs.length)(hl:xs.length<100000):
  Fn Tryz.prog 301 [v,.int .i64 (i:Int),.slice (some ⟨vb,0,none⟩) 1 1].toArray w (ha.map (·.b)) (fun u hn=>Own 173 2 u hn ((xs.take i++x::xs.drop i).map eu)):=by
 obtain⟨q,cap,ev⟩:=hA.opened;rw[bG9] at ev;subst ev;refine eH _ hN Tryz.func301 ?_;have Zl:w.rangeAt vb 0 (eu x):=fun j u hj=>by rw[bJ4,cell_of_block hvb];simpa using hj
 refine aN ?_;refine jL bA9 (zY aB rfl rfl rfl bA4 bA4) ?_;refine aN ?_;refine ah _ rfl (fun hc=>?_) (fun hc=>?_)
 ·have hin:i=xs.length:=by simp at hc;omega
  subst hin;refine aN ?_;refine wu (c:=eu x) [] hA (fun v' ha' hA'=>?_) bA7 (yx Zl hne) (by rw[bI3]);refine aN ?_;refine fin1 ?_;rw[bI3,bM6,List.drop_length,bI6];exact hA'
 have hlt:i<xs.length:=by simp at hc;omega
 obtain⟨g,cap',cur,ev,rfl,hr⟩:=hA.row (n:=xs.length) bA6 bA4;cases ev;have hsz:=hr.size;have hcap:=hr.le;have hmax:=hr.max;have hall:=hA.1;have hlen:(xs.map eu).flatten.length=xs.length*2:=hr.len;simp only[bL0,bO0,bM5] at hne;have hxs:(xs.map eu).flatten=((xs.take i).map eu).flatten++((xs.drop i).map eu).flatten:=by rw[←bT9,←bI6,bY2]
 have hTl:((xs.take i).map eu).flatten.length=i*2:=by rw[dU (sz:=2) _ (fun c hc=>(Ba c hc).1),bG9,bK1,bO9 bA4]
 have hDl:((xs.drop i).map eu).flatten.length=(xs.length-i)*2:=by rw[dU (sz:=2) _ (fun c hc=>(Ba c hc).1),bG9,bN0]
 have hA0:cur.toList.take (i*2)=((xs.take i).map eu).flatten:=by
  rw[←bO9 (show i*2≤xs.length*2 by omega),←bW2,hr.take,hxs];exact bU3 hTl
 have hD:(cur.toList.drop (i*2)).take ((xs.length-i)*2)=((xs.drop i).map eu).flatten:=by
  have h1:=hr.take;rw[hxs] at h1;have h2:(cur.toList.take (xs.length*2)).drop (i*2)=((xs.drop i).map eu).flatten:=by rw[h1];exact List.drop_left' hTl
  rw[List.drop_take] at h2;rw[←h2];congr 1;omega
 have hD1:(((xs.drop i).map eu).flatten).all (·.oneCell')=true:=by
  rw[List.all_flatten,bH1];exact fun c hc=>(Ba c hc).2
 have hlen2:((xs.take i++x::xs.drop i).map eu).length=xs.length+1:=by
  simp only[bG9,bJ0,bK1,bK8,bN0];omega
 have hall':∀ c∈(xs.take i++x::xs.drop i).map eu,c.length=2∧c.all (·.oneCell')=true:=Ba;refine aN ?_;refine jL bA9 (aH' aB rfl rfl) ?_;refine aN ?_;refine ah _ rfl (fun hroom=>?_) (fun hroom=>?_)
 ·have hroom':cap<xs.length+1:=by simp at hroom;omega
  refine aN ?_;refine jL bA9 (pW aB rfl rfl rfl bA4 bA4 (m':=i) bA6 (.inr ⟨_,_,rfl⟩)) ?_;refine aN ?_;rw[show ((xs.length+1:Nat):Int)-(i:Int)=((xs.length+1-i:Nat):Int) by omega];refine SH (olds:=((xs.take i).map eu).flatten) aB bA9 rfl rfl rfl rfl rfl rfl rfl rfl hTl (aY (m:=i*2) mh (by rw[bL1];exact hA0)) bA4 bA4 bA4 bA4 (fun g2 cap2 UD hs2 hc2 hm2 ht2=>?_);have hts:i+(xs.length+1-i)=xs.length+1:=by omega
  rw[hts] at hc2 ⊢;refine aN ?_;refine jL bA9 (mg aB rfl rfl rfl bA4 bA4 bA4 (o':=i*2) (m':=xs.length+1-i) (c':=cap2-i) bA6 bA6 bA6) ?_;refine aN ?_;refine IK (news:=eu x) (cs:=UD) aB bA9 rfl rfl rfl (.refl _) ?_ ?_ rfl ?_ ?_
  ·show 2=_;omega
  ·exact yx Zl bG5
  ·show i*2+2≤_;omega
  refine aN ?_;refine eP 8 ?_;refine dF ?_;refine NI (mg aB rfl rfl rfl bA4 bA4 bA4 (o':=i*2+2) (m':=xs.length-i) (c':=cap2-(i+1)) bA4 bA4 bA4) ?_;refine dF ?_;refine NI (mg aB rfl rfl rfl bA4 bA4 bA4 (o':=i*2) (m':=xs.length-i) (c':=cap-i) bA4 bA4 bA4) ?_;refine dF ?_;refine aN ?_;refine IK (news:=((xs.drop i).map eu).flatten) aB bA9 rfl rfl rfl (.refl _) ?_ (aY (m:=(xs.length-i)*2) (mt mh) hD) ?_ ?_ ?_
  ·rw[hDl];omega
  ·exact hD1
  ·rw[dP,hDl];omega
  refine aS [⟨g2,putAt (putAt UD (i*2) (eu x)) (i*2+2) ((xs.drop i).map eu).flatten,173⟩] aj ?_;refine aN ?_;refine fin1 ?_;have hfl:((xs.take i++x::xs.drop i).map eu).flatten=((xs.take i).map eu).flatten++eu x++((xs.drop i).map eu).flatten:=by simp
  have hb:=Ob (cs:=UD) (A:=((xs.take i).map eu).flatten) (c:=eu x) (D:=((xs.drop i).map eu).flatten) (by rw[hTl];exact ht2) (by rw[hTl,hDl];show i*2+2+_≤_;omega);rw[hTl,hDl,show (eu x).length=2 from rfl] at hb;refine⟨hall',.inr ⟨g2,cap2,_,by rw[hlen2],rfl,?_⟩⟩;rw[hlen2];refine⟨by rw[hfl,bJ0,bJ0,hTl,hDl];show i*2+2+_=_;omega,hc2,hm2,by rw[dP,dP];exact hs2,?_⟩;rw[hfl,←hb]
  congr 1;omega
 ·have hroom':xs.length+1≤cap:=by simp at hroom;omega
  refine aN ?_;refine jL bA9 (pW aB rfl rfl rfl bA4 bA4 (m':=xs.length+1) bA4 (.inr ⟨_,_,rfl⟩)) ?_;refine aN ?_;refine jL bA9 (mg aB rfl rfl rfl bA4 bA4 bA4 (o':=i*2+2) (m':=xs.length-i) (c':=cap-(i+1)) bA4 bA4 bA4) ?_;refine aN ?_;refine jL bA9 (aH9 (v:=.bool false) rfl (fun w' hG=>?_)) ?_
  ·have hg:=hG.here ⟨g,cur,173⟩ bA6
   have hv':w'.heap[vb]?=some (.cells (eu x).toArray tv (0,0)):=by
    rw[hG.old vb ?_ bG5]
    ·exact hvb
    ·exact (bJ8.1 hvb).1
   have hr:=Lib.run_overlaps_apart (P:=Tryz.prog) w' 92 4 173 (aB.zL (t:=92) (e:=173) (s:=2) rfl).1 2 (fun w=>run_sizeOf (aB.zL (t:=92) (e:=173) (s:=2) rfl).2 w) ⟨vb,0,none⟩ ⟨g,i*2+2,none⟩ 1 1 (xs.length-i) (cap-(i+1)) bG5 tv 173 2 cur.size (by simp only[World.shape?,hv'];rfl) (by simp only[World.shape?,hg]) bA4 (fV hv') (fV hv');rw[run_callFunc_extern Tryz.func338 bB6 bB6 bB6 (e:=Extern.SlicesOverlaps.overlaps #[92,92] #[4]) bB6];rw[show ([Value.slice (some ⟨vb,0,none⟩) 1 1,.slice (some ⟨g,i*2+2,none⟩) (xs.length-i) (cap-(i+1))]:List Value).toArray=#[Value.slice (some ⟨vb,0,none⟩) 1 1,.slice (some ⟨g,i*2+2,none⟩) (xs.length-i) (cap-(i+1))] from rfl,hr];rfl
  refine aN ?_;refine eP 8 ?_;refine dF ?_;refine NI (mg aB rfl rfl rfl bA4 bA4 bA4 (o':=i*2+2) (m':=xs.length-i) (c':=cap-(i+1)) bA4 bA4 bA4) ?_;refine dF ?_;refine NI (mg aB rfl rfl rfl bA4 bA4 bA4 (o':=i*2) (m':=xs.length+1-i) (c':=cap-i) bA4 bA4 bA4) ?_;refine dF ?_;refine aN ?_;refine IK (news:=((xs.drop i).map eu).flatten) aB bA9 rfl rfl rfl (.refl _) ?_ (aY (m:=(xs.length-i)*2) mh hD) ?_ ?_ ?_
  ·rw[hDl];omega
  ·exact hD1
  ·rw[hDl];omega
  refine aN ?_;refine jL bA9 (mg aB rfl rfl rfl bA4 bA4 bA4 (o':=i*2) (m':=xs.length+1-i) (c':=cap-i) bA4 bA4 bA4) ?_;refine aN ?_;refine IK (news:=eu x) aB bA9 rfl rfl rfl (.refl _) ?_ ?_ rfl ?_ ?_
  ·show 2=_;omega
  ·exact yx Zl bG5
  ·rw[dP];show i*2+2≤_;omega
  refine aN ?_;refine fin1 ?_;have hfl:((xs.take i++x::xs.drop i).map eu).flatten=((xs.take i).map eu).flatten++eu x++((xs.drop i).map eu).flatten:=by simp
  have hb:=SI (cs:=cur) (A:=((xs.take i).map eu).flatten) (c:=eu x) (D:=((xs.drop i).map eu).flatten) (by rw[hTl];exact hA0) (by rw[hTl,hDl];show i*2+2+_≤_;omega);rw[hTl,hDl,show (eu x).length=2 from rfl] at hb;refine⟨hall',.inr ⟨g,cap,_,by rw[hlen2],rfl,?_⟩⟩;rw[hlen2];refine⟨by rw[hfl,bJ0,bJ0,hTl,hDl];show i*2+2+_=_;omega,hroom',hmax,by rw[dP,dP];exact hsz,?_⟩;rw[hfl,←hb]
  congr 1;omega
namespace PtD
def a02(l:List jT)(f:Int):List jT:=l.filter fun m=>!decide (m.dZ=f)
theorem UE{p:Nat→Bool}:∀ n,(∀ j,j<n→p j=false)∨∃ k,k<n∧p k=true∧∀ j,j<k→p j=false:=by
 intro n
 induction n with
 | zero=>exact .inl fun j hj=>absurd hj bA4
 | succ n ih=>
  rcases ih with h | ⟨k,hk,h1,h2⟩
  ·cases hn:p n
   ·refine .inl fun j hj=>?_;rcases bI1.1 hj with hj | rfl
    ·exact h j hj
    ·exact hn
   ·exact .inr ⟨n,by omega,hn,h⟩
  ·exact .inr ⟨k,by omega,h1,h2⟩
end PtD
end
section
attribute [local irreducible] Hy St Ops DH dI
namespace PtD
def MW(P:PtD)(f:Int):Except Int PtD:=
 bif !cZ f 16 ((P.pages.length:Int)-1) then .error 2 else bif decide ((P.pg f.toNat).own<1)||!(P.gs (ix (P.pg f.toNat).own)).dying then .error 7
 else .ok ((P.kL f.toNat ⟨0,-2⟩).iD (ix (P.pg f.toNat).own) { P.gs (ix (P.pg f.toNat).own) with dying:=(P.kL f.toNat ⟨0,-2⟩).owns (P.pg f.toNat).own })
end PtD
section
variable {P : PtD} {Y : Lay} {bx tx : Nat} {w : World}
end
end
section
attribute [local irreducible] Hy St Ops DH dI
section
variable {n : Nat} {w0 : World} {mu : List Nat} {l : Fm} {hp : Hp} {all : Array Oper} {ty : TypeId} {pos : String} {af : Array Edge} {ds : List (Nat × Nat)} {iv : Fm} {i d : Nat} {E : List Nat} {Rs : List (Nat × RT)} {Z : List (Nat × RT) → Prop}
theorem Rq{t len e sz:Nat}{z:Value}{ps:List (Nat×Operand)}{vs:List (Nat×Value)}{zl:List Value}{out:Array Value}{out':List Value}(h:iR Tryz.prog n w0 mu all ds l hp iv Z E ((i,fun v hn=>∃ b,v=.slice (some ⟨b,0,none⟩) len len∧hn=[⟨b,out'.toArray,e⟩])::Rs))(ho:all[i]?=some ⟨some d,.buildSlice t len ps.toArray,ty,pos,af,none⟩:=by rfl)(ht:lk Tb.sl t=some (e,sz):=by rfl)(hz:lk Tb.zs e=some z:=by rfl)(hzc:z.cells=zl.toArray:=by (first | ((simp only[Value.cells])<;>rfl) | rfl))(hzs:Nat.beq zl.length sz=true:=by rfl)(hpos:(Nat.blt 0 (len*sz)&&Nat.ble (len*sz) 16777216)=true:=by rfl)(hv:Fg (aU ds iv af.toList++l) ps=some vs:=by rfl)(hf:flS sz (rep zl len).toArray vs=some out:=by rfl)(hn:out=out'.toArray:=by (first | ((simp only[putAt,rep,Value.cells,Nat.reduceMul,bQ6,Nat.one_mul,bJ5,bO6,bN9,bQ3,bQ4,bK4,bL1,bK9,bM2,bH2,bH5,bI3])<;>rfl) | rfl)):iR Tryz.prog n w0 mu all ds l hp iv Z (i::E) Rs:=
 Kr ho (zZ aB ht hz hzc hzs hpos hv hf hn) ⟨_,_,0,rfl,rfl⟩ h
end
namespace PtD
def JD(l:List jT)(mid dZ:Int):List jT:=l.take (og l mid)++⟨mid,dZ⟩::l.drop (og l mid)
theorem YC(l:List jT)(mid dZ:Int):(JD l mid dZ).length=l.length+1:=by
 have:=CU l mid;simp only[JD,bJ0,bK1,bK8,bN0];omega
theorem YD{l:List jT}{mid dZ:Int}{x:jT}(h:x∈JD l mid dZ):x∈l∨x=⟨mid,dZ⟩:=by
 rw[JD,bJ6,bI5] at h;rcases h with h | h | h
 ·exact .inl (bW7 h)
 ·exact .inr h
 ·exact .inl (List.mem_of_mem_drop h)
theorem UF{l:List jT}(hs:Sorted l)(h0:∀ k,k<l.length→0≤(l.getD k default).mid):∀ k,k<l.length→(k:Int)≤(l.getD k default).mid:=by
 intro k
 induction k with
 | zero=>intro h;exact h0 0 h
 | succ k ih=>intro h;have:=ih bA4;have:=hs k (k+1) bA4 h;omega
theorem ER(hm:P.may=true){i:Nat}(hi:i<4):(P.gs i).maps.length≤16:=by
 rcases bP5 16 (P.gs i).maps.length with h | h
 ·have h1:=UF (D5 hm hi) (fun k hk=>(CV hm hi hk).1) 16 h;have h2:=(CV hm hi h).2.1;omega
 ·exact h
def BL(P:PtD)(vm fr mid:Int)(x:o6):Except Int PtD:=
 bif !P.lives vm then .error 3 else bif !decide ((P.pg fr.toNat).own=0) then .error 7 else bif !(decide ((P.pg fr.toNat).wit= -2)&&!sV (P.gs (ix vm)).maps mid) then .error 4
 else .ok ((P.kL fr.toNat x).iD (ix vm) { P.gs (ix vm) with maps:=JD (P.gs (ix vm)).maps mid fr })
end PtD
theorem Good.Hq{w0:World}{mu:List Nat}{hi hp:Hp}(h:Good w0 mu (hi++hp) w){e:mP}(he:e∈hp):e.b∉hi.map (·.b):=by
 have hn:=h.nodup;rw[bI6,bL5] at hn;intro hm;exact hn.2.2 _ hm _ (bH9.2 ⟨e,he,rfl⟩) rfl
section
variable {P : PtD} {Y : Lay} {bx tx : Nat} {w : World}
theorem dR.aN7(h:dR P Y){i:Nat}(hi:i<4)(ms:List jT){mv:Value}{hm:Hp}(hA:Own 173 2 mv hm (ms.map eu))(hw:∀ x∈ms,I64 x.mid∧I64 x.dZ)(hs:ms.length≤1000):∃ Y',dR (P.iD i { P.gs i with maps:=ms }) Y'∧Y'.hd (P.iD i { P.gs i with maps:=ms }) bx tx=⟨bx,#[Y.pv P,Y.gv P,Y.ov P],tx⟩::⟨Y.pb,Y.pc,51⟩::⟨Y.gb,putAt Y.gc (i*5+4) [mv],100⟩::⟨Y.ob,Y.oc,104⟩::zy (qH Y.G i ⟨(Y.G i).vv,mv,(Y.G i).hv,hm⟩) 4:=by
 have g4:=h.n.g4;have hf:=h.wf.gs i bA4;have hsm:=h.sm.vc i bA4
 have hg:=h.Cf hi { P.gs i with maps:=ms } ⟨(Y.G i).vv,mv,(Y.G i).hv,hm⟩ (gc:=putAt Y.gc (i*5+4) [mv]) (by
  have:=h.gs.put qE (h.MO hi) (k:=4) (vs:=[mv]) bA6
  exact this) (h.vc i hi) hA ⟨hf.1,hf.2.1,hw⟩ ⟨hsm.1,hs⟩
 refine⟨_,hg,?_⟩;rw[hdG]
theorem aA6(h:dR P Y)(hm:P.may=true)(hN:eU (Y.hd P bx 149) w)(c:wR)(hw:c.Wf)(x:o6)(hx:I64 x.own∧I64 x.wit)(hf:PtD.cZ c.frame 16 ((P.pages.length:Int)-1)=true)(hmd:PtD.cZ c.mid 0 15=true):Fn Tryz.prog 232 [.pointer (some ⟨bx,0,none⟩),uh c,.agg #[.int .i64 x.own,.int .i64 x.wit]].toArray w ((Y.hd P bx 149).map (·.b)) (jh bx 149 (P.BL c.vm c.frame c.mid x)):=by
 simp only[PtD.cZ,bG8,decide_eq_true_eq] at hf hmd;have hk:c.frame.toNat<P.pages.length:=by omega
 have hp0:=h.p0' hk;have hp1:=h.p1' hk;have hsm:=h.sm.pg;have bp7:=h.psz;have hz:=h.zQ;have g4:=h.n.g4;refine eH _ hN Tryz.func232 ?_;refine run ?_;intro C;refine run ?_;intro D;refine run ?_;refine az (fun wc hG=>Dk (h.Yr (bx:=bx) (tx:=149) (show Here (Lay.hd Y P bx _) wc from hG.here' aj)) _) ?_;cases hb:P.lives c.vm
 ·refine aN ?_;refine fin1 ?_;simp[jh,PtD.BL,hb]
 have hb':=hb;simp only[PtD.lives,PtD.cZ,bG8,decide_eq_true_eq] at hb';obtain⟨hv,hl⟩:=hb';have hi:ix c.vm<4:=MR hv;have hlen:=PtD.ER hm hi;refine aN ?_;refine az (fun wc hG=>MN (bx:=bx) (tx:=149) h (hG.here' aj) hv) ?_;rw[show (c.vm-1).toNat=ix c.vm from rfl];refine aN ?_;refine az (fun wc hG=>ah9 (P.gs (ix c.vm)).maps c.mid Y.gb (ix c.vm*5) (Y.G (ix c.vm)).mv ?_ (h.slM (bx:=bx) (tx:=149) hi (hG.here' aj)) hmd (fun k hk=>⟨(PtD.CV hm hi hk).1,(PtD.CV hm hi hk).2.1⟩) (PtD.D5 hm hi) bA4) ?_
 ·have h1:=h.gs.range qE (hG.here ⟨Y.gb,Y.gc,100⟩ bA6) (h.MO hi);have:=cO (k:=4) h1 rfl;rwa [bJ4] at this
 refine aN ?_;refine eP 8 ?_;refine dF ?_;refine aN ?_;refine eP 16 ?_;refine aZ ?_;refine fB (fun wc hG=>nZ _ _ wc) ?_;refine aZ ?_;refine fB (fun wc hG=>nZ _ _ wc) ?_;refine aZ ?_;refine run ?_;intro F;refine az (fun wc hG=>JB [_,_] _ (lits hG mh [_,_] rfl rfl bA6)) ?_
 have hkey:P.BL c.vm c.frame c.mid x=bif !decide ((P.pg c.frame.toNat).own=0) then .error 7 else bif !(decide ((P.pg c.frame.toNat).wit= -2)&&!PtD.sV (P.gs (ix c.vm)).maps c.mid) then .error 4
   else .ok ((P.kL c.frame.toNat x).iD (ix c.vm) { P.gs (ix c.vm) with maps:=PtD.JD (P.gs (ix c.vm)).maps c.mid c.frame }):=by
  rw[PtD.BL,hb];rfl
 rw[hkey];cases hA:decide ((P.pg c.frame.toNat).own=0)
 ·rw[show jU [bif false then 0 else 7,bif (decide ((P.pg c.frame.toNat).wit= -2)&&!PtD.sV (P.gs (ix c.vm)).maps c.mid) then 0 else 4]=7 from rfl];refine aN ?_;refine fin1 ?_;rfl
 cases hB:(decide ((P.pg c.frame.toNat).wit= -2)&&!PtD.sV (P.gs (ix c.vm)).maps c.mid)
 ·rw[show jU [bif true then 0 else 7,bif false then 0 else 4]=4 from rfl];refine aN ?_;refine fin1 ?_;rfl
 rw[show jU [bif true then 0 else 7,bif true then 0 else 4]=0 from rfl]
 have h0:=h.aN3 hk x (pc:=(Y.pc.setIfInBounds (c.frame.toNat*2) (.int .i64 x.own)).setIfInBounds (c.frame.toNat*2+1) (.int .i64 x.wit)) (by
  have:=h.pg.put A8 (MI hk) (k:=0) (vs:=sU x) (by simp[sU])
  exact this) hx
 have hd0:=hdP Y P c.frame.toNat x ((Y.pc.setIfInBounds (c.frame.toNat*2) (.int .i64 x.own)).setIfInBounds (c.frame.toNat*2+1) (.int .i64 x.wit)) bx 149;obtain⟨Y1,eY⟩:∃ Y1,Y1=({ Y with pc:=(Y.pc.setIfInBounds (c.frame.toNat*2) (.int .i64 x.own)).setIfInBounds (c.frame.toNat*2+1) (.int .i64 x.wit) }:Lay):=⟨_,rfl⟩
 rw[←eY] at h0 hd0;have hn4:=h.g4' hi;refine aN ?_;refine late 12 0 ?_;refine xE 12 [0,1,2,3,4,5,6,7,8,9,10] [11] [] ?_;refine gK ?_;refine Rq ?_;refine kP ?_;rintro _ _ ⟨V,rfl,rfl⟩;simp only[DN];refine jM ?_;refine ru ?_;simp only[bH2,bH5];obtain⟨r,g1,g2⟩:=Dp Y.G hi;refine aS ((Y.G (ix c.vm)).hm++(⟨V,#[.int .i64 c.mid,.int .i64 c.frame],173⟩::⟨bx,#[Y.pv P,Y.gv P,Y.ov P],149⟩::⟨Y.pb,(Y.pc.setIfInBounds (c.frame.toNat*2) (.int .i64 x.own)).setIfInBounds (c.frame.toNat*2+1) (.int .i64 x.wit),51⟩::⟨Y.gb,Y.gc,100⟩::⟨Y.ob,Y.oc,104⟩::((Y.G (ix c.vm)).hv++r))) (cnt1 g1) ?_;refine ja (Y.G (ix c.vm)).hm _ (fun wc hG=>YB (P.gs (ix c.vm)).maps (PtD.og (P.gs (ix c.vm)).maps c.mid) ⟨c.mid,c.frame⟩ V _ (h.mp _ hi) hG.iT (hG.here ⟨V,#[.int .i64 c.mid,.int .i64 c.frame],173⟩ (bH7 _ mh)) (hG.Hq mh) (PtD.CU _ _) bA4) (fun mv hm' hI=>?_) (.refl _);have hI':Own 173 2 mv hm' ((PtD.JD (P.gs (ix c.vm)).maps c.mid c.frame).map eu):=hI;obtain⟨q,cap,ev⟩:=hI'.opened;subst ev;refine dm (_++hm') bI7 ?_;simp only[bH2,bH5];refine aN ?_;refine fin1 ?_;have hwf:=(h.wf.gs _ (show ix c.vm<P.ay.length by omega)).2.2
 obtain⟨Y2,h2,hd2⟩:=h0.aN7 hi (PtD.JD (P.gs (ix c.vm)).maps c.mid c.frame) hI' (fun y hy=>by
  rcases PtD.YD hy with h | rfl
  ·exact hwf y h
  ·exact⟨hw.mid,hw.frame⟩) (by rw[PtD.YC];omega) (bx:=bx) (tx:=149)
 refine⟨rfl,Y2,h2,WH hd2 ?_⟩;have g3:=g2 (Y.G (ix c.vm)).vv (.slice q (List.map eu (PtD.JD (P.gs (ix c.vm)).maps c.mid c.frame)).length cap) (Y.G (ix c.vm)).hv hm';rw[(List.cons.inj hd0).1,eY];simp only[putAt]
 (exact cnt1 g3)
end
end
section
attribute [local irreducible] Hy St Ops DH dI
namespace PtD
def YE(P:PtD)(vm fr mid:Int):Except Int PtD:=
 bif !cZ fr 16 ((P.pages.length:Int)-1) then .error 2 else
 bif decide (vm=0) then (bif !decide ((P.pg fr.toNat).own=0) then .error 7 else bif !decide ((P.pg fr.toNat).wit= -2) then .error 4 else .ok (P.kL fr.toNat ⟨0,-1⟩))
 else bif !cZ vm 1 4||!cZ mid 0 15 then .error 2 else P.BL vm fr mid ⟨0,vm⟩
def oV(P:PtD)(vm fr mid:Int):Except Int PtD:=
 bif !cZ vm 1 4||!cZ fr 16 ((P.pages.length:Int)-1)||!cZ mid 0 15 then .error 2 else P.BL vm fr mid ⟨vm,-2⟩
def MX(P:PtD)(fr:Int):Except Int PtD:=
 bif !cZ fr 16 ((P.pages.length:Int)-1) then .error 2 else bif !decide ((P.pg fr.toNat).own=0) then .error 7 else bif decide ((P.pg fr.toNat).wit= -2) then .error 6
 else bif decide (0<(P.pg fr.toNat).wit) then .ok ((P.iD (ix (P.pg fr.toNat).wit) { P.gs (ix (P.pg fr.toNat).wit) with maps:=a02 (P.gs (ix (P.pg fr.toNat).wit)).maps fr }).kL fr.toNat ⟨0,-2⟩)
 else .ok (P.kL fr.toNat ⟨0,-2⟩)
end PtD
section
variable {P : PtD} {Y : Lay} {bx tx : Nat} {w : World}
theorem YF(h:dR P Y)(hm:P.may=true)(hN:eU (Y.hd P bx 149) w)(c:wR)(hw:c.Wf):Fn Tryz.prog 148 [.pointer (some ⟨bx,0,none⟩),uh c].toArray w ((Y.hd P bx 149).map (·.b)) (jh bx 149 (P.oV c.vm c.frame c.mid)):=by
 refine eH _ hN Tryz.func148 ?_;refine run ?_;intro C;refine run ?_;refine eP 10 ?_;refine dF ?_;refine fB (fun wc hG=>EN _ wc) ?_;refine dF ?_;refine fB (fun wc hG=>MQ (bx:=bx) (tx:=149) h (hG.here' aj) c.frame) ?_;refine dF ?_;refine fB (fun wc hG=>UA _ wc) ?_;refine dF ?_;refine run ?_;intro F;refine az (fun wc hG=>JB [_,_,_] _ (lits hG mh [_,_,_] rfl rfl bA6)) ?_;cases hA:PtD.cZ c.vm 1 4
 ·rw[show jU [bif false then 0 else 2,bif PtD.cZ c.frame 16 ((P.pages.length:Int)-1) then 0 else 2,bif PtD.cZ c.mid 0 15 then 0 else 2]=2 from rfl];refine aN ?_;refine fin1 ?_;simp[jh,PtD.oV,hA]
 cases hb:PtD.cZ c.frame 16 ((P.pages.length:Int)-1)
 ·rw[show jU [bif true then 0 else 2,bif false then 0 else 2,bif PtD.cZ c.mid 0 15 then 0 else 2]=2 from rfl];refine aN ?_;refine fin1 ?_;simp[jh,PtD.oV,hA,hb]
 cases hB:PtD.cZ c.mid 0 15
 ·rw[show jU [bif true then 0 else 2,bif true then 0 else 2,bif false then 0 else 2]=2 from rfl];refine aN ?_;refine fin1 ?_;simp[jh,PtD.oV,hA,hb,hB]
 rw[show jU [bif true then 0 else 2,bif true then 0 else 2,bif true then 0 else 2]=0 from rfl];have hkey:P.oV c.vm c.frame c.mid=P.BL c.vm c.frame c.mid ⟨c.vm,-2⟩:=by rw[PtD.oV,hA,hb,hB];rfl
 rw[hkey];refine aN ?_;refine aS (Y.hd P bx 149++[⟨C,#[.int .i64 c.kind,.int .i64 c.vm,.int .i64 c.frame,.int .i64 c.mid,.int .i64 c.fO,.int .i64 c.lX],37⟩]) aj ?_;refine ja (Y.hd P bx 149) [⟨C,#[.int .i64 c.kind,.int .i64 c.vm,.int .i64 c.frame,.int .i64 c.mid,.int .i64 c.fO,.int .i64 c.lX],37⟩] (fun wc hG=>aA6 h hm hG.iT c hw ⟨c.vm,-2⟩ ⟨hw.vm,(show I64 (-2) from ⟨by decide,by decide⟩)⟩ hb hB) (fun v hn hR=>?_) (.refl _);refine aN ?_;refine fin1 ?_;exact hR.le aj
end
end
section
attribute [local irreducible] Hy St Ops DH dI
namespace PtD
def claim(P:PtD)(f:Nat):Nat→PtD
 | 0=>P
 | k+1=>(claim P f k).kL (f+k) ⟨-1,-2⟩
theorem UG(P:PtD)(f k:Nat):(P.claim f k).pages.length=P.pages.length:=by
 induction k with
 | zero=>rfl
 | succ k ih=>rw[claim,kL];simpa using ih
theorem YG(P:PtD)(f k:Nat):(P.claim f k).ay=P.ay:=by
 induction k with
 | zero=>rfl
 | succ k ih=>rw[claim,kL];exact ih
theorem YH(P:PtD)(f k:Nat):(P.claim f k).on=P.on:=by
 induction k with
 | zero=>rfl
 | succ k ih=>rw[claim,kL];exact ih
abbrev idle(g:Va):Bool:=!g.live&&!g.dying
def five(P:PtD)(f:Nat):List o6:=(P.pages.drop f).take 5
def qO(P:PtD)(fr:Int):Except Int PtD:=
 bif !cZ fr 16 ((P.pages.length:Int)-1)||decide ((P.pages.length:Int)-5<fr) then .error 2
 else bif (P.five fr.toNat).any (fun x=>!decide (x.own=0)) then .error 7 else bif (P.five fr.toNat).any (fun x=>!decide (x.wit= -2)) then .error 4
 else bif !decide (0≤gV idle P.ay) then .error 5
 else .ok ((P.claim fr.toNat 5).iD (gV idle P.ay).toNat ⟨true,false,fr,[],[]⟩)
end PtD
theorem ah'{α:Type}[Inhabited α](p:α→Bool)(l:List α):gV p l<l.length∨l.length=0:=by
 rcases PtD.UE (p:=fun j=>p (l.getD j default)) l.length with h | ⟨k,hk,h1,h2⟩
 ·rw[dV h];omega
 ·rw[fH hk h1 h2];omega
theorem UH(l d:Bool)(fi:Int)(vv mv:Value)(w:World):Fn Tryz.prog 237 ([]++[Value.agg #[.bool l,.bool d,.int .i64 fi,vv,mv]]++[]).toArray w [] (fun u _=>u=.bool (!l&&!d)):=by
 refine enter Tryz.func237 ?_;refine run ?_;intro b;refine aC ?_;exact fin1 rfl
theorem UI(x:o6)(w:World):Fn Tryz.prog 239 ([]++[Value.agg #[.int .i64 x.own,.int .i64 x.wit]]++[]).toArray w [] (fun u _=>u=.bool (!decide (x.own=0))):=by
 refine enter Tryz.func239 ?_;refine run ?_;intro b;refine run ?_;exact fin1 rfl
theorem UJ(x:o6)(w:World):Fn Tryz.prog 240 ([]++[Value.agg #[.int .i64 x.own,.int .i64 x.wit]]++[]).toArray w [] (fun u _=>u=.bool (!decide (x.wit= -2))):=by
 refine enter Tryz.func240 ?_;refine run ?_;intro b;refine run ?_;exact fin1 rfl
section
variable {P : PtD} {Y : Lay} {bx tx : Nat} {w : World}
theorem JE(h:dR P Y)(hh:Here (Y.hd P bx tx) w):Fn Tryz.prog 236 [Y.gv P,.func (.func 237) [].toArray [].toArray].toArray w [] (fun u _=>u=.int .i64 (gV PtD.idle P.ay)):=by
 have g4:=h.n.g4;have hb:=hh ⟨Y.gb,Y.gc,100⟩ bA6;refine enter Tryz.func236 ?_;refine run ?_;refine aK (σ:=Nat) (fun k=>[(8,.int .i64 (k:Int))]) (fun _=>[]) (fun k=>k≤P.ay.length∧∀ j,j<k→PtD.idle (P.ay.getD j default)=false) (fun k=>P.ay.length-k) 0 ⟨bH3 _,fun j hj=>absurd hj bA4⟩ ?_;rintro k m rfl ⟨hk,hno⟩;refine run ?_;refine ah _ rfl (fun hc=>?_) (fun hc=>?_)
 ·have hlt:k<P.ay.length:=by simp at hc;omega
  have hr:=h.gs.range qE hb (h.MO (i:=k) bA4);rw[bJ4] at hr;refine run ?_;refine l9 (fun wc hG=>UH (P.gs k).live (P.gs k).dying (P.gs k).first (Y.G k).vv (Y.G k).mv wc) ?_;refine run ?_;refine ah _ rfl (fun hp=>?_) (fun hp=>?_)
  ·refine run ?_;refine fin1 ?_;rw[fH (p:=PtD.idle) hlt hp hno]
  ·refine run ?_;refine aF (k+1) ⟨hlt,fun j hj=>?_⟩;rcases bI1.1 hj with hj | rfl
   ·exact hno j hj
   ·exact hp
 ·have hge:k=P.ay.length:=by simp at hc;omega
  subst hge;refine run ?_;refine fin1 ?_;rw[dV hno]
theorem dR.slF(h:dR P Y)(hh:Here (Y.hd P bx tx) w)(f:Nat)(hf:f+5≤P.pages.length)(cap:Nat):aA w (.slice (some ⟨Y.pb,f*2,none⟩) 5 cap) 2 ((P.five f).map sU):=by
 have hl:((P.five f).map sU).length=5:=by simp[PtD.five];omega
 have hb:=hh ⟨Y.pb,Y.pc,51⟩ bA6;refine⟨⟨_,cap,by rw[hl],fun _=>⟨Y.pb,f*2,rfl,fun i c hc=>?_⟩⟩,by rw[hl];omega⟩;have hi:i<5:=by rw[←hl];exact (bI'.1 hc).1
 rw[bJ1,PtD.five,bL9,if_pos hi,bO4,←bJ1] at hc;have:=h.pg.range A8 hb hc;rwa [bJ4,bQ2] at this
theorem YI(h:dR P Y)(hm:P.may=true)(hN:eU (Y.hd P bx 149) w)(c:wR)(hw:c.Wf):Fn Tryz.prog 150 [.pointer (some ⟨bx,0,none⟩),uh c].toArray w ((Y.hd P bx 149).map (·.b)) (jh bx 149 (P.qO c.frame)):=by
 have hp1:=h.n.p1;refine eH _ hN Tryz.func150 ?_;refine run ?_;intro C;refine run ?_;refine di ?_;refine aZ ?_;refine fB (fun wc hG=>MQ (bx:=bx) (tx:=149) h (hG.here' aj) c.frame) ?_;refine aZ ?_;refine aN ?_;cases hb:PtD.cZ c.frame 16 ((P.pages.length:Int)-1)
 ·refine ah _ rfl (fun _=>?_) (fun hp=>by simp at hp);refine aN ?_;refine fin1 ?_;simp[jh,PtD.qO,hb]
 cases hb5:decide ((P.pages.length:Int)-5<c.frame)
 rotate_left
 ·refine aN ?_;refine fin1 ?_;simp only[PtD.qO,hb,hb5];rfl
 have hb':=hb;simp only[PtD.cZ,bG8,decide_eq_true_eq] at hb';have a03:=hb5;simp only[decide_eq_false_iff_not] at a03;have hf5:c.frame.toNat+5≤P.pages.length:=by omega
 have bh5:=h.pg.le;have hsm:=h.sm.pg;have bp8:=h.pg.max
 have hkey:P.qO c.frame=bif (P.five c.frame.toNat).any (fun x=>!decide (x.own=0)) then .error 7 else bif (P.five c.frame.toNat).any (fun x=>!decide (x.wit= -2)) then .error 4
   else bif !decide (0≤gV PtD.idle P.ay) then .error 5
   else .ok ((P.claim c.frame.toNat 5).iD (gV PtD.idle P.ay).toNat ⟨true,false,c.frame,[],[]⟩):=by
  rw[PtD.qO,hb,hb5];rfl
 rw[hkey];refine aN ?_;refine eP 11 ?_;refine dF ?_;refine NI (wo aB rfl rfl rfl rfl bA4 bA4 bA4 bA4 (o':=c.frame.toNat*2) (m':=5) (c':=Y.zA-c.frame.toNat) bA4 bA4 rfl) ?_;refine dF ?_;refine aN ?_;refine az (fun wc hG=>JE (bx:=bx) (tx:=149) h (hG.here' aj)) ?_;refine aN ?_;refine az (fun wc hG=>qA (us:=[]) (fun x=>!decide (x.own=0)) (P.five c.frame.toNat) _ (h.slF (bx:=bx) (tx:=149) (hG.here' aj) c.frame.toNat hf5 _) (fun x w' ha=>UI x w')) ?_;refine aN ?_;refine az (fun wc hG=>qA (us:=[]) (fun x=>!decide (x.wit= -2)) (P.five c.frame.toNat) _ (h.slF (bx:=bx) (tx:=149) (hG.here' aj) c.frame.toNat hf5 _) (fun x w' ha=>UJ x w')) ?_;refine aN ?_;refine az (fun wc hG=>nZ _ _ wc) ?_;refine aN ?_;refine az (fun wc hG=>nZ _ _ wc) ?_;refine aN ?_;refine az (fun wc hG=>nZ _ _ wc) ?_;refine aN ?_;intro F;refine az (fun wc hG=>JB [_,_,_] _ (lits hG mh [_,_,_] rfl rfl bA6)) ?_;cases hA:(P.five c.frame.toNat).any fun x=>!decide (x.own=0)
 rotate_left
 ·rw[show jU [bif !true then 0 else 7,bif !((P.five c.frame.toNat).any fun x=>!decide (x.wit= -2)) then 0 else 4,bif decide (0≤gV PtD.idle P.ay) then 0 else 5]=7 from rfl];refine aN ?_;refine fin1 ?_;rfl
 cases hB:(P.five c.frame.toNat).any fun x=>!decide (x.wit= -2)
 rotate_left
 ·rw[show jU [bif !false then 0 else 7,bif !true then 0 else 4,bif decide (0≤gV PtD.idle P.ay) then 0 else 5]=4 from rfl];refine aN ?_;refine fin1 ?_;rfl
 cases hC:decide (0≤gV PtD.idle P.ay)
 ·rw[show jU [bif !false then 0 else 7,bif !false then 0 else 4,bif false then 0 else 5]=5 from rfl];refine aN ?_;refine fin1 ?_;rfl
 rw[show jU [bif !false then 0 else 7,bif !false then 0 else 4,bif true then 0 else 5]=0 from rfl];refine aN ?_;have g4:=h.n.g4;refine aK (σ:=Nat×Array Value) (fun s=>[(65,.int .i64 (s.1:Int))]) (fun s=>⟨C,#[.int .i64 c.kind,.int .i64 c.vm,.int .i64 c.frame,.int .i64 c.mid,.int .i64 c.fO,.int .i64 c.lX],37⟩::⟨Y.pb,s.2,51⟩::⟨bx,#[Y.pv P,Y.gv P,Y.ov P],149⟩::⟨Y.gb,Y.gc,100⟩::⟨Y.ob,Y.oc,104⟩::zy Y.G 4) (fun s=>s.1≤5∧dR (P.claim c.frame.toNat s.1) { Y with pc:=s.2 }) (fun s=>5-s.1) (0,Y.pc) ⟨bH3 _,h⟩ (hh:=by (exact aj)) ?_;rintro⟨k,pc⟩ m hm' ⟨hk,hO⟩;dsimp only at hm' hk hO ⊢;have hcl:=PtD.UG P c.frame.toNat k;refine aN ?_;refine ah _ rfl (fun hc=>?_) (fun hc=>?_)
 ·have hlt:k<5:=by simp at hc;omega
  have hps:=hO.psz;rw[hcl] at hps;dsimp only at hps;refine aN ?_;refine az (fun wc hG=>OM wc) ?_;refine aN ?_;have hfk:c.frame.toNat+k<(P.claim c.frame.toNat k).pages.length:=by rw[hcl];omega
  have h1:=hO.aN3 hfk ⟨-1,-2⟩ (pc:=(pc.setIfInBounds (c.frame.toNat*2+k*2) (.int .i64 (-1))).setIfInBounds (c.frame.toNat*2+k*2+1) (.int .i64 (-2))) (by
   have:=hO.pg.put A8 (MI hfk) (k:=0) (vs:=sU ⟨-1,-2⟩) (by simp[sU]);rw[bK6,bQ2] at this
   exact this) ⟨⟨by decide,by decide⟩,⟨by decide,by decide⟩⟩
  exact aF (k+1,(pc.setIfInBounds (c.frame.toNat*2+k*2) (.int .i64 (-1))).setIfInBounds (c.frame.toNat*2+k*2+1) (.int .i64 (-2))) (hm:=by dsimp only;omega) ⟨hlt,h1⟩ (h2:=by (exact aj))
 ·have hk5:k=5:=by simp at hc;omega
  subst hk5;have hlt4:=ah' PtD.idle P.ay;have hC':=hC;simp only[decide_eq_true_eq] at hC';have hi:(gV PtD.idle P.ay).toNat<4:=by omega
  have hz:=h.zQ;refine aN ?_;refine eP 9 ?_;refine dF ?_;refine aN ?_;refine fin1 ?_;have hrow:=hO.gs.put qE (hO.MO hi) (k:=0) (vs:=[.bool true,.bool false,.int .i64 c.frame,.slice none 0 0,.slice none 0 0]) bA6;have h1:=hO.Cf hi ⟨true,false,c.frame,[],[]⟩ ⟨.slice none 0 0,.slice none 0 0,[],[]⟩ (gc:=putAt Y.gc ((gV PtD.idle P.ay).toNat*5) [.bool true,.bool false,.int .i64 c.frame,.slice none 0 0,.slice none 0 0]) hrow ⟨by simp,.inl ⟨rfl,rfl,rfl⟩⟩ ⟨by simp,.inl ⟨rfl,rfl,rfl⟩⟩ ⟨hw.frame,by simp,by simp⟩ ⟨by simp,by simp⟩;refine⟨rfl,_,h1,WH (hdG { Y with pc:=pc } _ _ _ _ _ _ _) ?_⟩;obtain⟨r,g1,g2⟩:=Dp Y.G hi;have g3:=g2 (.slice none 0 0) (.slice none 0 0) [] [];have e1:Lay.pv { Y with pc:=pc } (P.claim c.frame.toNat 5)=Y.pv P:=by unfold Lay.pv;rw[hcl]
  have e2:Lay.gv { Y with pc:=pc } (P.claim c.frame.toNat 5)=Y.gv P:=by unfold Lay.gv;rw[PtD.YG]
  have e3:Lay.ov { Y with pc:=pc } (P.claim c.frame.toNat 5)=Y.ov P:=by unfold Lay.ov;rw[PtD.YH]
  rw[e1,e2,e3];simp only[putAt]
  (refine dH fun a=>?_;have:=aJ.cnt g3 a;have:=aJ.cnt g1 a;simp only[fJ,bM,kC] at *;omega)
end
end
section
attribute [local irreducible] Hy St Ops DH dI
namespace PtD
def aN8(vm:Int)(x:o6):o6:=bif decide (x.own=vm)||(decide (x.own=0)&&decide (x.wit=vm)) then ⟨x.own,-2⟩ else x
def sweep(P:PtD)(vm:Int):Nat→PtD
 | 0=>P
 | k+1=>(sweep P vm k).kL k (aN8 vm (P.pg k))
def frees(P:PtD)(f:Nat):Nat→PtD
 | 0=>P
 | k+1=>(frees P f k).kL (f+k) ⟨0,-2⟩
variable (P : PtD)
def gone(P:PtD)(vm:Int):PtD:=(P.sweep vm P.pages.length).frees (P.gs (ix vm)).first.toNat 5
def MZ(P:PtD)(vm:Int):Except Int PtD:=
 bif !cZ vm 1 4 then .error 2 else bif !(P.gs (ix vm)).live then .error 3 else bif (P.gs (ix vm)).aP.any (fun x=>decide (0≤x)) then .error 6
 else .ok ((P.gone vm).iD (ix vm) ⟨false,(P.gone vm).owns vm,0,[],[]⟩)
end PtD
section
variable {P : PtD} {Y : Lay} {bx tx : Nat} {w : World}
end
end
section
attribute [local irreducible] Hy St Ops DH dI
section
variable {P : Program} {T : Tab} {n : Nat} {w0 : World} {mu : List Nat} {l : Fm} {hp : Hp} {dd : Option Tmp} {ty : TypeId} {pos : String} {af : Array Edge} {gg : Option (Nat × Bool)}
end
section
variable {n : Nat} {w0 : World} {mu : List Nat} {l : Fm} {hp : Hp} {Q : Exit → Fm → Hp → Prop} {all : Array Oper} {rest : List Oper} {ty : TypeId} {pos : String} {af : Array Edge} {ds : List (Nat × Nat)} {tail : List Oper} {i : Nat} {iv fr : Fm}
end
theorem aA.a04{b o cap sz n:Nat}{xs:List (List Value)}(h:aA w (.slice (some ⟨b,o,none⟩) n cap) sz xs){i:Nat}{c:List Value}(hi:xs[i]?=some c):w.rangeAt b (o+i*sz) c:=by
 obtain⟨⟨p,cp,e,hr⟩,_⟩:=h;cases e;obtain⟨b',o',e',hx⟩:=hr (by intro e;subst e;cases hi);cases e';exact hx i c hi
end
section
attribute [local irreducible] Hy St Ops DH dI
section
variable {P : PtD} {Y : Lay} {bx tx : Nat} {w : World}
theorem Bd(h:dR P Y)(hm:P.may=true)(hN:eU (Y.hd P bx 149) w)(cpu vm fr mid vc cc:Int)(hw:wR.Wf ⟨3,vm,fr,mid,vc,cc⟩):Fn Tryz.prog 68 [.pointer (some ⟨bx,0,none⟩),.int .i64 cpu,uh ⟨3,vm,fr,mid,vc,cc⟩].toArray w ((Y.hd P bx 149).map (·.b)) (jh bx 149 (P.oV vm fr mid)):=by
 refine eH _ hN Tryz.func68 ?_;refine run ?_;intro C;refine aN ?_;refine ja (Y.hd P bx 149) [⟨C,#[.int .i64 3,.int .i64 vm,.int .i64 fr,.int .i64 mid,.int .i64 vc,.int .i64 cc],37⟩] (fun wc hG=>YF h hm hG.iT ⟨3,vm,fr,mid,vc,cc⟩ hw) (fun v hn hR=>?_) bD7;refine aN ?_;refine fin1 ?_;exact hR.le aj
end
end
section
attribute [local irreducible] Hy St Ops DH dI
section
variable {P : PtD} {Y : Lay} {bx : Nat} {w : World}
theorem F5(h:dR P Y)(hN:eU (Y.hd P bx 149) w)(cpu:Nat)(hc:cpu<P.on.length)(vm fr mid vc cc:Int)(hw:wR.Wf ⟨8,vm,fr,mid,vc,cc⟩):Fn Tryz.prog 68 [.pointer (some ⟨bx,0,none⟩),.int .i64 (cpu:Int),uh ⟨8,vm,fr,mid,vc,cc⟩].toArray w ((Y.hd P bx 149).map (·.b)) (jh bx 149 (P.vM cpu vm vc)):=by
 refine eH _ hN Tryz.func68 ?_;refine run ?_;intro C;refine aN ?_;refine ja (Y.hd P bx 149) [⟨C,#[.int .i64 8,.int .i64 vm,.int .i64 fr,.int .i64 mid,.int .i64 vc,.int .i64 cc],37⟩] (fun wc hG=>aN5 h hG.iT cpu hc ⟨8,vm,fr,mid,vc,cc⟩ hw) (fun v hn hR=>?_) bD7;refine aN ?_;refine fin1 ?_;exact hR.le aj
theorem UK(h:dR P Y)(hN:eU (Y.hd P bx 48) w)(cpu:Nat)(hc:cpu<P.on.length)(vm fr mid vc cc:Int)(hw:wR.Wf ⟨8,vm,fr,mid,vc,cc⟩):Fn Tryz.prog 262 [.pointer (some ⟨bx,0,none⟩),.int .i64 (cpu:Int),uh ⟨8,vm,fr,mid,vc,cc⟩].toArray w ((Y.hd P bx 48).map (·.b)) (jh bx 48 (P.vM cpu vm vc)):=by
 have hvm:=hw.vm;refine eH _ hN Tryz.func262 ?_;refine run ?_;intro B;refine run ?_;refine az (fun wc hG=>ah4 ⟨8,vm,fr,mid,vc,cc⟩ wc) ?_;refine aN ?_;have hbt:PtD.cZ vm 1 4=!(decide (vm<1)||decide (4<vm)):=by rw[bH4];simp[PtD.cZ]
 refine ah _ rfl (fun hp=>?_) (fun hp=>?_)
 ·refine run ?_;refine fin1 ?_;rw[bH6] at hp;simp[jh,PtD.vM,hbt,hp]
 rw[bH6] at hp;have hb:PtD.cZ vm 1 4=true:=by rw[hbt,hp];rfl
 have hb':=hb;simp only[PtD.cZ,bG8,decide_eq_true_eq] at hb';have hi:ix vm<4:=MR hb';obtain⟨q,cap,ev⟩:=(h.vc _ hi).opened;have n0:=h.g0 hi;have n3:=h.g3 hi;rw[ev,bG9] at n3;have hz:=h.zQ;have g4:=h.n.g4;refine aN ?_;refine di ?_;refine aZ ?_;refine aN ?_;refine ah _ rfl (fun hl=>?_) (fun hl=>?_)
 ·refine run ?_;refine fin1 ?_;simp at hl;simp[jh,PtD.vM,hb,hl]
 rw[bH6,bJ7] at hl;refine aN ?_;refine eP 8 ?_;refine dF ?_;rw[show (vm-1).toNat=ix vm from rfl];refine aN ?_;refine eP 12 ?_;refine aZ ?_;refine aC ?_;have hlen:=(h.sm.vc (ix vm) bA4).1;refine ah _ rfl (fun hv=>?_) (fun hv=>?_)
 ·refine aN ?_;refine fin1 ?_
  have e:PtD.cZ vc 0 (((P.gs (ix vm)).aP.length:Int)-1)=false:=by
   simp at hv;simp[PtD.cZ];omega
  simp[jh,PtD.vM,hb,hl,e]
 have hv':0≤vc∧vc<((P.gs (ix vm)).aP.length:Int):=by simp at hv;omega
 have hk:vc.toNat<(P.gs (ix vm)).aP.length:=by omega
 have e1:PtD.cZ vc 0 (((P.gs (ix vm)).aP.length:Int)-1)=true:=by
  simp[PtD.cZ];omega
 obtain⟨g,cap',cur,eg,eh,hn,hsz,hset⟩:=(h.vc _ hi).aa1 hk;rw[ev,bG9] at eg;cases eg;obtain⟨r,g1,g2⟩:=Dp Y.G hi;rw[eh] at g1;refine pM (⟨B,#[.int .i64 8,.int .i64 vm,.int .i64 fr,.int .i64 mid,.int .i64 vc,.int .i64 cc],37⟩::⟨g,cur,3⟩::⟨bx,#[Y.pv P,Y.gv P,Y.ov P],48⟩::⟨Y.ob,Y.oc,104⟩::⟨Y.pb,Y.pc,51⟩::⟨Y.gb,Y.gc,100⟩::((Y.G (ix vm)).hm++r)) (cnt1 g1) ?_;refine aN ?_;refine eP 8 ?_;refine dF ?_;refine aN ?_;refine ah _ rfl (fun hp2=>?_) (fun hp2=>?_)
 ·refine aN ?_;refine fin1 ?_;simp at hp2;simp[jh,PtD.vM,hb,hl,e1,hp2]
 refine aN ?_;refine eP 7 ?_;refine dF ?_;refine aN ?_;have a01:=h.osz;refine eP 11 ?_;refine dF ?_;refine aN ?_;refine fin1 ?_
 have key:P.vM cpu vm vc=.ok ((P.iD (ix vm) { P.gs (ix vm) with aP:=(P.gs (ix vm)).aP.set vc.toNat (cpu:Int) }).setSt cpu ⟨vm,vc⟩):=by
  simp at hp2;simp[PtD.vM,hb,hl,e1,hp2]
 rw[key];have lY:I64 (cpu:Int):=by have:=h.sm.on;unfold I64;omega
 refine⟨rfl,_,h.ap3 hi hk hc (cpu:Int) lY ⟨vm,vc⟩ ⟨hw.vm,hw.fO⟩ (hset _),?_⟩;have g3:=g2 (Y.G (ix vm)).vv (Y.G (ix vm)).mv [⟨g,cur.setIfInBounds vc.toNat (.int .i64 cpu),3⟩] (Y.G (ix vm)).hm;rw[aN4];simp only[putAt,yJ]
 (exact cnt1 g3)
end
end
namespace PtD
structure YJ(l:List jT)(N:Nat):Prop where
 sorted:Sorted l
 rng:∀ x∈l,0≤x.mid∧x.mid≤15∧0≤x.dZ∧x.dZ<N
 inj:∀ i j,i<j→j<l.length→(l.getD i default).dZ≠(l.getD j default).dZ
theorem getD_mem{α:Type}[Inhabited α]{l:List α}(hk:k<l.length):l.getD k default∈l:=by
 rw[bG',bH0 hk];simp
theorem zB{α:Type}[Inhabited α]{l:List α}{x:α}(h:x∈l):∃ k,k<l.length∧l.getD k default=x:=by
 obtain⟨k,hk,rfl⟩:=bL6.1 h;exact⟨k,hk,by rw[bG',bH0 hk];rfl⟩
theorem ES{l:List jT}{N:Nat}:(∀ k,k<l.length→oC l N k=true)↔YJ l N:=by
 constructor
 ·intro h
  have h':∀ k,k<l.length→((0≤(l.getD k default).mid∧(l.getD k default).mid≤15)∧(k=0∨(l.getD (k-1) default).mid<(l.getD k default).mid)∧(0≤(l.getD k default).dZ∧(l.getD k default).dZ≤(N:Int)-1)∧∀ m∈l.take k,m.dZ≠(l.getD k default).dZ):=by
   intro k hk;have:=h k hk;simp only[oC,cZ,bG8,bI9,decide_eq_true_eq,bI8,bR8] at this;exact⟨this.1.1.1,this.1.1.2,this.1.2,fun m hm=>by simpa using this.2 m hm⟩
  refine⟨Gq fun k hk=>?_,fun x hx=>?_,fun i j hij hj=>?_⟩
  ·have:=(h' (k+1) hk).2.1;rw[bU2] at this;rcases this with h | h
   ·omega
   ·exact h
  ·obtain⟨k,hk,rfl⟩:=zB hx;have:=h' k hk;exact⟨this.1.1,this.1.2,this.2.2.1.1,by omega⟩
  ·refine (h' j hj).2.2.2 _ ?_;rw[bL6];refine⟨i,by rw[bK1];omega,?_⟩;rw[bT4,bG',bH0 bA4];rfl
 ·rintro⟨hs,hr,hi⟩ k hk;have h1:=hr _ (getD_mem hk);simp only[oC,cZ,bG8,bI9,decide_eq_true_eq,bI8,bR8];refine⟨⟨⟨⟨h1.1,h1.2.1⟩,?_⟩,h1.2.2.1,by omega⟩,fun m hm=>?_⟩
  ·rcases bU1 k with rfl | hp
   ·exact .inl rfl
   ·exact .inr (hs (k-1) k bA4 hk)
  ·obtain⟨i,hi2,rfl⟩:=bL6.1 hm;rw[bK1] at hi2;have:=hi i k bA4 hk;rw[bG',bH0 (show i<l.length by omega)] at this;rw[bT4];simpa using this
def a05(P:PtD)(i:Nat)(l:List Int):Prop:=∀ v,v<l.length→l.getD v 0= -1∨(0≤l.getD v 0∧(l.getD v 0).toNat<P.on.length∧(P.st (l.getD v 0).toNat).vm=(i:Int)+1∧(P.st (l.getD v 0).toNat).cpu=v)
structure aN9(P:PtD)(i:Nat):Prop where
 dy:(P.gs i).dying=false
 f0:16≤(P.gs i).first
 f1:(P.gs i).first≤(P.pages.length:Int)-5
 vl:(P.gs i).aP.length≤2
 vc:a05 P i (P.gs i).aP
 mp:YJ (P.gs i).maps P.pages.length
 us:∀ f,f<P.pages.length→((∃ m∈(P.gs i).maps,m.dZ=(f:Int))↔((P.pg f).own=(i:Int)+1∨(P.pg f).wit=(i:Int)+1))
structure aA7(P:PtD)(i:Nat):Prop where
 vc:(P.gs i).aP=[]
 mp:(P.gs i).maps=[]
 fi:(P.gs i).first=0
 dy:(P.gs i).dying=true↔∃ f,f<P.pages.length∧(P.pg f).own=(i:Int)+1
def YK(P:PtD)(c:Nat):Prop:=((P.st c).vm=0∧(P.st c).cpu=0)∨(1≤(P.st c).vm∧(P.st c).vm≤4∧(P.gs (ix (P.st c).vm)).live=true∧0≤(P.st c).cpu∧(P.st c).cpu.toNat<(P.gs (ix (P.st c).vm)).aP.length∧(P.gs (ix (P.st c).vm)).aP.getD (P.st c).cpu.toNat 0=(c:Int))
def aN'(P:PtD)(f:Nat):Prop:=f<16∨∃ i,i<4∧(P.gs i).live=true∧(P.gs i).first≤f∧f<(P.gs i).first+5
def aA8(P:PtD)(x:o6):Prop:=x.own=0→x.wit= -2∨x.wit= -1∨(1≤x.wit∧x.wit≤4∧(P.gs (ix x.wit)).live=true)
def ai0(P:PtD)(x:o6):Prop:=0<x.own→x.wit= -2∨(x.wit=0∧(P.gs (ix x.own)).live=true)
structure Ok2(P:PtD):Prop where
 n0:24≤P.pages.length
 n1:P.pages.length≤64
 g4:P.ay.length=4
 o1:1≤P.on.length
 o3:P.on.length≤3
 dead:∀ i,i<4→(P.gs i).live=false→aA7 P i
 Wy:∀ i,i<4→(P.gs i).live=true→aN9 P i
 apart:∀ i j,i<j→j<4→(P.gs i).live=true→(P.gs j).live=true→(P.gs i).first+5≤(P.gs j).first∨(P.gs j).first+5≤(P.gs i).first
 hyp:∀ f,f<P.pages.length→((P.pg f).own= -1↔P.aN' f)
 N8:∀ f,f<P.pages.length→(P.pg f).own= -1→(P.pg f).wit= -2
 who:∀ f,f<P.pages.length→-1≤(P.pg f).own∧(P.pg f).own≤4
 host:∀ f,f<P.pages.length→aA8 P (P.pg f)
 Gn:∀ f,f<P.pages.length→ai0 P (P.pg f)
 seat:∀ c,c<P.on.length→YK P c
theorem Na{who:Int}:P.owns who=true↔∃ f,f<P.pages.length∧(P.pg f).own=who:=by
 rw[owns,bL'];constructor
 ·rintro⟨x,hx,h⟩;obtain⟨k,hk,rfl⟩:=zB hx;exact⟨k,hk,of_decide_eq_true h⟩
 ·rintro⟨f,hf,h⟩;exact⟨P.pg f,getD_mem hf,decide_eq_true h⟩
theorem pG{n:Int}:P.lives n=true↔(1≤n∧n≤4∧(P.gs (ix n)).live=true):=by
 simp only[lives,cZ,bG8,decide_eq_true_eq,and_assoc];rfl
theorem ai1:Ok P↔Ok2 P:=by
 constructor
 ·intro h;refine⟨h.n0,h.n1,h.g4,h.o1,h.o3,fun i hi hl=>?_,fun i hi hl=>?_,h.apart,h.hyp,h.N8,h.who,fun f hf h0=>?_,fun f hf h0=>?_,fun c hc=>?_⟩
  ·obtain⟨a,b,c,d⟩:=h.dead i hi hl;exact⟨bT7.1 a,bT7.1 b,c,by rw[d,Na]⟩
  ·obtain⟨a,b,c,d,e,f,g⟩:=h.Wy i hi hl;refine⟨a,b,c,d,fun v hv=>?_,ES.1 f,fun q hq=>?_⟩
   ·have:=e v hv;simp only[nC,cZ,bI9,bG8,decide_eq_true_eq] at this;rcases this with h1 | ⟨⟨h1,h2⟩,h3,h4⟩
    ·exact .inl h1
    ·exact .inr ⟨h1,by omega,h3,h4⟩
   ·have:=g q hq;rw[bH4,bL'] at this;simpa [uses] using this
  ·have:=h.host f hf h0;rw[pG] at this;exact this
  ·have:=h.Gn f hf h0;rw[pG] at this;rcases this with h1 | ⟨h1,_,_,h2⟩
   ·exact .inl h1
   ·exact .inr ⟨h1,h2⟩
  ·have:=h.seat c hc;unfold YK;simp only[seated] at this
   cases hv:decide ((P.st c).vm=0) with
   | true=>rw[hv] at this;simp at this hv;exact .inl ⟨hv,this⟩
   | false=>
    rw[hv] at this;simp only[cond_false,bG8,decide_eq_true_eq,pG,cZ] at this;obtain⟨⟨⟨a,b,c'⟩,d,e⟩,f⟩:=this;exact .inr ⟨a,b,c',d,by unfold ix;omega,f⟩
 ·intro h;refine⟨h.n0,h.n1,h.g4,h.o1,h.o3,fun i hi hl=>?_,fun i hi hl=>?_,h.apart,h.hyp,h.N8,h.who,fun f hf h0=>?_,fun f hf h0=>?_,fun c hc=>?_⟩
  ·obtain⟨a,b,c,d⟩:=h.dead i hi hl;exact⟨by rw[a];rfl,by rw[b];rfl,c,by rw[bH4,d,Na]⟩
  ·obtain⟨a,b,c,d,e,f,g⟩:=h.Wy i hi hl;refine⟨a,b,c,d,fun v hv=>?_,ES.2 f,fun q hq=>?_⟩
   ·simp only[nC,cZ,bI9,bG8,decide_eq_true_eq];rcases e v hv with h1 | ⟨h1,h2,h3,h4⟩
    ·exact .inl h1
    ·exact .inr ⟨⟨h1,by omega⟩,h3,h4⟩
   ·rw[bH4,bL'];simpa [uses] using g q hq
  ·have:=h.host f hf h0;rw[pG];exact this
  ·rw[pG];rcases h.Gn f hf h0 with h1 | ⟨h1,h2⟩
   ·exact .inl h1
   ·exact .inr ⟨h1,by omega,(h.who f hf).2,h2⟩
  ·simp only[seated];rcases h.seat c hc with⟨a,b⟩ | ⟨a,b,c',d,e,f⟩
   ·simp[a,b]
   ·have hv:decide ((P.st c).vm=0)=false:=by simp;omega
    rw[hv];simp only[cond_false,bG8,decide_eq_true_eq,pG,cZ];exact⟨⟨⟨a,b,c'⟩,d,by unfold ix at e;omega⟩,f⟩
theorem ai2:P.may=true↔Ok2 P:=sS.trans ai1
end PtD
section
attribute [local irreducible] Hy St Ops DH dI
namespace PtD
end PtD
section
variable {P : PtD} {Y : Lay} {bx tx : Nat} {w : World}
theorem Be(h:dR P Y)(hm:P.may=true)(hN:eU (Y.hd P bx 149) w)(cpu vm fr mid vc cc:Int)(hw:wR.Wf ⟨5,vm,fr,mid,vc,cc⟩):Fn Tryz.prog 68 [.pointer (some ⟨bx,0,none⟩),.int .i64 cpu,uh ⟨5,vm,fr,mid,vc,cc⟩].toArray w ((Y.hd P bx 149).map (·.b)) (jh bx 149 (P.qO fr)):=by
 refine eH _ hN Tryz.func68 ?_;refine run ?_;intro C;refine aN ?_;refine ja (Y.hd P bx 149) [⟨C,#[.int .i64 5,.int .i64 vm,.int .i64 fr,.int .i64 mid,.int .i64 vc,.int .i64 cc],37⟩] (fun wc hG=>YI h hm hG.iT ⟨5,vm,fr,mid,vc,cc⟩ hw) (fun v hn hR=>?_) bD7;refine aN ?_;refine fin1 ?_;exact hR.le aj
end
end
namespace PtD
def ET(P:PtD)(cpu:Nat)(c:wR):Except Int PtD:=
 bif decide (c.kind=1) then P.YE c.vm c.frame c.mid else bif decide (c.kind=2) then P.MX c.frame else bif decide (c.kind=3) then P.oV c.vm c.frame c.mid
 else bif decide (c.kind=4) then P.MW c.frame else bif decide (c.kind=5) then P.qO c.frame else bif decide (c.kind=6) then P.MZ c.vm
 else bif decide (c.kind=7) then P.moreL c.vm else bif decide (c.kind=8) then P.vM cpu c.vm c.fO else .error 9
def xQ(P:PtD)(cpu:Nat)(c:wR):Except Int PtD:=
 bif decide (c.kind=10) then P.YA (P.st cpu).vm c.mid (-2) 0 4 else bif decide (c.kind=11) then P.YA (P.st cpu).vm c.mid 0 (-2) 6 else bif decide (c.kind=9) then .ok (P.aN6 cpu) else .error 9
def Cj(P:PtD)(cpu:Nat)(c:wR):Except Int PtD:=bif decide ((P.st cpu).vm=0) then P.ET cpu c else P.xQ cpu c
end PtD
section
def BM(vs:List kM)(n:Int):Bool:=vs.any fun v=>v.live&&decide (v.aO=n)
def Rt(vs:List kM):Nat→Int→Int
 | 0,n=>n
 | k+1,n=>bif BM vs n then Rt vs k (n+1) else n
def zC(vs:List kM):Int:=Rt vs (vs.length+1) 1
def EU(vs:List kM)(n:Int):Nat:=(vs.filter fun v=>v.live&&decide (n≤v.aO)).length
theorem EW{vs:List kM}{n:Int}(h:BM vs n=true):EU vs (n+1)<EU vs n:=by
 unfold BM at h;unfold EU
 induction vs with
 | nil=>simp at h
 | cons v vs ih=>
  rw[List.any_cons,bI9] at h
  have hle:∀ l:List kM,(l.filter fun v=>v.live&&decide (n+1≤v.aO)).length≤(l.filter fun v=>v.live&&decide (n≤v.aO)).length:=fun l=>by
   induction l with
   | nil=>exact bI0 _
   | cons x l ihl=>
    simp only[bV4]
    cases hx:(x.live&&decide (n+1≤x.aO)) with
    | true=>
     simp only[bG8,decide_eq_true_eq] at hx;rw[show (x.live&&decide (n≤x.aO))=true by simp only[bG8,decide_eq_true_eq];exact⟨hx.1,by omega⟩]
     simpa using ihl
    | false=>
     simp only[bN8,if_false];split
     ·exact Nat.le_succ_of_le ihl
     ·exact ihl
  simp only[bV4];rcases h with h | h
  ·simp only[bG8,decide_eq_true_eq] at h;rw[show (v.live&&decide (n+1≤v.aO))=false by rw[h.1,decide_eq_false bA4];rfl,show (v.live&&decide (n≤v.aO))=true by rw[h.1,decide_eq_true bA4];rfl];simp only[if_true,bN8,if_false,bK8];exact Nat.lt_succ_of_le (hle vs)
  ·have h2:=ih h
   cases hx:(v.live&&decide (n+1≤v.aO)) with
   | true=>
    simp only[bG8,decide_eq_true_eq] at hx;rw[show (v.live&&decide (n≤v.aO))=true by simp only[bG8,decide_eq_true_eq];exact⟨hx.1,by omega⟩]
    simpa using h2
   | false=>
    simp only[bN8,if_false];split
    ·exact Nat.lt_succ_of_lt h2
    ·exact h2
theorem Nc{vs:List kM}:∀ (j k:Nat) (n:Int),EU vs n<k→(∀ i:Nat,i<j→BM vs (n+i)=true)→BM vs (n+j)=false→Rt vs k n=n+j
 | 0,0,n,h,_,_=>absurd h (bK2 _)
 | j,k+1,n,h,h1,h2=>by
  rw[Rt]
  cases j with
  | zero=>rw[show (n+((0:Nat):Int))=n by omega] at h2 ⊢;rw[h2];rfl
  | succ j=>
   have h0:=h1 0 (Nat.succ_pos _);rw[show n+((0:Nat):Int)=n by omega] at h0;rw[h0,cond_true];have hc:=EW h0;rw[Nc j k (n+1) bA4 (fun i hi=>by have:=h1 (i+1) bA4;rwa [show n+((i+1:Nat):Int)=n+1+(i:Int) by omega] at this) (by rwa [show n+((j+1:Nat):Int)=n+1+(j:Int) by omega] at h2)];omega
theorem Nh(vs:List kM)(n:Int):EU vs n≤vs.length:=bR4 ..
namespace HyD
variable (H : HyD)
def zD(D:Int→DsD):List Int→HyD→HyD
 | [],H=>H
 | f::r,H=>zD D r (H.hst f.toNat (D f))
def aA9(i:Nat)(v:kM):HyD:={ H with vs:=H.vs.set i v }
def ai3(n:Int)(mid:Int)(d:DsD):HyD:=
 let i:=(n-1).toNat
 let r:=Eo H.ws (H.vu i).root (H.vu i).fr mid d
 { H with ws:=r.ws,vs:=H.vs.set i { H.vu i with fr:=r.left } }
def Ru(l:List Int):HyD:={ H with ws:=oq H.ws l }
def Nj(cpu:Nat)(vm vc:Int):HyD:=
 let i:=(vm-1).toNat
 ⟨H.ws,H.cs.set cpu { H.cu cpu with r:=((H.vu i).vs.getD vc.toNat default).r,vm:=vm,vc:=vc },H.vs.set i { H.vu i with vs:=(H.vu i).vs.set vc.toNat ⟨jb,(cpu:Int)⟩ },H.rs.set cpu (H.cu cpu).r⟩
def je(f:Int):List Int:=[f,f+1,f+2,f+3,f+4]
def UL(was is:PtD):Nat:=(List.range 4).foldl (fun a i=>bif (is.gs i).live&&!(was.gs i).live then i else a) 0
def wL(f:Int)(a:Nat):HyD:=
 let G:=(zD (fun _=>jO 1) (je f) H).Ru (je f)
 G.aA9 a ⟨true,false,zC H.vs,je f,(je f).drop 1,[]⟩
def zF(vm f mid:Int):HyD:=(H.hst f.toNat (jO (1+vm))).ai3 vm mid (bg f 0)
end HyD
end
section
attribute [local irreducible] Hy St Ops DH dI jl iR gX DS iw lV
section
variable {n : Nat} {w0 : World} {mu : List Nat} {l : Fm} {hp hp' : Hp} {ty : TypeId} {pos : String} {af : Array Edge} {Q : Exit → Fm → Hp → Prop} {all : Array Oper} {rest : List Oper}
end
def HR(X:Nat)(tl:List Value)(ty:TypeId)(H:HyD)(u:Value)(hn:Hp):Prop:=u=.tuple #[]∧∃ L,AQ L H∧aJ (L.hp X tl ty) hn
def Hr(L L':HL):Prop:=L'.vv=L.vv∧L'.vs=L.vs∧L'.hv=L.hv∧L'.hz=L.hz
theorem Hr.trans{A B C:HL}(h:Hr A B)(h2:Hr B C):Hr A C:=⟨h2.1.trans h.1,h2.2.1.trans h.2.1,h2.2.2.1.trans h.2.2.1,h2.2.2.2.trans h.2.2.2⟩
def HRk(L:HL)(X:Nat)(tl:List Value)(ty:TypeId)(H:HyD)(u:Value)(hn:Hp):Prop:=u=.tuple #[]∧∃ L',AQ L' H∧Hr L L'∧aJ (L'.hp X tl ty) hn
theorem HRk.r{L:HL}{tl:List Value}{ty:TypeId}{u:Value}{hn:Hp}(h:HRk L X tl ty H u hn):HR X tl ty H u hn:=by
 obtain⟨e,L',h1,_,h2⟩:=h;exact⟨e,L',h1,h2⟩
theorem EX:∀ (ls:List (List fG×List jC)),(∀ t∈ls,t.1.length<100000∧t.2.length<100000)→∃ (ts:List uu) (h:Hp),fU wQ ts h∧ts.map uu.p=ls
 | [],_=>⟨[],[],trivial,rfl⟩
 | x::r,hx=>by
  obtain⟨ts,h,h1,h2⟩:=EX r fun t ht=>hx t (bH8 _ ht);obtain⟨b1,b2⟩:=hx x (bH' ..);obtain⟨a1,g1,o1⟩:=dY (e:=80) (xs:=x.1.map iC) tH bA7;obtain⟨a2,g2,o2⟩:=dY (e:=127) (xs:=x.2.map lg) AP bA7;obtain⟨q1,c1,e1⟩:=o1.opened;obtain⟨q2,c2,e2⟩:=o2.opened;rw[bG9] at e1 e2;subst e1 e2;exact⟨⟨x.1,x.2,q1,c1,q2,c2⟩::ts,(g1++g2)++h,⟨g1++g2,h,⟨g1,g2,o1,o2,⟨b1,b2⟩,aJ.refl _⟩,h1,aJ.refl _⟩,by rw[bL0,h2]⟩
theorem w_all(xs:List Nat):∀ c∈xs.map uV,c.length=1∧c.all (·.oneCell')=true:=ao9 xs
theorem P5(xs:List uu):∀ c∈xs.map TC,c.length=2∧c.all (·.oneCell')=true:=by
 intro c hc;obtain⟨x,_,rfl⟩:=bH9.1 hc;exact⟨rfl,rfl⟩
theorem EY{a b c d:Value}{tl:List Value}{ty:TypeId}(h:w.heap[X]?=some (.cells (a::b::c::d::tl).toArray ty (0,0))):w.rangeAt X 0 [a,b,c,d]:=by
 have:=aV (k:=0) (n:=4) (qN h) rfl;simpa using this
theorem Rw(ws:List Nat)(root:Int)(page level:Nat)(d:DsD):(fC ws root page level d).ws.length≤ws.length:=by
 unfold fC;dsimp only
 cases (!(aQ ws root page level).ok) with
 | true=>exact bH3 _
 | false=>
  rw[cond_false]
  cases (!decide ((aQ ws root page level).lv=level)) with
  | true=>exact bH3 _
  | false=>exact Nat.le_of_eq (kG ..)
theorem Own.blk{e sz:Nat}{h:Hp}{xs:List (List Value)}(hA:Own e sz v h xs){b o n:Nat}(hv:v=.slice (some ⟨b,o,none⟩) n k):∃ x∈h,x.b=b:=by
 subst hv;rcases hA.2 with⟨_,h2,_⟩ | ⟨g,cap,cur,h2,rfl,_⟩
 ·cases h2
 ·cases h2;exact⟨_,bM5.2 rfl,rfl⟩
theorem Dq(cs:List jK)(ts:List uu):∀ k j,(TW cs ts k)[j]?=(cs[j]?).map fun c=>if j<k then { c with t:=ts.getD j default } else c
 | 0,j=>by
  simp only[TW,bK2,if_false]
  cases cs[j]?<;>rfl
 | k+1,j=>by
  rw[TW,bR9,Dj];by_cases h:k=j
  ·subst h;by_cases hk:k<cs.length
   ·rw[if_pos rfl,if_pos hk,bH0 hk,bK7,if_pos (bX' k),bG',Dq cs ts k k,bH0 hk,bK7,if_neg (Nat.lt_irrefl k)];rfl
   ·rw[if_pos rfl,if_neg hk,bN4 bA4];rfl
  ·rw[if_neg h,Dq cs ts k j];by_cases h2:j<k
   ·simp[h2,Nat.lt_succ_of_lt h2]
   ·simp[h2,show ¬ j<k+1 by omega]
theorem aO0{cs:List jK}{ts:List uu}(h:ts.length=cs.length):(TW cs ts cs.length).map (·.t)=ts:=by
 apply bP';intro j;rw[bJ1,Dq];by_cases hj:j<cs.length
 ·rw[bH0 hj,bK7,bK7,if_pos hj,bH0 bA4,bG',bH0 bA4];rfl
 ·rw[bN4 bA4,bN4 bA4];rfl
theorem aO1{cs:List jK}{us:List JP}{ts:List uu}{f:uu→List fG×List jC}{F:JP→JP}(h:ts.map uu.p=(cs.map (·.t)).map f)(hu:cs.map jK.u=us)(hF:∀ c:jK,F c.u=⟨c.r,c.vm,c.vc,(f c.t).1,(f c.t).2⟩):(TW cs ts cs.length).map jK.u=us.map F:=by
 subst hu;have hl:ts.length=cs.length:=by have:=congrArg List.length h;simpa using this
 apply bP';intro j;rw[bJ1,Dq,bW1,bJ1];by_cases hj:j<cs.length
 ·have h9:=congrArg (fun l=>l[j]?) h;simp only[bJ1,bH0 hj,bH0 (show j<ts.length by omega),bK7,bJ2] at h9;rw[bH0 hj,bK7,bK7,bK7,if_pos hj,bG',bH0 (show j<ts.length by omega),bO3,Function.comp,hF,←h9];rfl
 ·rw[bN4 bA4];rfl
def ai4(ws':List Nat)(ts:List uu)(aO mid:Int)(u:Value)(hn:Hp):Prop:=∃ v1 h1 v ha hs ts',u=.tuple #[.agg #[v1],v,.int .i64 0]∧Own 53 1 v1 h1 (ws'.map uV)∧Own 72 2 v ha (ts'.map TC)∧fU wQ ts' hs∧ts'.map uu.p=ts.map (fun t=>(mM t.es (tK aO mid),t.ds))∧aJ (h1++(ha++hs)) hn
theorem UM(ws':List Nat)(hw:ws'.length<100000)(ts:List uu)(aO mid:Int)(hl:ts.length<100000)(ht:∀ t∈ts,t.es.length<100000∧t.ds.length<100000):∃ u hn,ai4 ws' ts aO mid u hn:=by
 obtain⟨v1,h1,o1⟩:=dY (e:=53) (w_all ws') bA7
 obtain⟨ts',hs,r1,r2⟩:=EX (ts.map (fun t=>(mM t.es (tK aO mid),t.ds))) (fun x hx=>by
  obtain⟨t,h,rfl⟩:=bH9.1 hx;have:=ht t h
  exact⟨bN3 (bR4 ..) this.1,this.2⟩)
 have hl':ts'.length=ts.length:=by have:=congrArg List.length r2;simpa using this
 obtain⟨v,ha,o2⟩:=dY (e:=72) (P5 ts') bA7;exact⟨_,_,v1,h1,v,ha,hs,ts',rfl,o1,o2,r1,r2,aJ.refl _⟩
theorem P6(L:HL)(H:HyD)(h:AQ L H)(hW:H.lW)(root aO:Int)(mid:Nat)(hv:PtD.cZ aO 0 15=true)(hmid:mid≤4095)(d:DsD)(hd:d.may 2 3=true)(hg:(iG H.ws root mid).e=0)(hg3:(iG H.ws root mid).level=3){pv gv ov:Value}(hN:eU (L.hp X [pv,gv,ov] 90) w):
  Fn Tryz.prog 162 [.pointer (some ⟨X,0,none⟩),.int .i64 root,.int .i64 aO,.int .i64 (mid:Int),uk d].toArray w ((L.hp X [pv,gv,ov] 90).map (·.b)) (HRk L X [pv,gv,ov] 90 (H.chg root aO mid d)):=by
 obtain⟨wv,cv,vv,rv,cs,vs,hw,hc,ht,hvv,hz,hr⟩:=L;obtain⟨P7,gw,gc,gt,BN,gz,gr,ec,ev⟩:=h;dsimp only at gw gc gt BN gz gr ec ev;have ecl:cs.length=H.cs.length:=by rw[←ec,bG9]
 have hc1:=hW.c1;obtain⟨g,cap,cur,rfl,rfl,hrow⟩:=gc.row (n:=cs.length) bA6 bA4;obtain⟨wp,Vg,e1⟩:=gw.opened;rw[bG9] at e1;subst e1;simp only[HL.hp,HL.rest] at hN ⊢;refine eH _ hN Tryz.func162 ?_;refine run ?_;intro Db;have hlt:=fun (wc:World) (hH:Here ht wc) (c:jK) (hc:c∈cs)=>gt.each (Q:=fun t=>aA wc t.ev 14 (t.es.map iC)∧aA wc t.dv 4 (t.ds.map lg)) (fun t a ha hw=>ha.lie hw) hH c.t (bH9.2 ⟨c,hc,rfl⟩)
 have hok:∀ t∈cs.map (·.t),dQ t.es t.ds=true:=fun t ht'=>by
  obtain⟨c,hc,rfl⟩:=bH9.1 ht';exact hW.tl c.u (by rw[←ec];exact bH9.2 ⟨c,hc,rfl⟩)
 have hc3:=hW.c3;have rZ:=bP hW.m
 have hex:∃ u hn,ai4 (fC (fC H.ws root mid 3 dG).ws root mid 3 d).ws (cs.map (·.t)) aO mid u hn:=by
  refine UM _ ?_ _ _ _ bA7 (fun t ht'=>?_)
  ·have a1:=Rw H.ws root mid 3 dG;have a2:=Rw (fC H.ws root mid 3 dG).ws root mid 3 d;omega
  ·have:=pF (hok t ht');omega
 refine av2 17 [0,1,2,3,4,5,7,8,9,10] [6,11,16] [12,13,14,15] [18,19] [17] ?_;refine gK ?_;refine mE ?_;refine kD (fun wc hG=>ae1 cs (wv:=.slice wp H.ws.length Vg) (cv:=.slice (some ⟨g,0,none⟩) cs.length cap) (vv:=vv) (rv:=rv) ?_ (gc.lie (fun e he=>hG.here e bG0) bA7) bA4) ?_ ?_
 ·exact EY (tl:=[pv,gv,ov]) (hG.here ⟨X,#[.slice wp H.ws.length Vg,.slice (some ⟨g,0,none⟩) cs.length cap,vv,rv,pv,gv,ov],90⟩ bA6)
 ·obtain⟨v,ha,o2⟩:=dY (e:=72) (P5 (cs.map (·.t))) bE5;exact⟨v,ha,ha,o2,aJ.refl _⟩
 refine kP ?_;refine mOn 6 (R:=ai4 (fC (fC H.ws root mid 3 dG).ws root mid 3 d).ws (cs.map (·.t)) aO mid) ?_ ?_ ?_
 ·rintro v hn ⟨ha,hA,hle⟩;obtain⟨tp,tc,et⟩:=hA.opened;rw[bG9,bG9] at et;subst et;refine kD (R:=ai4 (fC (fC H.ws root mid 3 dG).ws root mid 3 d).ws (cs.map (·.t)) aO mid) (fun wc hG=>TV (cs.map (·.t)) H.ws hW.Df hW.m root aO mid hv hmid d hd hg hg3 (gw.lie (fun e he=>hG.here e bC2) bA7) ⟨hA.lie (fun e he=>hG.here e (by have:=hle.mem he;simp[this])) bE5,fun t ht'=>?_,fun t ht'=>?_⟩ gt.caps hok bA7) hex ?_
  ·obtain⟨c,hc,rfl⟩:=bH9.1 ht';exact (hlt wc (fun e he=>hG.here e bC2) c hc).1
  ·obtain⟨c,hc,rfl⟩:=bH9.1 ht';exact (hlt wc (fun e he=>hG.here e bC2) c hc).2
  exact kP rfl
 ·obtain⟨v,ha,o2⟩:=dY (e:=72) (P5 (cs.map (·.t))) bE5;exact⟨v,ha,ha,o2,aJ.refl _⟩
 refine mE ?_;refine sQ ?_;refine kP ?_;refine aU4 ?_;rintro _ _ ⟨Mb,rfl,rfl⟩ u hn ⟨v1,h1,v2,ha,hs,ts',rfl,o1,o2,r1,r2,hle⟩ tv htl hTl;obtain⟨pw,c1,e1⟩:=o1.opened;obtain⟨pt,c2,e2⟩:=o2.opened;rw[bG9] at e1 e2;subst e1 e2;have hl':ts'.length=cs.length:=by have:=congrArg List.length r2;simpa using this
 refine yG ?_;refine dX ?_;refine dX ?_;refine dX ?_;refine jM ?_;refine oN ?_;refine oN ?_;refine jM ?_;simp only[DN,bH2,bH5,bI3];refine WR (b:=Mb) (tb:=24) (cs:=#[.slice none 0 0]) (cs':=#[.slice pw (fC (fC H.ws root mid 3 dG).ws root mid 3 d).ws.length c1]) (hp':=hn++htl++⟨Db,#[.int .i64 d.kind,.int .i64 d.frame,.bool d.r,.bool d.w,.bool d.x,.bool d.af,.bool d.ng,.int .i64 d.soft,.int .i64 d.note],95⟩::⟨X,#[.slice wp H.ws.length Vg,.slice (some ⟨g,0,none⟩) cs.length cap,vv,rv,pv,gv,ov],90⟩::(hw++⟨g,cur,74⟩::(ht++(hvv++(hz++hr))))) ?_ (hput:=rfl) (hperm:=by (exact aT));refine dh ?_;refine kR ?_;refine aS (⟨Mb,#[.slice pw (fC (fC H.ws root mid 3 dG).ws root mid 3 d).ws.length c1],24⟩::⟨X,#[.slice wp H.ws.length Vg,.slice (some ⟨g,0,none⟩) cs.length cap,vv,rv,pv,gv,ov],90⟩::⟨g,cur,74⟩::(h1++(ha++(hs++(hvv++(hz++hr)))))) (cnt1 hle) ?_;refine run ?_;refine ja [⟨g,cur,74⟩] (⟨X,#[.slice pw (fC (fC H.ws root mid 3 dG).ws root mid 3 d).ws.length c1,.slice (some ⟨g,0,none⟩) cs.length cap,vv,rv,pv,gv,ov],90⟩::⟨Mb,#[.slice pw (fC (fC H.ws root mid 3 dG).ws root mid 3 d).ws.length c1],24⟩::(h1++(ha++(hs++(hvv++(hz++hr)))))) (fun wc hG=>LJ cs ts' hl' bA4 (EY (tl:=[pv,gv,ov]) (hG.here ⟨X,#[.slice pw (fC (fC H.ws root mid 3 dG).ws root mid 3 d).ws.length c1,.slice (some ⟨g,0,none⟩) cs.length cap,vv,rv,pv,gv,ov],90⟩ bA6)) (fun e=>(hG.Hq (e:=⟨X,#[.slice pw (fC (fC H.ws root mid 3 dG).ws root mid 3 d).ws.length c1,.slice (some ⟨g,0,none⟩) cs.length cap,vv,rv,pv,gv,ov],90⟩) bA6) (by simpa using e)) gc (o2.lie (fun e he=>hG.here e bC2) bA7) (fun b o n k hv' e=>?_) hG.iT) (fun v hn3 hv3=>?_) aT
 ·obtain⟨x,hx,hxb⟩:=o2.blk hv';exact (hG.Hq (e:=x) (by simp[hx])) (by simp[hxb,e])
 obtain⟨rfl,uY,o3,hle3⟩:=hv3;refine run ?_;refine fin0 ⟨rfl,⟨.slice pw (fC (fC H.ws root mid 3 dG).ws root mid 3 d).ws.length c1,.slice (some ⟨g,0,none⟩) cs.length cap,vv,rv,TW cs ts' cs.length,vs,h1,[⟨g,uY,74⟩],hs,hvv,hz,hr⟩,?_,⟨rfl,rfl,rfl,rfl⟩,?_⟩
 ·refine⟨EG (EG hW.Df _ _ _ _) _ _ _ _,o1,o3,by dsimp only;rw[aO0 hl'];exact r1,BN,gz,gr,aO1 r2 ec fun c=>rfl,ev⟩
 ·simp only[HL.hp,HL.rest]
  (exact cnt1 hle3)
end
section
attribute [local irreducible] Hy St Ops DH dI jl iR gX DS iw lV
theorem Ht(D:Int→DsD)(f:Int):∀ (l:List Int) (H:HyD),HyD.zD D (l++[f]) H=(HyD.zD D l H).hst f.toNat (D f)
 | [],_=>rfl
 | x::l,H=>Ht D f l _
theorem Bf{D:Int→DsD}:∀ {l:List Int} {H:HyD},H.lW→(HyD.zD D l H).lW
 | [],_,h=>h
 | x::l,H,h=>Bf (l:=l) (h.hst _)
theorem Nk{D:Int→DsD}:∀ {l:List Int} {H:HyD},(HyD.zD D l H).ws.length=H.ws.length
 | [],_=>rfl
 | x::l,H=>by rw[HyD.zD,Nk];exact kG ..
theorem YL(L:HL)(H:HyD)(h:AQ L H)(hW:H.lW){F:Nat}{us:List Value}(D:Int→DsD)(fs:List Int)(hf:∀ f∈fs,0≤f∧f<64)(hd:∀ f∈fs,(D f).may 2 3=true){pv gv ov:Value}(hv:aA w v 1 (fs.map bY))(hvo:∀ b o n k,v=.slice (some ⟨b,o,none⟩) n k→b∉(L.hp X [pv,gv,ov] 90).map (·.b))
  (hF:∀ f∈fs,∀ w' hp,Good w ((L.hp X [pv,gv,ov] 90).map (·.b)) hp w'→Fn Tryz.prog F ([]++[Value.int .i64 f]++us).toArray w' [] (fun u _=>u=uk (D f))) (hN:eU (L.hp X [pv,gv,ov] 90) w) (bK:mem iZ F=true:=by rfl):
  Fn Tryz.prog 78 [.pointer (some ⟨X,0,none⟩),.func (.func F) [].toArray us.toArray,v].toArray w ((L.hp X [pv,gv,ov] 90).map (·.b)) (HRk L X [pv,gv,ov] 90 (HyD.zD D fs H)):=by
 have hv':=hv;obtain⟨q,cap,rfl,hne,_⟩:=hv.opened;refine eH _ hN Tryz.func78 ?_;refine run ?_;refine aK (σ:=Nat×HL) (fun s=>[(10,.int .i64 (s.1:Int))]) (fun s=>s.2.hp X [pv,gv,ov] 90) (fun s=>s.1≤fs.length∧AQ s.2 (HyD.zD D (fs.take s.1) H)∧Hr L s.2) (fun s=>fs.length-s.1) (0,L) ⟨bH3 _,h,⟨rfl,rfl,rfl,rfl⟩⟩ ?_ (hh:=aJ.refl _);rintro⟨k,L1⟩ m hm ⟨hk,hL,hSV⟩;dsimp only at hm hk hL hSV ⊢;refine run ?_;refine ah _ rfl (fun hc=>?_) (fun hc=>?_)
 ·have hlt:k<fs.length:=by simpa using hc
  obtain⟨b,o,rfl⟩:=hne bA8;have hb:=hvo _ _ _ _ rfl;have hr:=ak (hv.row hlt);have hfk:=hf _ (getD_mem hlt);have hdk:=hd _ (getD_mem hlt);have hFk:=hF _ (getD_mem hlt);have htn:=dW hlt;generalize fs.getD k default=f at hr hfk hdk hFk htn;simp only[bJ5] at hr;refine run ?_;refine l9 (fs:=[]) (vs:=[.int .i64 f]) (us:=us) (fun wc hG=>hFk wc _ hG) ?_ (bK:=bK);refine run ?_;have hW1:(HyD.zD D (fs.take k) H).lW:=Bf hW;have rZ:=bP hW1.m;have hg:=hW1.t.get (k:=f.toNat) bA4;have hch:=fun (wc:World) (hN1:eU (L1.hp X [pv,gv,ov] 90) wc)=>P6 L1 _ hL hW1 0 0 f.toNat rfl bA4 (D f) hdk (by rw[hg]) (by rw[hg]) hN1;rw[show ((f.toNat:Nat):Int)=f by omega] at hch;refine ja (L1.hp X [pv,gv,ov] 90) [] (fun wc hG=>hch wc hG.iT) (fun v hn hR=>?_) (by rw[bI3]);obtain⟨rfl,L2,h2,a07,hle⟩:=hR;rw[HyD.ah1 hW1.t bA4] at h2;refine aS (L2.hp X [pv,gv,ov] 90) (by rw[bI3];exact hle) ?_;refine run ?_;refine aF (k+1,L2) ⟨hlt,?_,hSV.trans a07⟩ (hm:=by dsimp only;omega) (h2:=aJ.refl _);dsimp only;rw[htn,Ht];exact h2
 ·have hge:k=fs.length:=by simp at hc;omega
  subst hge;rw[bM6] at hL;refine run ?_;exact fin0 ⟨rfl,L1,hL,hSV,aJ.refl _⟩
theorem Rx(L:HL)(H:HyD)(h:AQ L H)(hW:H.lW){F:Nat}{us:List Value}(D:Int→DsD)(fs:List Int)(hf:∀ f∈fs,0≤f∧f<64)(hd:∀ f∈fs,(D f).may 2 3=true){pv gv ov:Value}(hv:aA w v 1 (fs.map bY))(hvo:∀ b o n k,v=.slice (some ⟨b,o,none⟩) n k→b∉(L.hp X [pv,gv,ov] 90).map (·.b))
  (hF:∀ f∈fs,∀ w' hp,Good w ((L.hp X [pv,gv,ov] 90).map (·.b)) hp w'→Fn Tryz.prog F ([]++[Value.int .i64 f]++us).toArray w' [] (fun u _=>u=uk (D f))) (hN:eU (L.hp X [pv,gv,ov] 90) w) (bK:mem iZ F=true:=by rfl):
  Fn Tryz.prog 78 [.pointer (some ⟨X,0,none⟩),.func (.func F) [].toArray us.toArray,v].toArray w ((L.hp X [pv,gv,ov] 90).map (·.b)) (HR X [pv,gv,ov] 90 (HyD.zD D fs H)):=
 Fn.mono (YL L H h hW D fs hf hd hv hvo hF hN bK) fun _ _ h=>h.r
theorem aA.aO2{w':World}{mu:List Nat}{hp:Hp}{sz:Nat}{xs:List (List Value)}(h:aA w v sz xs)(ho:∀ b o n k,v=.slice (some ⟨b,o,none⟩) n k→b∉mu)(hG:Good w mu hp w'):aA w' v sz xs:=by
 obtain⟨⟨p,c,rfl,hp⟩,hl⟩:=h;refine⟨⟨p,c,rfl,fun hne=>?_⟩,hl⟩;obtain⟨b,off',rfl,hr⟩:=hp hne;exact⟨b,off',rfl,fun i c hc j u hj=>hG.cell (hr i c hc j u hj) (ho _ _ _ _ rfl)⟩
theorem EZ:∀ {l:List Int} {ws:List Nat},lT ws→lT (oq ws l)
 | [],_,h=>h
 | f::l,_,h=>EZ (l:=l) (h.kT f)
theorem Nl(n:Int)(w:World):Fn Tryz.prog 79 [.int .i64 n].toArray w [] (fun u hn=>∃ C,u=.func (.func 163) [].toArray [.pointer (some ⟨C,0,none⟩)].toArray∧aJ [⟨C,#[.int .i64 n],3⟩] hn):=by
 refine enter Tryz.func79 ?_;refine run ?_;intro C;exact fin1 ⟨C,rfl,aJ.refl _⟩
theorem ai5(L:HL)(H:HyD)(h:AQ L H)(hW:H.lW)(fs:List Int)(hf:fs.all (bJ H.ws.length)=true){pv gv ov:Value}(hv:aA w v 1 (fs.map bY))(hvo:∀ b o n k,v=.slice (some ⟨b,o,none⟩) n k→b∉(L.hp X [pv,gv,ov] 90).map (·.b))(hN:eU (L.hp X [pv,gv,ov] 90) w):
  Fn Tryz.prog 82 [.pointer (some ⟨X,0,none⟩),v].toArray w ((L.hp X [pv,gv,ov] 90).map (·.b)) (HR X [pv,gv,ov] 90 (H.Ru fs)):=by
 obtain⟨wv,cv,vv,rv,cs,vs,hw,hc,ht,hvv,hz,hr⟩:=L;obtain⟨P7,gw,gc,gt,BN,gz,gr,ec,ev⟩:=h;dsimp only at gw gc gt BN gz gr ec ev;have rZ:=bP hW.m;have g3:=gw.sW;rw[bG9] at g3;obtain⟨wp,Vg,rfl,hwc⟩:=g3;simp only[HL.hp,HL.rest] at hN hvo ⊢;refine eH _ hN Tryz.func82 ?_;refine run ?_;refine bH (fun wc hG=>ah3 H.ws (gw.lie (fun e he=>hG.here e bC2) bA7) fs (hv.aO2 hvo hG) hW.m hf) ?_;rintro u hn ⟨v1,h1,rfl,o1,hle⟩;obtain⟨pw,c1,e1⟩:=o1.opened;rw[bG9] at e1;subst e1;refine aS (⟨X,#[.slice wp H.ws.length Vg,cv,vv,rv,pv,gv,ov],90⟩::(h1++(hc++(ht++(hvv++(hz++hr)))))) (cnt1 hle) ?_;dsimp only;refine run ?_;exact fin0 ⟨rfl,⟨.slice pw (oq H.ws fs).length c1,cv,vv,rv,cs,vs,h1,hc,ht,hvv,hz,hr⟩,⟨EZ P7,o1,gc,gt,BN,gz,gr,ec,ev⟩,aJ.refl _⟩
theorem ap4{g cap m:Nat}{rv:Value}(hX:w.rangeAt X 0 [wv,cv,.slice (some ⟨g,0,none⟩) m cap,rv])(n:Int)(hn:1≤n∧n≤(m:Int))(hm:m<100000):
  Fn Tryz.prog 83 [.pointer (some ⟨X,0,none⟩),.int .i64 n].toArray w [] (fun u _=>u=.pointer (some ⟨g,(n-1).toNat*6,none⟩)):=by
 have h1:w.cell? ⟨X,2,none⟩=some (.slice (some ⟨g,0,none⟩) m cap):=ak (aV (k:=2) (n:=1) hX rfl);refine enter Tryz.func83 ?_;refine run ?_;exact fin1 rfl
theorem ai6(m:eF)(n:Int)(C:Nat)(w:World)(hC:w.cell? ⟨C,0,none⟩=some (.int .i64 n)):Fn Tryz.prog 252 ([]++[Value.agg (mW m).toArray]++[Value.pointer (some ⟨C,0,none⟩)]).toArray w [] (fun u _=>u=.bool (m.live&&decide (m.aO=n))):=by
 refine enter Tryz.func252 ?_;refine run ?_;intro B;refine aC ?_;exact fin1 rfl
theorem ai7{vv rv:Value}(vs:List eF)(hX:w.rangeAt X 0 [wv,cv,vv,rv])(hV:aA w vv 6 (vs.map mW))(hl:vs.length<100000):
  Fn Tryz.prog 168 [.pointer (some ⟨X,0,none⟩)].toArray w [] (fun u hn=>u=.int .i64 (zC (vs.map eF.u))):=by
 have h1:w.cell? ⟨X,2,none⟩=some vv:=ak (aV (k:=2) (n:=1) hX rfl);have hV':=hV;obtain⟨q,cap,rfl,hne,_⟩:=hV.opened;refine enter Tryz.func168 ?_;refine run ?_;intro Nb;refine aK (σ:=Nat) (fun _=>[]) (fun j=>[⟨Nb,#[.int .i64 (1+(j:Int))],3⟩]) (fun j=>(∀ i:Nat,i<j→BM (vs.map eF.u) (1+(i:Int))=true)∧j+EU (vs.map eF.u) (1+(j:Int))≤vs.length) (fun j=>EU (vs.map eF.u) (1+(j:Int))) 0 ⟨fun i hi=>absurd hi (bK2 _),by have:=Nh (vs.map eF.u) (1+((0:Nat):Int));rw[bG9] at this;omega⟩ ?_;rintro j m hm ⟨hj,hlen⟩;refine run ?_;have hcell:=fun (wc:World) (hG:Good w [] [⟨Nb,#[.int .i64 (1+(j:Int))],3⟩] wc)=>hG.cell1 (bM5.2 rfl);refine az (fun wc hG=>xe (us:=[.pointer (some ⟨Nb,0,none⟩)]) (fun m=>m.live&&decide (m.aO=1+(j:Int))) vs _ (hV'.good hG) (fun m _ w' ha=>ai6 m (1+(j:Int)) Nb w' ?_)) ?_
 ·obtain⟨hp2,hg⟩:=ha;exact hg.cell (hcell wc hG) bA6
 have hany:(vs.any fun m=>m.live&&decide (m.aO=1+(j:Int)))=BM (vs.map eF.u) (1+(j:Int)):=by unfold BM;rw[List.any_map];rfl
 rw[hany];refine run ?_;refine ah _ rfl (fun hc=>?_) (fun hc=>?_)
 ·refine run ?_;rw[show 1+(j:Int)+1=1+((j+1:Nat):Int) by omega];have hnx:=EW hc;rw[show 1+(j:Int)+1=1+((j+1:Nat):Int) by omega] at hnx;refine aF (j+1) ⟨fun i hi=>?_,by omega⟩ (hm:=by omega);by_cases e:i=j
  ·subst e;exact hc
  ·exact hj i bA4
 ·refine run ?_;refine fin1 ?_;unfold zC;rw[Nc j _ 1 (by have:=Nh (vs.map eF.u) 1;omega) hj hc]
theorem E5(xs:List Int):∀ c∈xs.map bY,c.length=1∧c.all (·.oneCell')=true:=by
 intro c hc;obtain⟨x,_,rfl⟩:=bH9.1 hc;exact⟨rfl,rfl⟩
theorem UN(r:IZ)(h1:r.ws.length<100000)(h2:r.left.length<100000):∃ u hn,Tn r u hn:=by
 obtain⟨v,h,hO⟩:=dY (e:=53) (w_all r.ws) bA7;obtain⟨v2,h3,hO2⟩:=dY (e:=3) (E5 r.left) bA7;exact⟨_,_,v,h,v2,h3,rfl,hO,hO2,aJ.refl _⟩
theorem ai8{ws:List Nat}(hw:lT ws)(root:Int)(free:List Int)(page:Int)(d:DsD):TOk ws.length free.length (Eo ws root free page d):=by
 unfold Eo;exact mG (QL hw _ _ _ _) (Jb _ _ _)
theorem UO(L:HL)(H:HyD)(h:AQ L H)(hW:H.lW)(n:Int)(hn:1≤n∧n≤4)(hfs:0<(H.vu (n-1).toNat).fs.length)(mid:Int)(d:DsD){pv gv ov:Value}(hN:eU (L.hp X [pv,gv,ov] 90) w):
  Fn Tryz.prog 80 [.pointer (some ⟨X,0,none⟩),.int .i64 n,.int .i64 mid,uk d].toArray w ((L.hp X [pv,gv,ov] 90).map (·.b)) (HR X [pv,gv,ov] 90 (H.ai3 n mid d)):=by
 obtain⟨wv,cv,vv,rv,cs,vs,hw,hc,ht,hvv,hz,hr⟩:=L;obtain⟨P7,gw,gc,gt,BN,gz,gr,ec,ev⟩:=h;dsimp only at gw gc gt BN gz gr ec ev;have evl:vs.length=4:=by rw[←hW.v,←ev,bG9]
 have rZ:=bP hW.m;obtain⟨i,hi⟩:∃ i,i=(n-1).toNat:=⟨_,rfl⟩
 have hi4:i<vs.length:=by omega
 have hu:=rM ev i;rw[show H.vs.getD i default=H.vu i from rfl] at hu;rw[←hi,←hu] at hfs;have g3:=gw.sW;rw[bG9] at g3;obtain⟨wp,Vg,rfl,hwc⟩:=g3;obtain⟨g,cap,cur,rfl,rfl,hsz,qg,hput⟩:=BN.oO hi4;obtain⟨za,zb,⟨z1,z2,z3,o1,o2,o3,zl,hza⟩,hzz,xh⟩:=gz.out hi4;generalize hvm:vs.getD i default=vm at hfs hu qg hput o1 o2 o3 zl xh;simp only[HL.hp,HL.rest] at hN ⊢;refine eH _ hN Tryz.func80 ?_;refine run ?_;intro Db;refine run ?_;obtain⟨g1,cap1,YM,e1,rfl,hsz1,aO3,_⟩:=o1.oO (k:=0) hfs;obtain⟨qr,cr,er,hcr⟩:=o2.sW;rw[bG9] at er hcr;have bp9:0<vm.fs.length:=hfs;have n3:=qg 3 _ rfl;have n4:=qg 4 _ rfl;have n0:=aO3 0 _ rfl;rw[e1] at n3;rw[er] at n4;simp only[bQ6,Nat.mul_zero,bK6] at n0;have hroot:vm.fs.getD 0 default=(H.vu i).root:=by rw[←hu];rfl
 rw[hroot] at n0;refine az (fun wc hG=>ap4 (m:=vs.length) (EY (tl:=[pv,gv,ov]) (hG.here ⟨X,#[.slice wp H.ws.length Vg,cv,.slice (some ⟨g,0,none⟩) vs.length cap,rv,pv,gv,ov],90⟩ bA6)) n bA4 bA4) ?_;rw[←hi];refine aS (⟨X,#[.slice wp H.ws.length Vg,cv,.slice (some ⟨g,0,none⟩) vs.length cap,rv,pv,gv,ov],90⟩::⟨g,cur,62⟩::⟨g1,YM,3⟩::⟨Db,#[.int .i64 d.kind,.int .i64 d.frame,.bool d.r,.bool d.w,.bool d.x,.bool d.af,.bool d.ng,.int .i64 d.soft,.int .i64 d.note],95⟩::(z2++(z3++(zb++(hw++(hc++(ht++hr))))))) bC4 ?_;refine run ?_;refine Ah 24 [0,2,3,4,5,6,7,8,9,10,11,12,13,14,15,16,17,18] [19] [1,20,21,22,23] [24,25,26,28,29] [27,30] ?_;refine gK ?_;have hM:=ai8 (root:=(H.vu i).root) (free:=vm.fr) (page:=mid) (d:=d) P7;obtain⟨M,hMe⟩:∃ M,M=Eo H.ws (H.vu i).root vm.fr mid d:=⟨_,rfl⟩
 rw[←hMe] at hM;refine kD (R:=Tn M) (fun wc hG=>by rw[hMe];exact aw3 (vl:=.slice qr vm.fr.length cr) H.ws P7 (gw.lie (fun e he=>hG.here e bC2) bA7) bA4 vm.fr (by rw[←er];exact o2.lie (fun e he=>hG.here e bC2) bA7) (by rw[←er];exact o2.QK) bA4 (H.vu i).root mid d) (UN M (bN3 hM.2.1 bA4) (bN3 hM.2.2 bA4)) ?_;refine kP ?_;rintro u hn ⟨v1,h1,v2,h2,rfl,m1,m2,hle⟩;obtain⟨pw,c1,ew⟩:=m1.opened;obtain⟨pf,c2,ef⟩:=m2.opened;rw[bG9] at ew ef;subst ew ef;refine yG ?_;refine yG ?_;refine dX ?_;refine dX ?_;refine dX ?_;refine jM ?_;refine GH ?_;refine I8 ?_;refine I8 ?_;refine GH ?_;refine I8 ?_;refine jM ?_;simp only[DN,bH2,bH5,bI3];have hnew:=hput 4 [.slice pf M.left.length c2] { vm with fr:=M.left,rp:=pf,rc:=c2 } bA6 rfl ⟨rfl,rfl⟩;refine jg (b:=X) (tb:=90) (cs:=#[.slice wp H.ws.length Vg,cv,.slice (some ⟨g,0,none⟩) vs.length cap,rv,pv,gv,ov]) (cs':=#[.slice pw M.ws.length c1,cv,.slice (some ⟨g,0,none⟩) vs.length cap,rv,pv,gv,ov]) (hp':=hn++(⟨g,cur,62⟩::⟨g1,YM,3⟩::⟨Db,#[.int .i64 d.kind,.int .i64 d.frame,.bool d.r,.bool d.w,.bool d.x,.bool d.af,.bool d.ng,.int .i64 d.soft,.int .i64 d.note],95⟩::(z2++(z3++(zb++(hw++(hc++(ht++hr)))))))) ?_ aT;refine uQ (v:=.slice pf M.left.length c2) aB (b:=g) (cs:=cur) (cs':=putAt cur (i*6+4) [.slice pf M.left.length c2]) (tb:=62) (off:=i*6+4) (vs:=[.slice pf M.left.length c2]) (hp':=⟨X,#[.slice pw M.ws.length c1,cv,.slice (some ⟨g,0,none⟩) vs.length cap,rv,pv,gv,ov],90⟩::(hn++(⟨g1,YM,3⟩::⟨Db,#[.int .i64 d.kind,.int .i64 d.frame,.bool d.r,.bool d.w,.bool d.x,.bool d.af,.bool d.ng,.int .i64 d.soft,.int .i64 d.note],95⟩::(z2++(z3++(zb++(hw++(hc++(ht++hr))))))))) rfl rfl rfl rfl rfl rfl aT rfl (by show i*6+4+1≤_;omega) rfl aj ?_;refine dh ?_;refine kR ?_;refine run ?_
 have hmap:H.ai3 n mid d=⟨M.ws,H.cs,H.vs.set i { H.vu i with fr:=M.left },H.rs⟩:=by
  have hfr:(H.vu i).fr=vm.fr:=by rw[←hu];rfl
  unfold HyD.ai3;rw[←hi,hMe];dsimp only;rw[hfr]
 rw[hmap];refine fin0 ⟨rfl,⟨.slice pw M.ws.length c1,cv,.slice (some ⟨g,0,none⟩) vs.length cap,rv,cs,vs.set i { vm with fr:=M.left,rp:=pf,rc:=c2 },h1,hc,ht,[⟨g,putAt cur (i*6+4) [.slice pf M.left.length c2],62⟩],([⟨g1,YM,3⟩]++(h2++z3))++zb,hr⟩,⟨hM.1,m1,gc,gt,hnew,xh _ _ ⟨[⟨g1,YM,3⟩],h2,z3,o1,m2,o3,⟨zl.1,bN3 hM.2.2 zl.2.1,zl.2.2⟩,aJ.refl _⟩,gr,ec,?_⟩,?_⟩
 ·dsimp only;rw[bM',ev,←hu];rfl
 ·simp only[HL.hp,HL.rest]
  (exact cnt1 hle)
theorem ai9(n:Int)(h0:-100≤n∧n≤1000)(w:World):Fn Tryz.prog 164 [.int .i64 n].toArray w [] (fun u _=>u=uk (jO (1+n))):=by
 refine enter Tryz.func164 ?_;refine run ?_;intro B;refine run ?_;exact dS (cs:=#[.int .i64 0,.int .i64 0,.bool false,.bool false,.bool false,.bool false,.bool false,.int .i64 0,.int .i64 (1+n)]) rfl
theorem aA'(f:Int)(w:World):Fn Tryz.prog 81 [.int .i64 f].toArray w [] (fun u _=>u=uk (bg f 0)):=by
 refine enter Tryz.func81 ?_;refine run ?_;intro B;refine run ?_;refine az (fun wc hG=>yY f 0 wc) ?_;refine run ?_;exact dS (cs:=dsC (bg f 0)) rfl
theorem Hu(C:Nat)(n:Int)(f:Int)(h0:-100≤n∧n≤1000)(w:World)(hC:w.cell? ⟨C,0,none⟩=some (.int .i64 n)):Fn Tryz.prog 163 ([]++[Value.int .i64 f]++[Value.pointer (some ⟨C,0,none⟩)]).toArray w [] (fun u _=>u=uk (jO (1+n))):=by
 refine enter Tryz.func163 ?_;refine run ?_;intro B;refine run ?_;refine az (fun wc hG=>ai9 n h0 wc) ?_;refine run ?_;exact dS (cs:=dsC (jO (1+n))) rfl
end
section
section
variable {n : Nat} {w0 : World} {mu : List Nat} {l : Fm} {hp : Hp} {all : Array Oper} {iv : Fm} {i d : Nat} {ds : List (Nat × Nat)} {D : List Nat} {Y : Fm → Prop} {ty : TypeId} {pos : String} {af : Array Edge}
theorem YN{t e:TypeId}{x y:Operand}{b off m c s j off':Nat}{k:IntKind}{dd:Option Tmp}{lf:Fm}(hx:ev lf x=some (.slice (some ⟨b,off,none⟩) m c))(hy:ev lf y=some (.int k ((j:Nat):Int)))(ht:lk Tb.sl t=some (e,s))(h1:j<m)(he:off+j*s=off'):Fh Tryz.prog n w0 mu lf hp ⟨dd,.indexAddr t x y,ty,pos,af,none⟩ (.pointer (some ⟨b,off',none⟩)):=by
 obtain⟨hu,hs⟩:=aB.zL ht;subst he;refine⟨rfl,fun a w hk _=>?_⟩;simp only[execOp,hk.ev hx,hk.ev hy];simp[Instr.indexAt,run_underlying hu w,asIntOf,h1,run_sizeOf hs w,add_lit]
theorem YO{t e:TypeId}{x y:Operand}{b off m c s j off':Nat}{k:IntKind}(h1:j<m)(he:off+j*s=off')(h:gX Tryz.prog n w0 mu all ds l hp Y D ((i,.pointer (some ⟨b,off',none⟩))::iv))(ho:all[i]?=some ⟨some d,.indexAddr t x y,ty,pos,af,none⟩:=by rfl)(hx:ev (aU ds iv af.toList++l) x=some (.slice (some ⟨b,off,none⟩) m c):=by rfl)(hy:ev (aU ds iv af.toList++l) y=some (.int k ((j:Nat):Int)):=by rfl)(ht:lk Tb.sl t=some (e,s):=by rfl):gX Tryz.prog n w0 mu all ds l hp Y (i::D) iv:=DJ ho (YN hx hy ht h1 he) h
end
section
variable {n : Nat} {w0 : World} {mu : List Nat} {l : Fm} {h0 hp hc : Hp} {all : Array Oper} {ds : List (Nat × Nat)} {t0 : Nat} {aX bz : Fm} {Y : Fm → Fm → Hp → Prop} {i d : Nat} {r : List (Nat × Bool)} {ty : TypeId} {pos : String} {af : Array Edge}
end
end
section
attribute [local irreducible] Hy St Ops DH dI jl iR gX DS iw lV
theorem YP(f:Int):∀ k,k<5→(HyD.je f).getD k default=f+(k:Int):=by
 intro k hk
 match k,hk with
 | 0,_=>exact (Int.add_zero f).symm
 | 1,_=>rfl
 | 2,_=>rfl
 | 3,_=>rfl
 | 4,_=>rfl
theorem Ry{f x:Int}(h:x∈HyD.je f):f≤x∧x<f+5:=by
 simp only[HyD.je,bI5,bQ5,or_false] at h;omega
theorem Rz{D:Int→DsD}:∀ {l:List Int} {H:HyD},(HyD.zD D l H).vs=H.vs
 | [],_=>rfl
 | x::l,H=>by rw[HyD.zD,Rz];rfl
theorem YQ(H:HyD)(l:List Int):(H.Ru l).vs=H.vs:=rfl
def zG(was is:PtD)(k:Nat):Nat:=(List.range k).foldl (fun a i=>bif (is.gs i).live&&!(was.gs i).live then i else a) 0
theorem xR(was is:PtD)(k:Nat):zG was is (k+1)=bif (is.gs k).live&&!(was.gs k).live then k else zG was is k:=by
 unfold zG;rw[bN7,List.foldl_append];rfl
theorem Np(was is:PtD):∀ k,zG was is k≤k-1
 | 0=>bI0 0
 | k+1=>by
  rw[xR];have:=Np was is k
  cases (is.gs k).live&&!(was.gs k).live with
  | true=>exact bI0 k
  | false=>rw[cond_false];omega
structure CrS where
 k:Nat
 v:Value
 h:Hp
theorem UQ(L:HL)(H:HyD)(h:AQ L H)(hW:H.lW)(c:wR)(hf:16≤c.frame∧c.frame+5≤((H.ws.length/8:Nat):Int)){pv gv ov pv2 gv2 ov2:Value}{P2:PtD}(hN:eU (L.hp X [pv,gv,ov] 90) w)
  (hP:dN w pv gv ov P) (hPn:P.Len) (hPo:∀ b o n k,gv=.slice (some ⟨b,o,none⟩) n k→b∉(L.hp X [pv,gv,ov] 90).map (·.b)) (hP2:dN w pv2 gv2 ov2 P2) (ai':P2.Len) (UR:∀ b o n k,gv2=.slice (some ⟨b,o,none⟩) n k→b∉(L.hp X [pv,gv,ov] 90).map (·.b)):
  Fn Tryz.prog 84 [.pointer (some ⟨X,0,none⟩),uh c,.agg #[pv2,gv2,ov2]].toArray w ((L.hp X [pv,gv,ov] 90).map (·.b)) (HR X [pv,gv,ov] 90 (H.wL c.frame (HyD.UL P P2))):=by
 obtain⟨V,rfl,rfl,rfl,hV⟩:=hP.open hPn;obtain⟨V2,rfl,rfl,rfl,hV2⟩:=hP2.open ai';have hb:=hPo _ _ _ _ rfl;have hb2:=UR _ _ _ _ rfl;refine eH _ hN Tryz.func84 ?_;refine run ?_;intro Cb Ib;refine run ?_;have rZ:=bP hW.m;refine aK (σ:=CrS) (fun s=>[(11,.int .i64 (s.k:Int)),(6,s.v)]) (fun s=>⟨Ib,#[V2.pv P2.pages.length,V2.gv P2.ay.length,V2.ov P2.on.length],48⟩::⟨Cb,#[.int .i64 c.kind,.int .i64 c.vm,.int .i64 c.frame,.int .i64 c.mid,.int .i64 c.fO,.int .i64 c.lX],37⟩::(s.h++(L.hp X [V.pv P.pages.length,V.gv P.ay.length,V.ov P.on.length] 90))) (fun s=>s.k≤5∧Acc 3 1 s.v s.h (((HyD.je c.frame).take s.k).map bY)) (fun s=>5-s.k) ⟨0,.slice none 0 0,[]⟩ ⟨bH3 _,Acc.nil _ _⟩ ?_;rintro⟨k,fv,hx⟩ m hm ⟨hk,hA⟩;dsimp only at hm hk hA ⊢;refine run ?_;refine ah _ rfl (fun hc=>?_) (fun hc=>?_)
 ·have hk5:k<5:=by have:=of_decide_eq_true hc;omega
  refine run ?_;intro Z
  have htn:(HyD.je c.frame).take (k+1)=(HyD.je c.frame).take k++[c.frame+(k:Int)]:=by
   rw[dW (xs:=HyD.je c.frame) (k:=k) hk5,YP _ _ hk5]
  refine dK (c:=[.int .i64 (c.frame+(k:Int))]) hA (fun v' ha' hA2=>?_) bA' (aY (m:=1) mh rfl) (hp':=⟨Z,#[.int .i64 (c.frame+(k:Int))],3⟩::⟨Ib,#[V2.pv P2.pages.length,V2.gv P2.ay.length,V2.ov P2.on.length],48⟩::⟨Cb,#[.int .i64 c.kind,.int .i64 c.vm,.int .i64 c.frame,.int .i64 c.mid,.int .i64 c.fO,.int .i64 c.lX],37⟩::(L.hp X [V.pv P.pages.length,V.gv P.ay.length,V.ov P.on.length] 90)) (hperm:=by (exact aT));refine run ?_;refine aF ⟨k+1,v',ha'⟩ ⟨hk5,?_⟩ (hm:=by dsimp only;omega) (h2:=by (exact aj));dsimp only;rw[htn,bI6];exact hA2
 ·have hk5:k=5:=by have:=of_decide_eq_false hc;omega
  subst hk5;refine run ?_;refine bH (fun wc hG=>Nl 0 wc) ?_;rintro _ hn ⟨C,rfl,aB0⟩;refine aS (⟨Ib,#[V2.pv P2.pages.length,V2.gv P2.ay.length,V2.ov P2.on.length],48⟩::⟨Cb,#[.int .i64 c.kind,.int .i64 c.vm,.int .i64 c.frame,.int .i64 c.mid,.int .i64 c.fO,.int .i64 c.lX],37⟩::⟨C,#[.int .i64 0],3⟩::(hx++(L.hp X [V.pv P.pages.length,V.gv P.ay.length,V.ov P.on.length] 90))) (cnt1 aB0) ?_;rw[show (HyD.je c.frame).take 5=HyD.je c.frame from rfl] at hA;have hAo:=hA.own;refine run ?_;refine ja (L.hp X [V.pv P.pages.length,V.gv P.ay.length,V.ov P.on.length] 90) (⟨Ib,#[V2.pv P2.pages.length,V2.gv P2.ay.length,V2.ov P2.on.length],48⟩::⟨Cb,#[.int .i64 c.kind,.int .i64 c.vm,.int .i64 c.frame,.int .i64 c.mid,.int .i64 c.fO,.int .i64 c.lX],37⟩::⟨C,#[.int .i64 0],3⟩::hx) (fun wc hG=>Rx L H h hW (F:=163) (us:=[.pointer (some ⟨C,0,none⟩)]) (fun _=>jO 1) (HyD.je c.frame) (fun f hf=>by have:=Ry hf;omega) (fun _ _=>rfl) (hAo.lie (fun e he=>hG.here e bC2) bE8) (fun b o n k e hm=>?_) (fun f hf w' hp hg=>?_) hG.iT) (fun v hn2 hR=>?_) aT
  ·obtain⟨x,hx,rfl⟩:=hAo.blk e;exact hG.Hq (e:=x) (by simp[hx]) hm
  ·have:=Hu C 0 f bA5 w' ((hG.lG hg).cell1 (t:=3) bA6);exact this
  obtain⟨rfl,L2,h2,hle2⟩:=hR;refine aS (⟨Ib,#[V2.pv P2.pages.length,V2.gv P2.ay.length,V2.ov P2.on.length],48⟩::⟨Cb,#[.int .i64 c.kind,.int .i64 c.vm,.int .i64 c.frame,.int .i64 c.mid,.int .i64 c.fO,.int .i64 c.lX],37⟩::(hx++(L2.hp X [V.pv P.pages.length,V.gv P.ay.length,V.ov P.on.length] 90))) (cnt1 hle2) ?_;refine run ?_;have hW2:=Bf (D:=fun _=>jO 1) (l:=HyD.je c.frame) hW;have hl2:=Nk (D:=fun _=>jO 1) (l:=HyD.je c.frame) (H:=H);obtain⟨H2,hH2⟩:∃ H2,H2=HyD.zD (fun _=>jO 1) (HyD.je c.frame) H:=⟨_,rfl⟩
  rw[←hH2] at h2 hW2 hl2;refine ja (L2.hp X [V.pv P.pages.length,V.gv P.ay.length,V.ov P.on.length] 90) (⟨Ib,#[V2.pv P2.pages.length,V2.gv P2.ay.length,V2.ov P2.on.length],48⟩::⟨Cb,#[.int .i64 c.kind,.int .i64 c.vm,.int .i64 c.frame,.int .i64 c.mid,.int .i64 c.fO,.int .i64 c.lX],37⟩::hx) (fun wc hG=>ai5 L2 H2 h2 hW2 (HyD.je c.frame) (bH1.2 fun f hf=>by have:=Ry hf;rw[hl2];simp only[bJ,bG8,decide_eq_true_eq];omega) (hAo.lie (fun e he=>hG.here e bC2) bE8) (fun b o n k e hm=>?_) hG.iT) (fun v hn3 hR=>?_) aT
  ·obtain⟨x,hx,rfl⟩:=hAo.blk e;exact hG.Hq (e:=x) (by simp[hx]) hm
  obtain⟨rfl,L3,h3,hle3⟩:=hR;obtain⟨wv3,RD,vv3,rv3,cs3,vs3,hw3,hc3,ht3,hv3,hz3,hr3⟩:=L3;simp only[HL.hp,HL.rest] at hle3;refine aS (⟨Ib,#[V2.pv P2.pages.length,V2.gv P2.ay.length,V2.ov P2.on.length],48⟩::⟨X,#[wv3,RD,vv3,rv3,V.pv P.pages.length,V.gv P.ay.length,V.ov P.on.length],90⟩::(hx++(hw3++(hc3++(ht3++(hv3++(hz3++hr3))))))) (cnt1 hle3) ?_;refine run ?_;have g4:=hPn.g4;have g42:=ai'.g4;refine aK (σ:=Nat) (fun k=>[(32,.int .i64 (k:Int)),(8,.int .i64 (zG P P2 k:Int))]) (fun _=>⟨Ib,#[V2.pv P2.pages.length,V2.gv P2.ay.length,V2.ov P2.on.length],48⟩::⟨X,#[wv3,RD,vv3,rv3,V.pv P.pages.length,V.gv P.ay.length,V.ov P.on.length],90⟩::(hx++(hw3++(hc3++(ht3++(hv3++(hz3++hr3))))))) (fun k=>k≤4) (fun k=>4-k) 0 (bH3 _) ?_;rintro k m2 hm2 hk4;refine run ?_;refine ah _ rfl (fun hc2=>?_) (fun hc2=>?_)
  ·have hkl:k<4:=by have:=of_decide_eq_true hc2;omega
   have r1:=hV2.gs k bA4;have r2:=ak (aV (k:=0) (n:=1) (hV.gs k bA4) rfl);simp only[bK6] at r2;have hkP:k<P.ay.length:=by omega
   obtain⟨q5,c5,e5,_⟩:=(hV2.vc k bA4).opened;obtain⟨q6,c6,e6,_⟩:=(hV2.mp k bA4).opened;rw[e5,e6] at r1;refine run ?_;intro Gb;refine aC ?_;refine ah _ rfl (fun hd=>?_) (fun hd=>?_)
   ·have e9:zG P P2 (k+1)=k:=by rw[xR,hd];rfl
    refine run ?_;exact aF (k+1) hkl (hm:=by omega) (h1:=by rw[e9];(repeat (first | exact True.intro | (refine And.intro bB4 ?_))))
   ·have e9:zG P P2 (k+1)=zG P P2 k:=by rw[xR,hd];rfl
    refine run ?_;exact aF (k+1) hkl (hm:=by omega) (h1:=by rw[e9];(repeat (first | exact True.intro | (refine And.intro bB4 ?_))))
  ·have hk5:k=4:=by have:=of_decide_eq_false hc2;omega
   subst hk5;refine run ?_;obtain⟨H3,hH3⟩:∃ H3,H3=H2.Ru (HyD.je c.frame):=⟨_,rfl⟩
   rw[←hH3] at h3;have aO5:H3.vs=H.vs:=by rw[hH3,YQ,hH2,Rz]
   have hcr:H.wL c.frame (HyD.UL P P2)=H3.aA9 (HyD.UL P P2) ⟨true,false,zC H.vs,HyD.je c.frame,(HyD.je c.frame).drop 1,[]⟩:=by
    unfold HyD.wL;rw[hH3,hH2]
   rw[hcr];clear hcr hH3;obtain⟨k64,kw,kc,kt,kv,kz,kr,kec,kev⟩:=h3;dsimp only at kw kc kt kv kz kr kec kev
   have aB1:vs3.map eF.u=H.vs:=by
    rw[kev,aO5]
   have kvl:vs3.length=4:=by
    rw[←hW.v,←aB1,bG9]
   obtain⟨at_,hat⟩:∃ a,a=zG P P2 4:=⟨_,rfl⟩
   have aB2:at_<vs3.length:=by have:=Np P P2 4;omega
   obtain⟨g3,cap3,uY,rfl,rfl,hsz,qg,hput⟩:=kv.oO aB2;rw[←hat];obtain⟨fg,P8,aB3,rfl,rfl,aO6⟩:=hAo.row (n:=5) rfl bA5;refine Ah 13 [0,1,2,3,4,5,6,7,8,9,10] [11] [12] [13] [14] ?_;refine gK ?_;refine Em (fun wc hx9 hG=>ai7 vs3 (EY (tl:=[V.pv P.pages.length,V.gv P.ay.length,V.ov P.on.length]) (hG.here ⟨X,#[wv3,RD,.slice (some ⟨g3,0,none⟩) vs3.length cap3,rv3,V.pv P.pages.length,V.gv P.ay.length,V.ov P.on.length],90⟩ bA6)) (kv.lie (fun e he=>hG.here e bG0) bA7) bA4) ?_;refine gK ?_;have hfc:=aO6.le;refine ku rfl (fun hx9=>mg aB rfl rfl rfl bA5 bA5 bA4 (o':=1) (m':=4) (c':=P8-1) rfl rfl rfl) ?_;refine gK ?_;have l4:(((HyD.je c.frame).drop 1).map bY).length=4:=rfl;have l5:((HyD.je c.frame).map bY).length=5:=rfl;have l5':(HyD.je c.frame).length=5:=rfl;have ap5:=E5 ((HyD.je c.frame).drop 1);refine kD (R:=fun u hn=>Own 3 1 u hn (((HyD.je c.frame).drop 1).map bY)) (fun wc hG=>qK _ _ ?_ ap5 bA4) (dY ap5 bA4) ?_
   ·have:=(hAo.lie (w:=wc) (fun e he=>hG.here e bG0) bA4).aM0 (i:=1) (k:=4) (c':=P8-1) bA4;exact this
   refine kP ?_;intro cv9 h9 hO9;obtain⟨q9,c9,e9⟩:=hO9.opened;rw[show ((HyD.je c.frame).drop 1).map bY=[bY (c.frame+1),bY (c.frame+2),bY (c.frame+3),bY (c.frame+4)] from rfl,show ([bY (c.frame+1),bY (c.frame+2),bY (c.frame+3),bY (c.frame+4)]:List (List Value)).length=4 from rfl] at e9;subst e9;refine uG ?_;refine jM ?_;refine YO aB2 (bJ4 (at_*6)) ?_;refine jM ?_;simp only[DN,bH2,bH5,bI3];obtain⟨m9,hm9⟩:∃ m9:eF,m9=⟨true,false,zC (vs3.map eF.u),HyD.je c.frame,some ⟨fg,0,none⟩,P8,(HyD.je c.frame).drop 1,q9,c9,[],none,0⟩:=⟨_,rfl⟩
   have hnew:=hput 0 [.bool true,.bool false,.int .i64 (zC (vs3.map eF.u)),.slice (some ⟨fg,0,none⟩) 5 P8,.slice q9 4 c9,.slice none 0 0] m9 bA6 (by
    rw[bM2,bL2 bA6,bI3,bH5,hm9];rfl) ⟨rfl,rfl⟩
   obtain⟨za,zb,_,hzz,xh⟩:=kz.out aB2;refine uQ (v:=.agg #[.bool true,.bool false,.int .i64 (zC (vs3.map eF.u)),.slice (some ⟨fg,0,none⟩) 5 P8,.slice q9 4 c9,.slice none 0 0]) aB (b:=g3) (cs:=uY) (cs':=putAt uY (at_*6+0) [.bool true,.bool false,.int .i64 (zC (vs3.map eF.u)),.slice (some ⟨fg,0,none⟩) 5 P8,.slice q9 4 c9,.slice none 0 0]) (tb:=62) (off:=at_*6) (vs:=[.bool true,.bool false,.int .i64 (zC (vs3.map eF.u)),.slice (some ⟨fg,0,none⟩) 5 P8,.slice q9 4 c9,.slice none 0 0]) (hp':=⟨X,#[wv3,RD,.slice (some ⟨g3,0,none⟩) vs3.length cap3,rv3,V.pv P.pages.length,V.gv P.ay.length,V.ov P.on.length],90⟩::(h9++(⟨Ib,#[V2.pv P2.pages.length,V2.gv P2.ay.length,V2.ov P2.on.length],48⟩::⟨fg,aB3,3⟩::(hw3++(hc3++(ht3++(hz3++hr3))))))) rfl rfl rfl rfl rfl rfl aT rfl (by show at_*6+6≤_;omega) rfl aj ?_;refine dh ?_;refine kR ?_;refine run ?_;refine fin0 ⟨rfl,⟨wv3,RD,.slice (some ⟨g3,0,none⟩) vs3.length cap3,rv3,cs3,vs3.set at_ m9,hw3,hc3,ht3,[⟨g3,_,62⟩],([⟨fg,aB3,3⟩]++(h9++[]))++zb,hr3⟩,⟨k64,kw,kc,kt,hnew,xh _ _ ⟨[⟨fg,aB3,3⟩],h9,[],?_,?_,?_,?_,aJ.refl _⟩,kr,kec,?_⟩,?_⟩
   ·rw[hm9];exact hAo
   ·rw[hm9];exact hO9
   ·rw[hm9];exact Own.nil _ _
   ·rw[hm9];exact⟨(by decide:(5:Nat)<100000),(by decide:(4:Nat)<100000),(by decide:(0:Nat)<100000)⟩
   ·dsimp only;rw[bM',aB1,hm9];unfold HyD.aA9;dsimp only;rw[aO5,hat,aB1];rfl
   ·simp only[HL.hp,HL.rest]
    (exact cnt1 hzz)
theorem aB4(xs:List zN):∀ c∈xs.map jc,c.length=15∧c.all (·.oneCell')=true:=by
 intro c hc;obtain⟨x,_,rfl⟩:=bH9.1 hc;exact⟨rfl,rfl⟩
theorem aB5(xs:List jK):∀ c∈xs.map qX,c.length=19∧c.all (·.oneCell')=true:=by
 intro c hc;obtain⟨x,_,rfl⟩:=bH9.1 hc;exact⟨rfl,rfl⟩
theorem aB6(xs:List eF):∀ c∈xs.map mW,c.length=6∧c.all (·.oneCell')=true:=by
 intro c hc;obtain⟨x,_,rfl⟩:=bH9.1 hc;exact⟨rfl,rfl⟩
theorem YR(es:List fG)(ds:List jC)(h1:es.length<100000)(h2:ds.length<100000):∃ (r:Value) (hn:Hp),∃ v1 h1 v2 h2,r=.agg #[v1,v2]∧Own 80 14 v1 h1 (es.map iC)∧Own 127 4 v2 h2 (ds.map lg)∧aJ (h1++h2) hn:=by
 obtain⟨a1,g1,o1⟩:=dY (e:=80) (xs:=es.map iC) tH bA7;obtain⟨a2,g2,o2⟩:=dY (e:=127) (xs:=ds.map lg) AP bA7;exact⟨_,_,a1,g1,a2,g2,rfl,o1,o2,aJ.refl _⟩
theorem UT{α:Type}[Inhabited α]{xs ys:List α}(h:xs.drop k=ys.drop k):xs.getD k default=ys.getD k default:=by
 have:=congrArg (fun l:List α=>l[0]?) h;simp only[bO4,bK6] at this;rw[bG',bG',this]
theorem xk{α:Type}{l:List α}{y:α}(h:k<l.length):(l.set k y).take (k+1)=l.take k++[y]:=by
 apply bP';intro i;simp only[bL9,bR9,List.getElem?_append,bK1,bO9 (Nat.le_of_lt h)];by_cases h1:i<k
 ·simp[h1,show i<k+1 by omega,show ¬ k=i by omega]
 ·by_cases h2:i=k
  ·subst h2;simp[h]
  ·simp[h1,show ¬ i<k+1 by omega,show i-k≠0 by omega,bN4 (show ([y]:List α).length≤i-k by simp;omega)]
theorem YS(xs:List AA):∀ c∈xs.map zO,c.length=16∧c.all (·.oneCell')=true:=by
 intro c hc;obtain⟨x,_,rfl⟩:=bH9.1 hc;exact⟨rfl,rfl⟩
structure CdS where
 k:Nat
 xs:List jK
 cur:Array Value
 h:Hp
structure CvS where
 k:Nat
 xs:List eF
 cur:Array Value
 h:Hp
theorem UU{vv rv:Value}(h:vw w wv cv vv rv H)(hw0:0<H.ws.length)(hc0:0<H.cs.length)(hv0:0<H.vs.length)(pp gp Zn:Option Addr)(n1 n2 n3 k1 k2 k3:Nat):
  Fn Tryz.prog 34 [.agg #[wv,cv,vv,rv],.agg #[.slice pp n1 k1,.slice gp n2 k2,.slice Zn n3 k3]].toArray w [] (fun u hn=>∃ X L,u=.pointer (some ⟨X,0,none⟩)∧AQ L H∧aJ (L.hp X [.slice pp n1 k1,.slice gp n2 k2,.slice Zn n3 k3] 90) hn):=by
 have h':=h;have hfit:=h.fit;obtain⟨cs,vs,e1,e2,e3,hH⟩:=h.ex;have hcl:cs.length=H.cs.length:=by rw[←e1,bG9]
 have hvl:vs.length=H.vs.length:=by rw[←e2,bG9]
 have hl:=hfit.l;obtain⟨q,cap,rfl,hne,_⟩:=hH.ws.opened;have FX:=hH.cs.rows.opened;obtain⟨q2,cap2,rfl,hne2,_⟩:=FX;obtain⟨q3,cap3,rfl,jI,_⟩:=hH.vs.rows.opened;obtain⟨q4,cap4,rfl,oQ,_⟩:=hH.rs.opened;refine enter Tryz.func34 ?_;refine run ?_;intro Hb Pb;refine ve 19 3 [0,1,2,5,6,8,9,11,12,15] [(3,false),(4,true),(7,false),(10,false),(13,false),(14,true),(16,true),(17,false),(18,true)] [⟨Pb,#[.slice pp n1 k1,.slice gp n2 k2,.slice Zn n3 k3],48⟩,⟨Hb,#[.slice q H.ws.length cap,.slice q2 cs.length cap2,.slice q3 vs.length cap3,.slice q4 H.rs.length cap4],29⟩] ?_;refine kW ?_;refine xC ?_;refine yK (fun wc hG=>oM _ _ (hH.ws.good hG) (w_all _) bA7) ?_;intro v1 h1 o1;obtain⟨y1,d1,e1'⟩:=o1.opened;rw[bG9] at e1';subst e1';refine dh ?_;refine xD ?_;refine uG ?_;refine jM ?_;refine⟨_,rfl,?_⟩;refine xC ?_;refine yK (fun wc hG=>LW _ _ (hH.cs.rows.good hG) (aB5 _) bA7) ?_;intro v2 h2 o2;obtain⟨y2,d2,e2'⟩:=o2.opened;rw[bG9] at e2';subst e2';refine dh ?_;refine xC ?_;refine yK (fun wc hG=>Pn _ _ (hH.vs.rows.good hG) (aB6 _) bA7) ?_;intro v3 h3 o3;obtain⟨y3,d3,e3'⟩:=o3.opened;rw[bG9] at e3';subst e3';refine dh ?_;refine xC ?_;refine yK (fun wc hG=>LX _ _ (hH.rs.good hG) (aB4 _) bA7) ?_;intro v4 h4 o4;obtain⟨y4,d4,e4'⟩:=o4.opened;rw[bG9] at e4';subst e4';refine dh ?_;refine xD ?_;refine uG ?_;refine jM ?_;refine⟨_,rfl,?_⟩;refine xD ?_;refine uG ?_;refine jM ?_;refine⟨_,rfl,?_⟩;refine xC ?_;refine aY2 (fun X=>?_);refine dh ?_;refine xD ?_;refine oN ?_;refine jM ?_;refine⟨_,rfl,?_⟩;refine Jg ?_;refine kR ?_;obtain⟨g2,d2',UD,e2',rfl,hrow2⟩:=o2.row (n:=cs.length) bA6 bA4;cases e2';obtain⟨g3,d3',uY,e3',rfl,hrow3⟩:=o3.row (n:=vs.length) bA6 bA4;cases e3';refine aS (⟨X,#[.slice y1 H.ws.length d1,.slice (some ⟨g2,0,none⟩) cs.length d2,.slice (some ⟨g3,0,none⟩) vs.length d3,.slice y4 H.rs.length d4,.slice pp n1 k1,.slice gp n2 k2,.slice Zn n3 k3],90⟩::⟨Hb,#[.slice q H.ws.length cap,.slice q2 cs.length cap2,.slice q3 vs.length cap3,.slice q4 H.rs.length cap4],29⟩::⟨g2,UD,74⟩::⟨g3,uY,62⟩::(h1++h4)) aj ?_;refine run ?_;refine aK (σ:=CdS) (fun s=>[(33,.int .i64 (s.k:Int))]) (fun s=>⟨X,#[.slice y1 H.ws.length d1,.slice (some ⟨g2,0,none⟩) cs.length d2,.slice (some ⟨g3,0,none⟩) vs.length d3,.slice y4 H.rs.length d4,.slice pp n1 k1,.slice gp n2 k2,.slice Zn n3 k3],90⟩::⟨Hb,#[.slice q H.ws.length cap,.slice q2 cs.length cap2,.slice q3 vs.length cap3,.slice q4 H.rs.length cap4],29⟩::⟨g2,s.cur,74⟩::⟨g3,uY,62⟩::(s.h++(h1++h4))) (fun s=>s.k≤cs.length∧s.xs.length=cs.length∧Own 74 19 (.slice (some ⟨g2,0,none⟩) cs.length d2) [⟨g2,s.cur,74⟩] (s.xs.map qX)∧fU wQ ((s.xs.take s.k).map (·.t)) s.h∧s.xs.map jK.u=H.cs) (fun s=>cs.length-s.k) ⟨0,cs,UD,[]⟩ ⟨bH3 _,rfl,o2,trivial,e1⟩ ?_;rintro⟨k,xs,cu,ht⟩ m hm ⟨hk,hxl,hU,hT,hE⟩;dsimp only at hm hk hxl hU hT hE ⊢;refine run ?_;refine ah _ rfl (fun hc=>?_) (fun hc=>?_)
 ·have hlt:k<cs.length:=by simpa using hc
  obtain⟨b2,o2_,rfl⟩:=hne2 (by intro e;rw[e] at hlt;cases hlt);have hr:=hH.cs.rows.row hlt;have hen:=hH.cs.en _ (getD_mem (l:=cs) hlt);have hiv:=hH.cs.iv _ (getD_mem (l:=cs) hlt);have hfc:=hfit.c (H.cs.getD k default) (getD_mem bA4);rw[←FK e1 k] at hfc;obtain⟨g',cap',cur',q1_,q2_,hsz,qg,hput⟩:=hU.oO (k:=k) bA4;rw[hxl] at q1_ hput;cases q1_;cases q2_;have hxu:(xs.getD k default).u=(cs.getD k default).u:=by rw[FK hE k,FK e1 k]
  have aO8:=aV (k:=17) (n:=2) hr rfl;generalize cs.getD k default=c at aO8 hen hiv hfc hxu;refine run ?_;refine Ah 13 [0,1,2,3,4,5,6,7,8,9,10,11] [12] [] [13,14] [15] ?_;refine gK ?_;refine kD (R:=fun r hn=>∃ v1 h1 v2 h2,r=.agg #[v1,v2]∧Own 80 14 v1 h1 (c.t.es.map iC)∧Own 127 4 v2 h2 (c.t.ds.map lg)∧aJ (h1++h2) hn) (fun wc hG=>GZ c.t.es c.t.ds _ _ (hen.good hG) (hiv.good hG) (bV6 hfc.1 bA5) (bV6 hfc.2.1 bA5)) (YR _ _ hfc.1 hfc.2.1) ?_;refine kP ?_;rintro u hn ⟨v5,h5,v6,h6,rfl,a5,a6,hle⟩;obtain⟨q5,c5,e5⟩:=a5.opened;obtain⟨q6,c6,e6⟩:=a6.opened;rw[bG9] at e5 e6;subst e5 e6;refine jM ?_;refine YO hlt (bJ4 (k*19)) ?_;refine I8 ?_;refine jM ?_;simp only[DN,bH2,bH5,bI3];have hnew:=hput 17 [.slice q5 c.t.es.length c5,.slice q6 c.t.ds.length c6] { xs.getD k default with t:=⟨c.t.es,c.t.ds,q5,c5,q6,c6⟩ } bA6 rfl ⟨rfl,rfl⟩;refine uQ (v:=.agg #[.slice q5 c.t.es.length c5,.slice q6 c.t.ds.length c6]) aB (b:=g2) (cs:=cu) (cs':=putAt cu (k*19+17) [.slice q5 c.t.es.length c5,.slice q6 c.t.ds.length c6]) (tb:=74) (off:=k*19+17) (vs:=[.slice q5 c.t.es.length c5,.slice q6 c.t.ds.length c6]) (hp':=⟨X,#[.slice y1 H.ws.length d1,.slice (some ⟨g2,0,none⟩) cs.length d2,.slice (some ⟨g3,0,none⟩) vs.length d3,.slice y4 H.rs.length d4,.slice pp n1 k1,.slice gp n2 k2,.slice Zn n3 k3],90⟩::(hn++(⟨Hb,#[.slice q H.ws.length cap,.slice (some ⟨b2,o2_,none⟩) cs.length cap2,.slice q3 vs.length cap3,.slice q4 H.rs.length cap4],29⟩::⟨g3,uY,62⟩::(ht++(h1++h4))))) rfl rfl rfl rfl rfl rfl aT rfl (by show k*19+17+2≤_;omega) rfl aj ?_;refine dh ?_;refine kR ?_;refine run ?_;refine aF ⟨k+1,xs.set k { xs.getD k default with t:=⟨c.t.es,c.t.ds,q5,c5,q6,c6⟩ },putAt cu (k*19+17) [.slice q5 c.t.es.length c5,.slice q6 c.t.ds.length c6],(h5++h6)++ht⟩ ⟨hlt,by dsimp only;rw[bL3];exact hxl,hnew,?_,?_⟩ (hm:=by dsimp only;omega) (h2:=by (exact cnt1 hle))
  ·dsimp only;rw[xk bA4,bI6];exact hT.snoc (y:=⟨c.t.es,c.t.ds,q5,c5,q6,c6⟩) ⟨h5,h6,a5,a6,⟨hfc.1,hfc.2.1⟩,aJ.refl _⟩
  ·dsimp only;have hxk:k<xs.length:=by omega
   have e9:jK.u { xs.getD k default with t:=⟨c.t.es,c.t.ds,q5,c5,q6,c6⟩ }=(xs.getD k default).u:=by
    rw[hxu];have h9:=congrArg JP.r hxu;have h10:=congrArg JP.vm hxu;have h11:=congrArg JP.vc hxu;simp only[jK.u] at h9 h10 h11 ⊢;rw[h9,h10,h11]
   rw[bM',e9,←hE];refine pX ?_;rw[bJ1,bG',bH0 hxk];rfl
 ·have hge:k=cs.length:=by simp at hc;omega
  subst hge;rw[←hxl,bM6] at hT;refine run ?_;refine aK (σ:=CvS) (fun s=>[(58,.int .i64 (s.k:Int))]) (fun s=>⟨X,#[.slice y1 H.ws.length d1,.slice (some ⟨g2,0,none⟩) cs.length d2,.slice (some ⟨g3,0,none⟩) vs.length d3,.slice y4 H.rs.length d4,.slice pp n1 k1,.slice gp n2 k2,.slice Zn n3 k3],90⟩::⟨g2,cu,74⟩::⟨g3,s.cur,62⟩::(s.h++(ht++(h1++h4)))) (fun s=>s.k≤vs.length∧s.xs.length=vs.length∧Own 62 6 (.slice (some ⟨g3,0,none⟩) vs.length d3) [⟨g3,s.cur,62⟩] (s.xs.map mW)∧fU TT (s.xs.take s.k) s.h∧s.xs.map eF.u=H.vs∧s.xs.drop s.k=vs.drop s.k) (fun s=>vs.length-s.k) ⟨0,vs,uY,[]⟩ ⟨bH3 _,rfl,o3,trivial,e2,rfl⟩ ?_;rintro⟨k,ys,RD,hz⟩ m2 hm2 ⟨hk2,hyl,hV,hZ,hEv,hdr⟩;dsimp only at hm2 hk2 hyl hV hZ hEv hdr ⊢;refine run ?_;refine ah _ rfl (fun hc2=>?_) (fun hc2=>?_)
  ·have hlt:k<vs.length:=by simpa using hc2
   have hfv:=hfit.v (H.vs.getD k default) (getD_mem bA4);rw[←rM e2 k] at hfv;have hf1:=hH.vs.fs _ (getD_mem (l:=vs) hlt);have hf2:=hH.vs.fr _ (getD_mem (l:=vs) hlt);have hf3:=hH.vs.vs _ (getD_mem (l:=vs) hlt);obtain⟨g',cap',cur',q1_,q2_,hsz,qg,hput⟩:=hV.oO (k:=k) bA4;rw[hyl] at q1_ hput;cases q1_;cases q2_;have hyk:=UT hdr;rw[hyk] at qg hput;generalize hmv:vs.getD k default=mv at hf1 hf2 hf3 hfv qg hput hyk;obtain⟨qf,cf,ef,_,_⟩:=hf1.opened;obtain⟨qr,cr,er,_,_⟩:=hf2.opened;obtain⟨qv,cvv,ev,_,_⟩:=hf3.opened;have nn3:=qg 3 _ rfl;have nn4:=qg 4 _ rfl;have nn5:=qg 5 _ rfl;rw[ef] at nn3;rw[er] at nn4;rw[ev] at nn5;refine run ?_;refine Ec 27 20 [0,1,2,3,4,5,6,8,9,10,11,13,14,15,16,18,19,21,22,24,25] [7,12,17] [20,23,26] [] ?_;refine kW ?_;refine kD (R:=fun u hn=>Own 3 1 u hn (mv.fs.map bY)) (fun wc hG=>qK (.slice qf mv.fs.length cf) _ (by rw[←ef];exact hf1.good hG) (E5 _) (by rw[bG9];have:=hfv.1;show mv.fs.length<_;exact bV6 this bA5)) (dY (E5 _) (by rw[bG9];exact Nat.le_of_lt (bV6 hfv.1 bA5))) ?_;refine kD (R:=fun u hn=>Own 3 1 u hn (mv.fr.map bY)) (fun wc hG=>qK (.slice qr mv.fr.length cr) _ (by rw[←er];exact hf2.good hG) (E5 _) (by rw[bG9];exact bV6 hfv.2.1 bA5)) (dY (E5 _) (by rw[bG9];exact Nat.le_of_lt (bV6 hfv.2.1 bA5))) ?_;refine kD (R:=fun u hn=>Own 102 16 u hn (mv.vs.map zO)) (fun wc hG=>Jm (.slice qv mv.vs.length cvv) _ (by rw[←ev];exact hf3.good hG) (YS _) (by rw[bG9];exact bV6 hfv.2.2.1 bA5)) (dY (YS _) (by rw[bG9];exact Nat.le_of_lt (bV6 hfv.2.2.1 bA5))) ?_;refine kP ?_;intro w7 a7 b7 w8 a8 b8 w9 a9 b9;obtain⟨q7,c7,e7⟩:=b9.opened;obtain⟨q8,c8,e8⟩:=b8.opened;obtain⟨q9,c9,e9⟩:=b7.opened;rw[bG9] at e7 e8 e9;subst e7 e8 e9;simp only[DN,bH2,bH5,bI3];refine uQ (v:=.slice q7 mv.fs.length c7) aB (b:=g3) (cs:=RD) (cs':=putAt RD (k*6+3) [.slice q7 mv.fs.length c7]) (tb:=62) (off:=k*6+3) (vs:=[.slice q7 mv.fs.length c7]) (hp':=⟨X,#[.slice y1 H.ws.length d1,.slice (some ⟨g2,0,none⟩) cs.length d2,.slice (some ⟨g3,0,none⟩) vs.length d3,.slice y4 H.rs.length d4,.slice pp n1 k1,.slice gp n2 k2,.slice Zn n3 k3],90⟩::(a7++(a8++a9)++(⟨g2,cu,74⟩::(hz++(ht++(h1++h4)))))) rfl rfl rfl rfl rfl rfl aT rfl bC0 rfl aj ?_;refine uQ (v:=.slice q8 mv.fr.length c8) aB (b:=g3) (cs:=putAt RD (k*6+3) [.slice q7 mv.fs.length c7]) (cs':=putAt (putAt RD (k*6+3) [.slice q7 mv.fs.length c7]) (k*6+4) [.slice q8 mv.fr.length c8]) (tb:=62) (off:=k*6+4) (vs:=[.slice q8 mv.fr.length c8]) (hp':=⟨X,#[.slice y1 H.ws.length d1,.slice (some ⟨g2,0,none⟩) cs.length d2,.slice (some ⟨g3,0,none⟩) vs.length d3,.slice y4 H.rs.length d4,.slice pp n1 k1,.slice gp n2 k2,.slice Zn n3 k3],90⟩::(a7++(a8++a9)++(⟨g2,cu,74⟩::(hz++(ht++(h1++h4)))))) rfl rfl rfl rfl rfl rfl aT rfl bC0 rfl aj ?_;refine uQ (v:=.slice q9 mv.vs.length c9) aB (b:=g3) (cs:=putAt (putAt RD (k*6+3) [.slice q7 mv.fs.length c7]) (k*6+4) [.slice q8 mv.fr.length c8]) (cs':=putAt (putAt (putAt RD (k*6+3) [.slice q7 mv.fs.length c7]) (k*6+4) [.slice q8 mv.fr.length c8]) (k*6+5) [.slice q9 mv.vs.length c9]) (tb:=62) (off:=k*6+5) (vs:=[.slice q9 mv.vs.length c9]) (hp':=⟨X,#[.slice y1 H.ws.length d1,.slice (some ⟨g2,0,none⟩) cs.length d2,.slice (some ⟨g3,0,none⟩) vs.length d3,.slice y4 H.rs.length d4,.slice pp n1 k1,.slice gp n2 k2,.slice Zn n3 k3],90⟩::(a7++(a8++a9)++(⟨g2,cu,74⟩::(hz++(ht++(h1++h4)))))) rfl rfl rfl rfl rfl rfl aT rfl bC0 rfl aj ?_;refine dh ?_;refine kR ?_;have hnew:=hput 3 [.slice q7 mv.fs.length c7,.slice q8 mv.fr.length c8,.slice q9 mv.vs.length c9] { mv with fp:=q7,fc:=c7,rp:=q8,rc:=c8,vp:=q9,vk:=c9 } bA6 rfl ⟨rfl,rfl⟩;refine run ?_;refine aF ⟨k+1,ys.set k { mv with fp:=q7,fc:=c7,rp:=q8,rc:=c8,vp:=q9,vk:=c9 },putAt (putAt (putAt RD (k*6+3) [.slice q7 mv.fs.length c7]) (k*6+4) [.slice q8 mv.fr.length c8]) (k*6+5) [.slice q9 mv.vs.length c9],(a9++(a8++a7))++hz⟩ ⟨hlt,by dsimp only;rw[bL3];exact hyl,hnew,?_,?_,?_⟩ (hm:=by dsimp only;omega) (h2:=by (exact aj))
   ·dsimp only;rw[xk bA4];exact hZ.snoc ⟨a9,a8,a7,b9,b8,b7,⟨hfv.1,hfv.2.1,hfv.2.2.1⟩,aJ.refl _⟩
   ·dsimp only;have UW:k<ys.length:=by omega
    rw[bM',←hEv];refine pX ?_;rw[bJ1,bH0 UW];rw[bG',bH0 UW] at hyk;rw[show ys[k]=mv from hyk];rfl
   ·dsimp only;rw[List.drop_set_of_lt (bX' k)];have:=congrArg (List.drop 1) hdr;rwa [bP4,bP4] at this
  ·have hge:k=vs.length:=by simp at hc2;omega
   subst hge;rw[←hyl,bM6] at hZ;refine run ?_;exact fin1 ⟨X,⟨.slice y1 H.ws.length d1,.slice (some ⟨g2,0,none⟩) cs.length d2,.slice (some ⟨g3,0,none⟩) vs.length d3,.slice y4 H.rs.length d4,xs,ys,h1,[⟨g2,cu,74⟩],ht,[⟨g3,RD,62⟩],hz,h4⟩,rfl,⟨hH.Df,o1,hU,hT,hV,hZ,o4,hE,hEv⟩,by simp only[HL.hp,HL.rest];(exact aj)⟩
theorem YT{l:List Value}{o:Nat}{c:List Value}(h:∀ j u,c[j]?=some u→nth l (o+j)=some u):List.take c.length (List.drop o l)=c:=by
 apply bP';intro j;rw[bL9];by_cases hj:j<c.length
 ·rw[if_pos hj,bO4,bH0 hj];have:=h j c[j] (bH0 hj);rw[mZ] at this;simpa using this
 ·rw[if_neg hj,bN4 bA4]
theorem Dt{l:List Value}{o:Nat}{c a b:List Value}(h:∀ j u,c[j]?=some u→nth l (o+j)=some u)(hc:c=a++b):List.take a.length (List.drop o l)=a:=
 YT fun j u hj=>h j u (by subst hc;rw[bT1 (by have:=(bI'.1 hj).1;exact this)];exact hj)
set_option maxHeartbeats 400000 in
theorem aB7(L:HL)(H:HyD)(h:AQ L H)(cpu:Nat)(lY:cpu<H.cs.length)(hrl:H.rs.length=H.cs.length)(a19:H.cs.length<100000)(c:wR)(hvm:1≤c.vm∧c.vm≤(H.vs.length:Int))(a5':H.vs.length<100000)(mQ:0≤c.fO∧c.fO<((H.vu (c.vm-1).toNat).vs.length:Int)){pv gv ov:Value}(hN:eU (L.hp X [pv,gv,ov] 90) w):
  Fn Tryz.prog 86 [.pointer (some ⟨X,0,none⟩),.int .i64 (cpu:Int),uh c].toArray w ((L.hp X [pv,gv,ov] 90).map (·.b)) (HR X [pv,gv,ov] 90 (H.Nj cpu c.vm c.fO)):=by
 obtain⟨K_,n_,oW,jA,xm,zH⟩:=c;dsimp only at hvm mQ ⊢;obtain⟨k,rfl⟩:∃ k:Nat,xm=(k:Int):=⟨xm.toNat,by omega⟩
 obtain⟨wv,cv,vv,rv,cs,vs,hw,hc,ht,hvv,hz,hr⟩:=L;obtain⟨P7,gw,JQ,gt,BN,gz,gr,ec,ev⟩:=h;dsimp only at gw JQ gt BN gz gr ec ev;have ecl:cs.length=H.cs.length:=by rw[←ec,bG9]
 have evl:vs.length=H.vs.length:=by rw[←ev,bG9]
 obtain⟨i,hi⟩:∃ i,i=(n_-1).toNat:=⟨_,rfl⟩
 have hi4:i<vs.length:=by omega
 have hu:=rM ev i;rw[show H.vs.getD i default=H.vu i from rfl] at hu;have huc:=FK ec cpu;rw[show H.cs.getD cpu default=H.cu cpu from rfl] at huc;rw[←hi,←hu] at mQ;obtain⟨gc,cc,lC,rfl,rfl,csz,zI,E8⟩:=JQ.oO (k:=cpu) bA4;obtain⟨BO,RF,Bi,rfl,rfl,vsz,YU,aB8⟩:=BN.oO hi4;obtain⟨BP,RG,F6,rfl,rfl,rsz,a7',aB9⟩:=gr.oO (k:=cpu) bA4;obtain⟨za,zb,⟨z1,z2,z3,o1,o2,o3,zl,hza⟩,hzz,xh⟩:=gz.out hi4;generalize YV:vs.getD i default=vm at mQ hu YU aB8 o1 o2 o3 zl xh;generalize Nq:cs.getD cpu default=cp at huc zI E8;have hkv:k<vm.vs.length:=by have:=mQ.2;simp only[eF.u] at this;omega
 obtain⟨gk,ck,xU,ek,rfl,ksz,aB',aC0⟩:=o3.oO hkv;simp only[HL.hp,HL.rest] at hN ⊢;refine eH _ hN Tryz.func86 ?_;refine run ?_;intro Cb;have nv5:=YU 5 _ rfl;rw[ek] at nv5;have Nr:cpu<cs.length:=by omega
 refine run ?_;refine pM (⟨X,#[wv,.slice (some ⟨gc,0,none⟩) cs.length cc,.slice (some ⟨BO,0,none⟩) vs.length RF,.slice (some ⟨BP,0,none⟩) H.rs.length RG,pv,gv,ov],90⟩::⟨gc,lC,74⟩::⟨BO,Bi,62⟩::⟨BP,F6,68⟩::⟨gk,xU,102⟩::⟨Cb,#[.int .i64 K_,.int .i64 n_,.int .i64 oW,.int .i64 jA,.int .i64 (k:Int),.int .i64 zH],37⟩::(hw++(ht++(z1++(z2++zb))))) bC4 ?_;refine di ?_;refine dF ?_;refine fB (fun wc hG=>ap4 (m:=vs.length) (EY (tl:=[pv,gv,ov]) (hG.here ⟨X,#[wv,.slice (some ⟨gc,0,none⟩) cs.length cc,.slice (some ⟨BO,0,none⟩) vs.length RF,.slice (some ⟨BP,0,none⟩) H.rs.length RG,pv,gv,ov],90⟩ bA6)) n_ bA4 bA4) ?_;rw[←hi];refine dF ?_;have tR:=Dt (a:=jc cp.r) zI rfl;have tV:=Dt (a:=jc (vm.vs.getD k default).r) aB' rfl;refine run ?_;refine rC 32 22 [0,1,2,3,4,5,6,7,8,9,10,11,12,13,14,15,16,17,18,19,20,21,23,24,26,27,29,30] [22,25,28,31] [⟨Cb,#[.int .i64 K_,.int .i64 n_,.int .i64 oW,.int .i64 jA,.int .i64 (k:Int),.int .i64 zH],37⟩] ?_;refine kW ?_;refine uQ (v:=.agg (jc cp.r).toArray) aB (b:=BP) (cs:=F6) (cs':=putAt F6 (cpu*15) (jc cp.r)) (tb:=68) (off:=cpu*15) (vs:=jc cp.r) (hp':=⟨X,#[wv,.slice (some ⟨gc,0,none⟩) cs.length cc,.slice (some ⟨BO,0,none⟩) vs.length RF,.slice (some ⟨BP,0,none⟩) H.rs.length RG,pv,gv,ov],90⟩::⟨gc,lC,74⟩::⟨BO,Bi,62⟩::⟨gk,xU,102⟩::⟨Cb,#[.int .i64 K_,.int .i64 n_,.int .i64 oW,.int .i64 jA,.int .i64 (k:Int),.int .i64 zH],37⟩::(hw++(ht++(z1++(z2++zb))))) rfl rfl rfl rfl rfl rfl aT rfl (by show cpu*15+15≤_;omega) rfl aj ?_;refine uQ (v:=.agg (jc (vm.vs.getD k default).r).toArray) aB (b:=gc) (cs:=lC) (cs':=putAt lC (cpu*19) (jc (vm.vs.getD k default).r)) (tb:=74) (off:=cpu*19) (vs:=(jc (vm.vs.getD k default).r)) (hp':=⟨X,#[wv,.slice (some ⟨gc,0,none⟩) cs.length cc,.slice (some ⟨BO,0,none⟩) vs.length RF,.slice (some ⟨BP,0,none⟩) H.rs.length RG,pv,gv,ov],90⟩::⟨BP,putAt F6 (cpu*15) (jc cp.r),68⟩::⟨BO,Bi,62⟩::⟨gk,xU,102⟩::⟨Cb,#[.int .i64 K_,.int .i64 n_,.int .i64 oW,.int .i64 jA,.int .i64 (k:Int),.int .i64 zH],37⟩::(hw++(ht++(z1++(z2++zb))))) rfl rfl rfl rfl rfl rfl aT rfl (by show cpu*19+15≤_;omega) rfl aj ?_;refine uQ (v:=.int .i64 n_) aB (b:=gc) (cs:=putAt lC (cpu*19) (jc (vm.vs.getD k default).r)) (cs':=putAt (putAt lC (cpu*19) (jc (vm.vs.getD k default).r)) (cpu*19+15) [.int .i64 n_]) (tb:=74) (off:=cpu*19+15) (vs:=[.int .i64 n_]) (hp':=⟨X,#[wv,.slice (some ⟨gc,0,none⟩) cs.length cc,.slice (some ⟨BO,0,none⟩) vs.length RF,.slice (some ⟨BP,0,none⟩) H.rs.length RG,pv,gv,ov],90⟩::⟨BP,putAt F6 (cpu*15) (jc cp.r),68⟩::⟨BO,Bi,62⟩::⟨gk,xU,102⟩::⟨Cb,#[.int .i64 K_,.int .i64 n_,.int .i64 oW,.int .i64 jA,.int .i64 (k:Int),.int .i64 zH],37⟩::(hw++(ht++(z1++(z2++zb))))) rfl rfl rfl rfl rfl rfl aT rfl bC0 rfl aj ?_;refine uQ (v:=.int .i64 (k:Int)) aB (b:=gc) (cs:=putAt (putAt lC (cpu*19) (jc (vm.vs.getD k default).r)) (cpu*19+15) [.int .i64 n_]) (cs':=putAt (putAt (putAt lC (cpu*19) (jc (vm.vs.getD k default).r)) (cpu*19+15) [.int .i64 n_]) (cpu*19+16) [.int .i64 (k:Int)]) (tb:=74) (off:=cpu*19+16) (vs:=[.int .i64 (k:Int)]) (hp':=⟨X,#[wv,.slice (some ⟨gc,0,none⟩) cs.length cc,.slice (some ⟨BO,0,none⟩) vs.length RF,.slice (some ⟨BP,0,none⟩) H.rs.length RG,pv,gv,ov],90⟩::⟨BP,putAt F6 (cpu*15) (jc cp.r),68⟩::⟨BO,Bi,62⟩::⟨gk,xU,102⟩::⟨Cb,#[.int .i64 K_,.int .i64 n_,.int .i64 oW,.int .i64 jA,.int .i64 (k:Int),.int .i64 zH],37⟩::(hw++(ht++(z1++(z2++zb))))) rfl rfl rfl rfl rfl rfl aT rfl bC0 rfl aj ?_;refine dh ?_;refine kR ?_;refine run ?_
 have hrun:H.Nj cpu n_ (k:Int)=⟨H.ws,H.cs.set cpu ⟨(vm.vs.getD k default).r,n_,(k:Int),cp.t.es,cp.t.ds⟩,H.vs.set i ⟨vm.live,vm.dying,vm.aO,vm.fs,vm.fr,vm.vs.set k ⟨jb,(cpu:Int)⟩⟩,H.rs.set cpu cp.r⟩:=by
  unfold HyD.Nj;rw[←hi];dsimp only;rw[←hu,←huc,bM3];rfl
 have hcn:=E8 0 ((jc (vm.vs.getD k default).r)++[.int .i64 n_,.int .i64 (k:Int)]) ⟨(vm.vs.getD k default).r,n_,(k:Int),cp.t⟩ bA6 rfl ⟨rfl,rfl⟩;have hrn:=aB9 0 (jc cp.r) cp.r bA6 rfl ⟨rfl,rfl⟩;have hkn:=aC0 0 (zO ⟨jb,(cpu:Int)⟩) ⟨jb,(cpu:Int)⟩ bA6 rfl ⟨rfl,rfl⟩
 have hc3:putAt lC (cpu*19+0) ((jc (vm.vs.getD k default).r)++[.int .i64 n_,.int .i64 (k:Int)])=putAt (putAt (putAt lC (cpu*19) (jc (vm.vs.getD k default).r)) (cpu*19+15) [.int .i64 n_]) (cpu*19+16) [.int .i64 (k:Int)]:=by
  rw[pq];exact pq [Value.int .i64 n_] _ _ _
 rw[hc3] at hcn;rw[bK6] at hrn hkn;rw[show zO ⟨jb,(cpu:Int)⟩=[.int .u64 0,.int .u64 0,.int .u64 0,.int .u64 0,.int .u64 0,.int .u64 0,.int .u64 0,.int .u64 0,.int .u64 0,.int .u64 0,.int .u64 0,.int .u64 0,.int .u64 0,.int .u64 0,.int .u64 0,.int .i64 (cpu:Int)] from rfl] at hkn;clear hc3;rw[hrun];generalize putAt (putAt (putAt lC (cpu*19) (jc (vm.vs.getD k default).r)) (cpu*19+15) [.int .i64 n_]) (cpu*19+16) [.int .i64 (k:Int)]=c3 at hcn ⊢;generalize putAt F6 (cpu*15) (jc cp.r)=r3 at hrn ⊢;simp only[putAt] at hkn;generalize ((((((((((((((((xU.setIfInBounds (k*16) (.int .u64 0)).setIfInBounds (k*16+1) (.int .u64 0)).setIfInBounds (k*16+1+1) (.int .u64 0)).setIfInBounds (k*16+1+1+1) (.int .u64 0)).setIfInBounds (k*16+1+1+1+1) (.int .u64 0)).setIfInBounds (k*16+1+1+1+1+1) (.int .u64 0)).setIfInBounds (k*16+1+1+1+1+1+1) (.int .u64 0)).setIfInBounds (k*16+1+1+1+1+1+1+1) (.int .u64 0)).setIfInBounds (k*16+1+1+1+1+1+1+1+1) (.int .u64 0)).setIfInBounds (k*16+1+1+1+1+1+1+1+1+1) (.int .u64 0)).setIfInBounds (k*16+1+1+1+1+1+1+1+1+1+1) (.int .u64 0)).setIfInBounds (k*16+1+1+1+1+1+1+1+1+1+1+1) (.int .u64 0)).setIfInBounds (k*16+1+1+1+1+1+1+1+1+1+1+1+1) (.int .u64 0)).setIfInBounds (k*16+1+1+1+1+1+1+1+1+1+1+1+1+1) (.int .u64 0)).setIfInBounds (k*16+1+1+1+1+1+1+1+1+1+1+1+1+1+1) (.int .u64 0)).setIfInBounds (k*16+1+1+1+1+1+1+1+1+1+1+1+1+1+1+1) (.int .i64 (cpu:Int)))=k3 at hkn ⊢;refine fin0 ⟨rfl,⟨wv,.slice (some ⟨gc,0,none⟩) cs.length cc,.slice (some ⟨BO,0,none⟩) vs.length RF,.slice (some ⟨BP,0,none⟩) H.rs.length RG,cs.set cpu ⟨(vm.vs.getD k default).r,n_,(k:Int),cp.t⟩,vs.set i { vm with vs:=vm.vs.set k ⟨jb,(cpu:Int)⟩ },hw,[⟨gc,c3,74⟩],ht,[⟨BO,Bi,62⟩],(z1++(z2++[⟨gk,k3,102⟩]))++zb,[⟨BP,r3,68⟩]⟩,⟨P7,gw,hcn,?_,?_,xh _ _ ⟨z1,z2,[⟨gk,k3,102⟩],o1,o2,?_,⟨zl.1,zl.2.1,by rw[bL3];exact zl.2.2⟩,aJ.refl _⟩,hrn,?_,?_⟩,?_⟩
 ·dsimp only;rw[bM',pX]
  ·exact gt
  ·rw[bJ1,bH0 Nr];rw[bG',bH0 Nr] at Nq;rw[show cs[cpu]=cp from Nq];rfl
 ·dsimp only;rw[bM',pX]
  ·exact BN
  ·rw[bJ1,bH0 hi4];rw[bG',bH0 hi4] at YV;rw[show vs[i]=vm from YV];simp only[bK7,mW,eF.vv,eF.fv,eF.rv,bL3]
 ·rw[show (eF.vv { vm with vs:=vm.vs.set k ⟨jb,(cpu:Int)⟩ })=vm.vv by simp only[eF.vv,bL3],ek];exact hkn
 ·dsimp only;rw[bM',ec];rfl
 ·dsimp only;rw[bM',ev];rfl
 ·simp only[HL.hp,HL.rest]
  (exact aj)
end
section
attribute [local irreducible] Hy St Ops DH dI jl iR gX DS iw lV
section
variable {L : HL} {H : HyD} {cpu : Nat} {c : wR} {X : Nat} {pv gv ov : Value} {w : World} {p7 p8 p9 : Option Addr} {n7 n8 n9 k7 k8 k9 : Nat}
theorem YW(h:AQ L H)(hW:H.lW)(lY:cpu<H.cs.length)(hk:c.kind=8)(hvm:1≤c.vm∧c.vm≤4)(mQ:0≤c.fO∧c.fO<((H.vu (c.vm-1).toNat).vs.length:Int))(hN:eU (L.hp X [pv,gv,ov] 90) w):
  Fn Tryz.prog 35 [.pointer (some ⟨X,0,none⟩),.int .i64 (cpu:Int),uh c,.agg #[.slice p7 n7 k7,.slice p8 n8 k8,.slice p9 n9 k9]].toArray w ((L.hp X [pv,gv,ov] 90).map (·.b)) (HR X [pv,gv,ov] 90 (H.Nj cpu c.vm c.fO)):=by
 obtain⟨K_,n_,oW,jA,xm,xq⟩:=c;dsimp only at hk;subst hk;obtain⟨wv,cv,vv,rv,cs,vs,hw,hc,ht,hvv,hz,hr⟩:=L;have h':=h;obtain⟨P7,gw,JQ,gt,BN,gz,gr,ec,ev⟩:=h;dsimp only at gw JQ gt BN gz gr ec ev;have ecl:cs.length=H.cs.length:=(by rw[←ec,bG9]);obtain⟨gc,cc,lC,rfl,rfl,csz,zI,E8⟩:=JQ.oO (k:=cpu) bA4;generalize Nq:cs.getD cpu default=cp at zI E8;have aO':=zI 15 _ rfl;have Nr:cpu<cs.length:=bA4;have hc3:=hW.c3;refine eH _ hN Tryz.func35 ?_;simp only[HL.hp,HL.rest] at hN ⊢;refine pM (⟨X,#[wv,.slice (some ⟨gc,0,none⟩) cs.length cc,vv,rv,pv,gv,ov],90⟩::⟨gc,lC,74⟩::(hw++(ht++(hvv++(hz++hr))))) aj ?_;refine run ?_;intro Cb Ib;refine aN ?_;refine ja ((⟨wv,.slice (some ⟨gc,0,none⟩) cs.length cc,vv,rv,cs,vs,hw,[⟨gc,lC,74⟩],ht,hvv,hz,hr⟩:HL).hp X [pv,gv,ov] 90) [⟨Ib,#[.slice p7 n7 k7,.slice p8 n8 k8,.slice p9 n9 k9],48⟩,⟨Cb,#[.int .i64 8,.int .i64 n_,.int .i64 oW,.int .i64 jA,.int .i64 xm,.int .i64 xq],37⟩] (fun wc hG=>aB7 _ H h' cpu lY hW.r bA4 ⟨8,n_,oW,jA,xm,xq⟩ ⟨hvm.1,by rw[hW.v];exact hvm.2⟩ (by rw[hW.v];decide) mQ hG.iT) (fun v hn hR=>?_) bF4;obtain⟨rfl,L2,h2,hle⟩:=hR;refine run ?_;exact fin0 ⟨rfl,L2,h2,Jj hle aj⟩
theorem Ns(h:AQ L H)(hW:H.lW)(lY:cpu<H.cs.length)(hk:c.kind=5)(hf:16≤c.frame∧c.frame+5≤((H.ws.length/8:Nat):Int)){P2:PtD}(hPn:P.Len)(ai':P2.Len)
  (hP:∀ w' hp,Good w ((L.hp X [pv,gv,ov] 90).map (·.b)) hp w'→dN w' pv gv ov P) (hPo:∀ b o n k,gv=.slice (some ⟨b,o,none⟩) n k→b∉(L.hp X [pv,gv,ov] 90).map (·.b)) (hP2:∀ w' hp,Good w ((L.hp X [pv,gv,ov] 90).map (·.b)) hp w'→dN w' (.slice p7 n7 k7) (.slice p8 n8 k8) (.slice p9 n9 k9) P2) (UR:∀ b o n k,Value.slice p8 n8 k8=.slice (some ⟨b,o,none⟩) n k→b∉(L.hp X [pv,gv,ov] 90).map (·.b)) (hN:eU (L.hp X [pv,gv,ov] 90) w):
  Fn Tryz.prog 35 [.pointer (some ⟨X,0,none⟩),.int .i64 (cpu:Int),uh c,.agg #[.slice p7 n7 k7,.slice p8 n8 k8,.slice p9 n9 k9]].toArray w ((L.hp X [pv,gv,ov] 90).map (·.b)) (HR X [pv,gv,ov] 90 (H.wL c.frame (HyD.UL P P2))):=by
 obtain⟨K_,n_,oW,jA,xm,xq⟩:=c;dsimp only at hk;subst hk;obtain⟨wv,cv,vv,rv,cs,vs,hw,hc,ht,hvv,hz,hr⟩:=L;have h':=h;obtain⟨P7,gw,JQ,gt,BN,gz,gr,ec,ev⟩:=h;dsimp only at gw JQ gt BN gz gr ec ev;have ecl:cs.length=H.cs.length:=(by rw[←ec,bG9]);obtain⟨gc,cc,lC,rfl,rfl,csz,zI,E8⟩:=JQ.oO (k:=cpu) bA4;generalize Nq:cs.getD cpu default=cp at zI E8;have aO':=zI 15 _ rfl;have Nr:cpu<cs.length:=bA4;have hc3:=hW.c3;refine eH _ hN Tryz.func35 ?_;simp only[HL.hp,HL.rest] at hN ⊢;refine pM (⟨X,#[wv,.slice (some ⟨gc,0,none⟩) cs.length cc,vv,rv,pv,gv,ov],90⟩::⟨gc,lC,74⟩::(hw++(ht++(hvv++(hz++hr))))) aj ?_;refine run ?_;intro Cb Ib;refine aN ?_;refine ja ((⟨wv,.slice (some ⟨gc,0,none⟩) cs.length cc,vv,rv,cs,vs,hw,[⟨gc,lC,74⟩],ht,hvv,hz,hr⟩:HL).hp X [pv,gv,ov] 90) [⟨Ib,#[.slice p7 n7 k7,.slice p8 n8 k8,.slice p9 n9 k9],48⟩,⟨Cb,#[.int .i64 5,.int .i64 n_,.int .i64 oW,.int .i64 jA,.int .i64 xm,.int .i64 xq],37⟩] (fun wc hG=>UQ _ H h' hW ⟨5,n_,oW,jA,xm,xq⟩ hf hG.iT (hP wc _ hG) hPn hPo (hP2 wc _ hG) ai' UR) (fun v hn hR=>?_) bF4;obtain⟨rfl,L2,h2,hle⟩:=hR;refine run ?_;exact fin0 ⟨rfl,L2,h2,Jj hle aj⟩
theorem Nu(h:AQ L H)(hW:H.lW)(lY:cpu<H.cs.length)(hk:c.kind=3)(hvm:1≤c.vm∧c.vm≤4)(hf:0≤c.frame∧c.frame<64)(hfs:0<(H.vu (c.vm-1).toNat).fs.length)(hN:eU (L.hp X [pv,gv,ov] 90) w):
  Fn Tryz.prog 35 [.pointer (some ⟨X,0,none⟩),.int .i64 (cpu:Int),uh c,.agg #[.slice p7 n7 k7,.slice p8 n8 k8,.slice p9 n9 k9]].toArray w ((L.hp X [pv,gv,ov] 90).map (·.b)) (HR X [pv,gv,ov] 90 (H.zF c.vm c.frame c.mid)):=by
 obtain⟨K_,n_,oW,jA,xm,xq⟩:=c;dsimp only at hk;subst hk;obtain⟨wv,cv,vv,rv,cs,vs,hw,hc,ht,hvv,hz,hr⟩:=L;have h':=h;obtain⟨P7,gw,JQ,gt,BN,gz,gr,ec,ev⟩:=h;dsimp only at gw JQ gt BN gz gr ec ev;have ecl:cs.length=H.cs.length:=(by rw[←ec,bG9]);obtain⟨gc,cc,lC,rfl,rfl,csz,zI,E8⟩:=JQ.oO (k:=cpu) bA4;generalize Nq:cs.getD cpu default=cp at zI E8;have aO':=zI 15 _ rfl;have Nr:cpu<cs.length:=bA4;have hc3:=hW.c3;dsimp only at hvm hf hfs ⊢;refine eH _ hN Tryz.func35 ?_;simp only[HL.hp,HL.rest] at hN ⊢;refine pM (⟨X,#[wv,.slice (some ⟨gc,0,none⟩) cs.length cc,vv,rv,pv,gv,ov],90⟩::⟨gc,lC,74⟩::(hw++(ht++(hvv++(hz++hr))))) aj ?_;refine run ?_;intro Cb Ib;refine aN ?_;refine drawM 7 [0,1,2,4,5] [3,6] [] ?_;refine gK ?_;refine kD (R:=fun u hn=>∃ C,u=.func (.func 163) [].toArray [.pointer (some ⟨C,0,none⟩)].toArray∧aJ [⟨C,#[.int .i64 n_],3⟩] hn) (fun wc hG=>Nl n_ wc) ⟨_,_,0,rfl,aJ.refl _⟩ ?_;refine Rq ?_;refine kP ?_;rintro _ _ ⟨Z,rfl,rfl⟩ _ hnC ⟨C,rfl,aB0⟩;refine jM ?_;refine ru ?_;simp only[bH2,bH5];refine aS (⟨Z,#[.int .i64 oW],3⟩::⟨C,#[.int .i64 n_],3⟩::⟨Ib,#[.slice p7 n7 k7,.slice p8 n8 k8,.slice p9 n9 k9],48⟩::⟨Cb,#[.int .i64 3,.int .i64 n_,.int .i64 oW,.int .i64 jA,.int .i64 xm,.int .i64 xq],37⟩::⟨X,#[wv,.slice (some ⟨gc,0,none⟩) cs.length cc,vv,rv,pv,gv,ov],90⟩::⟨gc,lC,74⟩::(hw++(ht++(hvv++(hz++hr))))) (cnt1 aB0) ?_;refine ja ((⟨wv,.slice (some ⟨gc,0,none⟩) cs.length cc,vv,rv,cs,vs,hw,[⟨gc,lC,74⟩],ht,hvv,hz,hr⟩:HL).hp X [pv,gv,ov] 90) (⟨Z,#[.int .i64 oW],3⟩::⟨C,#[.int .i64 n_],3⟩::⟨Ib,#[.slice p7 n7 k7,.slice p8 n8 k8,.slice p9 n9 k9],48⟩::[⟨Cb,#[.int .i64 3,.int .i64 n_,.int .i64 oW,.int .i64 jA,.int .i64 xm,.int .i64 xq],37⟩]) (fun wc hG=>Rx _ H h' hW (F:=163) (us:=[.pointer (some ⟨C,0,none⟩)]) (fun _=>jO (1+n_)) [oW] (fun f hf'=>by rw[bM5.1 hf'];exact hf) (fun _ _=>Gx bA4 bA4) (iJ (xs:=[oW].map bY) (hG.here ⟨Z,#[.int .i64 oW],3⟩ bA6) (fun c hc=>(E5 _ c hc).1) bA6) (fun b o n k e hm=>?_) (fun f hf' w' hp hg=>?_) hG.iT) (fun v hn2 hR=>?_) bF4
 ·cases e;exact hG.Hq (e:=⟨Z,#[.int .i64 oW],3⟩) bA6 hm
 ·exact Hu C n_ f ⟨by omega,by omega⟩ w' ((hG.lG hg).cell1 (t:=3) bA6)
 obtain⟨rfl,L2,h2,hle2⟩:=hR;refine aS (⟨Ib,#[.slice p7 n7 k7,.slice p8 n8 k8,.slice p9 n9 k9],48⟩::⟨Cb,#[.int .i64 3,.int .i64 n_,.int .i64 oW,.int .i64 jA,.int .i64 xm,.int .i64 xq],37⟩::(L2.hp X [pv,gv,ov] 90)) (cnt1 hle2) ?_;refine run ?_;refine drawM 8 [0,1,2,3,4,5,6,7] [] [] ?_;refine gK ?_;refine Em (fun wc hx9 hG=>aA' oW wc) ?_;refine gK ?_;refine kP ?_;refine jM ?_;refine ru ?_;simp only[bH2,bH5];have hW2:(H.hst oW.toNat (jO (1+n_))).lW:=hW.hst _;refine ja (L2.hp X [pv,gv,ov] 90) (⟨Ib,#[.slice p7 n7 k7,.slice p8 n8 k8,.slice p9 n9 k9],48⟩::[⟨Cb,#[.int .i64 3,.int .i64 n_,.int .i64 oW,.int .i64 jA,.int .i64 xm,.int .i64 xq],37⟩]) (fun wc hG=>UO L2 _ h2 hW2 n_ hvm hfs jA (bg oW 0) hG.iT) (fun v hn3 hR=>?_) aT;obtain⟨rfl,L3,h3,hle3⟩:=hR;refine run ?_;exact fin0 ⟨rfl,L3,h3,Jj hle3 aj⟩
end
end
section
attribute [local irreducible] Hy St Ops DH dI
theorem BQ{ha:Hp}(xs:List Int)(hA:Own 3 1 v ha (xs.map bY))(hN:eU ha w)(hl:xs.length<100000):Fn Tryz.prog 185 [v].toArray w (ha.map (·.b)) (fun u hn=>u=.tuple #[]):=by
 obtain⟨q,cap,ev⟩:=hA.opened;rw[bG9] at ev;subst ev;refine eH _ hN Tryz.func185 ?_;refine run ?_;refine aK (σ:=Nat×Hp×List Int) (fun s=>[(2,.int .i64 (s.1:Int))]) (fun s=>s.2.1) (fun s=>s.1≤xs.length∧s.2.2.length=xs.length∧Own 3 1 (.slice q xs.length cap) s.2.1 (s.2.2.map bY)) (fun s=>xs.length-s.1) (0,ha,xs) ⟨bH3 _,rfl,hA⟩ ?_;rintro⟨k,h,ys⟩ m hm ⟨hk,hyl,hO⟩;dsimp only at hm hk hyl hO ⊢;refine run ?_;refine ah _ rfl (fun hc=>?_) (fun hc=>?_)
 ·have hlt:k<xs.length:=by simp at hc;omega
  obtain⟨g,cap',cur,eg,rfl,hn,hsz,hset⟩:=hO.aa1 (k:=k) bA4;rw[hyl] at eg;cases eg;refine run ?_;exact aF (k+1,[⟨g,cur.setIfInBounds k (.int .i64 (-99)),3⟩],ys.set k (-99)) (hm:=by dsimp only;omega) ⟨hlt,by rw[bL3];exact hyl,hset _⟩ (h2:=by (exact aj))
 ·refine run ?_;intro T;refine wu (c:=bY 5) [⟨T,#[.int .i64 5],3⟩] hO (fun v' ha' hA'=>?_) bA7 (aY (m:=1) mh rfl) aT;refine run ?_;exact fin0 rfl
section
variable {P : PtD} {Y : Lay} {w : World}
end
end
section
attribute [local irreducible] Hy St Ops DH dI
namespace PtD
def Hw(r:Except Int PtD):Prop:=∀ e,r=.error e→e≠0
theorem aC1{e:Int}(h:e≠0):Hw (.error e):=fun _ h2=>by cases h2;exact h
theorem aj0{b:Bool}{x y:Except Int PtD}(h1:Hw x)(h2:Hw y):Hw (bif b then x else y):=by cases b<;>assumption
theorem aP0{Q:PtD}:Hw (.ok Q):=fun _ h=>by cases h
theorem xW(P:PtD)(cpu:Nat)(c:wR):Hw (P.Cj cpu c):=by
 unfold Cj ET xQ YE MX oV MW qO MZ moreL vM YA BL
 repeat' first
  | exact aC1 bA5
  | exact aP0
  | refine aj0 ?_ ?_
end PtD
def PK(K:Int):Prop:=∀ (P:PtD) (w:World) (pv gv ov:Value),dN w pv gv ov P→P.Small 1000→∀ cpu:Nat,cpu<P.on.length→∀ c:wR,c.Wf→c.kind=K →
  Fn Tryz.prog 33 [.agg #[pv,gv,ov],.int .i64 (cpu:Int),uh c].toArray w [] (DoR (bif P.may then P.Cj cpu c else .error 1))
theorem a88:PK 3:=by
 intro P w pv gv ov h hs cpu hc c hw hk;obtain⟨K,vm,fr,mid,vc,cc⟩:=c;dsimp only at hk;subst hk;refine EO h hs cpu hc _ _ (PtD.xW P cpu _) (fun hm hv Y bx w hO hN=>?_) (fun hm hv Y bx w hO hN=>?_)
 ·rw[PtD.Cj,show decide ((P.st cpu).vm=0)=true by simp[hv],cond_true,PtD.ET];exact Bd hO hm hN cpu vm fr mid vc cc hw
 ·rw[PtD.Cj,show decide ((P.st cpu).vm=0)=false by simp[hv],cond_false,PtD.xQ];exact qF hO hN 3 vm fr mid vc cc cpu hc bA5 bA5 bA5
theorem a90:PK 5:=by
 intro P w pv gv ov h hs cpu hc c hw hk;obtain⟨K,vm,fr,mid,vc,cc⟩:=c;dsimp only at hk;subst hk;refine EO h hs cpu hc _ _ (PtD.xW P cpu _) (fun hm hv Y bx w hO hN=>?_) (fun hm hv Y bx w hO hN=>?_)
 ·rw[PtD.Cj,show decide ((P.st cpu).vm=0)=true by simp[hv],cond_true,PtD.ET];exact Be hO hm hN cpu vm fr mid vc cc hw
 ·rw[PtD.Cj,show decide ((P.st cpu).vm=0)=false by simp[hv],cond_false,PtD.xQ];exact qF hO hN 5 vm fr mid vc cc cpu hc bA5 bA5 bA5
theorem aP1:PK 8:=by
 intro P w pv gv ov h hs cpu hc c hw hk;obtain⟨K,vm,fr,mid,vc,cc⟩:=c;dsimp only at hk;subst hk;refine EO h hs cpu hc _ _ (PtD.xW P cpu _) (fun hm hv Y bx w hO hN=>?_) (fun hm hv Y bx w hO hN=>?_)
 ·rw[PtD.Cj,show decide ((P.st cpu).vm=0)=true by simp[hv],cond_true,PtD.ET];exact F5 hO hN cpu hc vm fr mid vc cc hw
 ·rw[PtD.Cj,show decide ((P.st cpu).vm=0)=false by simp[hv],cond_false,PtD.xQ];exact qF hO hN 8 vm fr mid vc cc cpu hc bA5 bA5 bA5
end
section
attribute [local irreducible] Hy St Ops DH dI jl iR gX DS iw lV
theorem rX{w0 wc:World}{mu:List Nat}{hi rest hn:Hp}(hG:Good w0 mu (hi++rest) wc)(hs:∀ e∈hn,e∈rest){pv gv ov:Value}(hP:∀ w,Here hn w→dN w pv gv ov P)(h0:0<P.ay.length):∀ b o n k,gv=.slice (some ⟨b,o,none⟩) n k→b∉hi.map (·.b):=by
 intro b o n k e hm;subst e;obtain⟨x,hx,rfl⟩:=bH9.1 hm;obtain⟨A,B,rfl⟩:=bV' hx
 have kN:(x::(A++B++rest)).Perm (A++x::B++rest):=by
  rw[←bH2];exact (bR6 (l₁:=A) (l₂:=B)).symm.append_right rest
 have hG2:=hG.perm kN;have hG3:=hG2.row #[];have hH:Here hn (wc.setRow x.b #[]):=fun e he=>hG3.here e (bH8 _ (bH7 _ (hs e he)));obtain⟨_,⟨vv,mv,hg,_⟩,_,_⟩:=hP _ hH;have hr:=(aA.a04 hg (i:=0) (by rw[bJ1,bO1 h0];rfl))
 have hc:=ak hr;rw[cell_of_block (hG3.here _ (bH' ..))] at hc;simp at hc
def Hz(H:HyD)(u:Value)(hn:Hp):Prop:=∃ L:HL,u=.tuple #[.agg #[L.wv,L.cv,L.vv,L.rv],.int .i64 0]∧AQ L H∧aJ L.rest hn
theorem JF{K:Int}(pk:PK K){w:World}{vv rv:Value}(h:vw w wv cv vv rv H)(hok:H.ok=true)(cpu:Nat)(lY:cpu<H.cs.length)(c:wR)(hk:c.kind=K)(hw:c.Wf){P2:PtD}(hd:H.aG.Cj cpu c=.ok P2)(hs:H.aG.Small 1000){H2:HyD}
  (hdo:∀ (L:HL) (X:Nat) (p4 p5 p6 p7 p8 p9:Option Addr) (n4 n5 n6 n7 n8 n9 k4 k5 k6 k7 k8 k9:Nat) (w:World),AQ L H→eU (L.hp X [.slice p4 n4 k4,.slice p5 n5 k5,.slice p6 n6 k6] 90) w →
   (∀ w' hp,Good w ((L.hp X [.slice p4 n4 k4,.slice p5 n5 k5,.slice p6 n6 k6] 90).map (·.b)) hp w'→dN w' (.slice p4 n4 k4) (.slice p5 n5 k5) (.slice p6 n6 k6) H.aG)→(∀ b o n k,Value.slice p5 n5 k5=.slice (some ⟨b,o,none⟩) n k→b∉(L.hp X [.slice p4 n4 k4,.slice p5 n5 k5,.slice p6 n6 k6] 90).map (·.b)) →
   (∀ w' hp,Good w ((L.hp X [.slice p4 n4 k4,.slice p5 n5 k5,.slice p6 n6 k6] 90).map (·.b)) hp w'→dN w' (.slice p7 n7 k7) (.slice p8 n8 k8) (.slice p9 n9 k9) P2)→(∀ b o n k,Value.slice p8 n8 k8=.slice (some ⟨b,o,none⟩) n k→b∉(L.hp X [.slice p4 n4 k4,.slice p5 n5 k5,.slice p6 n6 k6] 90).map (·.b)) →
   Fn Tryz.prog 35 [.pointer (some ⟨X,0,none⟩),.int .i64 (cpu:Int),uh c,.agg #[.slice p7 n7 k7,.slice p8 n8 k8,.slice p9 n9 k9]].toArray w ((L.hp X [.slice p4 n4 k4,.slice p5 n5 k5,.slice p6 n6 k6] 90).map (·.b)) (HR X [.slice p4 n4 k4,.slice p5 n5 k5,.slice p6 n6 k6] 90 H2)):
  Fn Tryz.prog 16 [.agg #[wv,cv,vv,rv],.int .i64 (cpu:Int),uh c].toArray w [] (Hz H2):=by
 have h':=h;have hL:vG H:=jv (by simp only[HyD.ok,bG8] at hok;exact hok.1.1.1);have hlook:H.iq=true:=by simp only[HyD.ok,bG8] at hok;exact hok.1.1.1
 have hmay:H.aG.may=true:=by simp only[HyD.ok,bG8] at hok;exact hok.1.1.2.1.1
 have rZ:=bP hL.m;have hc1:=hL.c1;have hc3:=hL.c3;have hv4:=hL.v;obtain⟨cs,vs,e1,e2,_,hH⟩:=h.ex;have hcl:cs.length=H.cs.length:=by rw[←e1,bG9]
 obtain⟨q,cap,rfl,hne,_⟩:=hH.ws.opened;obtain⟨q2,cap2,rfl,hne2,_⟩:=hH.cs.rows.opened;obtain⟨q3,cap3,rfl,jI,_⟩:=hH.vs.rows.opened;obtain⟨q4,cap4,rfl,oQ,_⟩:=hH.rs.opened;refine enter Tryz.func16 ?_;refine run ?_;intro Hb Cb Rb;refine run ?_;refine az (fun wc hG=>vJ (h'.good hG)) ?_;rw[hok];refine aN ?_;refine ah _ rfl (fun hc=>absurd hc bA') (fun hc=>?_);refine aN ?_;refine bH (fun wc hG=>EH (h'.good hG)) ?_;intro u hn hu;unfold zo at hu;rw[hlook] at hu;obtain⟨p4,p5,p6,k4,k5,k6,n4,n5,n6,rfl,hPw⟩:=hu;refine aN ?_;intro Wb;have hon:H.aG.on.length=H.cs.length:=by unfold HyD.aG;dsimp only;rw[bG9]
 refine bH (fun wc hG=>pk _ _ _ _ _ (hPw wc (fun e he=>hG.here e bC2)) hs cpu bF2 c hw hk) ?_;rw[hmay,cond_true,hd];rintro _ hn2 ⟨Y,rfl,hO,hle⟩;refine aS (⟨Wb,#[.slice p4 n4 k4,.slice p5 n5 k5,.slice p6 n6 k6],48⟩::(Y.in++(hn++[⟨Rb,#[.slice none 0 0,.slice none 0 0,.slice none 0 0,.slice none 0 0],29⟩,⟨Cb,#[.int .i64 c.kind,.int .i64 c.vm,.int .i64 c.frame,.int .i64 c.mid,.int .i64 c.fO,.int .i64 c.lX],37⟩,⟨Hb,#[.slice q H.ws.length cap,.slice q2 cs.length cap2,.slice q3 vs.length cap3,.slice q4 H.rs.length cap4],29⟩]))) (cnt1 hle) ?_;refine aN ?_;intro Vb;refine bH (fun wc hG=>UU (h'.good hG) bA4 bA4 bA4 p4 p5 p6 n4 n5 n6 k4 k5 k6) ?_;rintro _ hn3 ⟨X,L,rfl,hL3,hle3⟩;refine aS (⟨Rb,#[.slice none 0 0,.slice none 0 0,.slice none 0 0,.slice none 0 0],29⟩::⟨Vb,#[Y.pv P2,Y.gv P2,Y.ov P2],48⟩::⟨Cb,#[.int .i64 c.kind,.int .i64 c.vm,.int .i64 c.frame,.int .i64 c.mid,.int .i64 c.fO,.int .i64 c.lX],37⟩::(Y.in++(hn++(L.hp X [.slice p4 n4 k4,.slice p5 n5 k5,.slice p6 n6 k6] 90)))) (cnt1 hle3) ?_;refine aN ?_;have hIs:∀ w',Here Y.in w'→dN w' (Y.pv P2) (Y.gv P2) (Y.ov P2) P2:=fun w' hh=>hO.ap1 hh;have hg4:H.aG.ay.length=4:=by unfold HyD.aG;simp
 have a94:P2.ay.length=4:=hO.n.g4
 refine ja (L.hp X [.slice p4 n4 k4,.slice p5 n5 k5,.slice p6 n6 k6] 90) (⟨Rb,#[.slice none 0 0,.slice none 0 0,.slice none 0 0,.slice none 0 0],29⟩::⟨Vb,#[Y.pv P2,Y.gv P2,Y.ov P2],48⟩::⟨Cb,#[.int .i64 c.kind,.int .i64 c.vm,.int .i64 c.frame,.int .i64 c.mid,.int .i64 c.fO,.int .i64 c.lX],37⟩::(Y.in++hn)) (fun wc hG=>hdo L X p4 p5 p6 (some ⟨Y.pb,0,none⟩) (some ⟨Y.gb,0,none⟩) (some ⟨Y.ob,0,none⟩) n4 n5 n6 P2.pages.length P2.ay.length P2.on.length k4 k5 k6 Y.zA Y.AZ Y.A7 wc hL3 hG.iT
  (fun w' hp hg=>hPw w' (fun e he=>(hG.lG hg).here e bC2)) (rX hG (fun e he=>by simp[he]) hPw bA4) (fun w' hp hg=>hIs w' (fun e he=>(hG.lG hg).here e bC1)) (rX hG (fun e he=>by simp only[bJ6,bI5,he,true_or,or_true]) hIs bA4)) (fun v hn4 hR=>?_) aT
 obtain⟨rfl,L2,h2,Aq⟩:=hR;obtain⟨wv2,AO,vv2,rv2,cs2,vs2,hw2,hc2,ht2,hv2,hz2,hr2⟩:=L2;obtain⟨y1,y2,y3⟩:=h2.w.opened;obtain⟨y4,y5,y6⟩:=h2.c.opened;obtain⟨y7,y8,y9⟩:=h2.v.opened;obtain⟨RH,RI,y12⟩:=h2.r.opened;dsimp only at y3 y6 y9 y12;subst y3 y6 y9 y12;simp only[HL.hp,HL.rest] at Aq;refine aS (⟨Rb,#[.slice none 0 0,.slice none 0 0,.slice none 0 0,.slice none 0 0],29⟩::⟨X,#[.slice y1 (List.map uV H2.ws).length y2,.slice y4 (List.map qX cs2).length y5,.slice y7 (List.map mW vs2).length y8,.slice RH (List.map jc H2.rs).length RI,.slice p4 n4 k4,.slice p5 n5 k5,.slice p6 n6 k6],90⟩::(hw2++(hc2++(ht2++(hv2++(hz2++hr2)))))) (cnt1 Aq) ?_;refine aN ?_;refine gB ?_;exact⟨_,rfl,h2,by simp only[HL.rest];(exact aj)⟩
end
section
attribute [local irreducible] Hy St Ops DH dI
def RK(K:Int):Prop:=∀ (P:PtD) (w:World) (pv gv ov:Value),dN w pv gv ov P→P.Small 1000→P.may=true→∀ cpu:Nat,cpu<P.on.length→∀ c:wR,c.Wf→c.kind=K →
  Fn Tryz.prog 176 [.agg #[pv,gv,ov],.int .i64 (cpu:Int),uh c].toArray w [] (DoR (P.Cj cpu c))
theorem aP2:RK 8:=by
 intro P w pv gv ov h hs hm cpu hc c hw hk;obtain⟨K,vm,fr,mid,vc,cc⟩:=c;dsimp only at hk;subst hk;refine ah6 h hs hm cpu hc _ _ (PtD.xW P cpu _) (fun hv Y bx w hO hN=>?_) (fun hv Y bx w hO hN=>?_)
 ·rw[PtD.Cj,show decide ((P.st cpu).vm=0)=true by simp[hv],cond_true,PtD.ET];exact UK hO hN cpu hc vm fr mid vc cc hw
 ·rw[PtD.Cj,show decide ((P.st cpu).vm=0)=false by simp[hv],cond_false,PtD.xQ];exact Yz hO hN 8 vm fr mid vc cc cpu hc (by have:=MS hm hc hv;exact⟨this.1,this.2.1⟩) bA5 bA5 bA5
end
section
attribute [local irreducible] Hy St Ops DH dI jl iR gX DS iw lV
theorem aj1(xs:List fG)(v:Value)(h:aA w v 14 (xs.map iC))(hl:xs.length<1000000):Fn Tryz.prog 341 [v].toArray w [] (fun u hp=>Acc 80 14 u hp (xs.map iC)):=by
 obtain⟨q,cap,rfl,hne,hle⟩:=h.opened;refine enter Tryz.func341 ?_;refine run ?_;refine aK (σ:=Nat×Value×Hp) (fun s=>[(3,s.2.1),(4,.int .i64 (s.1:Int))]) (fun s=>s.2.2) (fun s=>s.1≤xs.length∧Acc 80 14 s.2.1 s.2.2 ((xs.take s.1).map iC)) (fun s=>xs.length-s.1) (0,_,[]) ⟨by omega,Acc.nil _ _⟩ ?_;rintro⟨k,v,ha⟩ m hm ⟨hk,hA⟩;dsimp only at hm hk hA ⊢;refine run ?_;refine ah _ rfl (fun hc=>?_) (fun hc=>?_)
 ·have hlt:k<xs.length:=by simp at hc;omega
  obtain⟨b,o,rfl⟩:=hne bA8;have h1:=(h.row hlt)
  refine run ?_;intro T;refine dK (c:=iC (xs.getD k default)) hA (fun v' ha' hA'=>?_) bA' (aY (m:=14) mh rfl);refine run ?_;refine aF (k+1,v',ha') ⟨hlt,?_⟩;dsimp only;rw[dW hlt,bI6];exact hA'
 ·have:k=xs.length:=by simp at hc;omega
  subst this;refine run ?_;refine fin1 ?_;simpa using hA
theorem aj2(xs:List jC)(v:Value)(h:aA w v 4 (xs.map lg))(hl:xs.length<1000000):Fn Tryz.prog 342 [v].toArray w [] (fun u hp=>Acc 127 4 u hp (xs.map lg)):=by
 obtain⟨q,cap,rfl,hne,hle⟩:=h.opened;refine enter Tryz.func342 ?_;refine run ?_;refine aK (σ:=Nat×Value×Hp) (fun s=>[(3,s.2.1),(4,.int .i64 (s.1:Int))]) (fun s=>s.2.2) (fun s=>s.1≤xs.length∧Acc 127 4 s.2.1 s.2.2 ((xs.take s.1).map lg)) (fun s=>xs.length-s.1) (0,_,[]) ⟨by omega,Acc.nil _ _⟩ ?_;rintro⟨k,v,ha⟩ m hm ⟨hk,hA⟩;dsimp only at hm hk hA ⊢;refine run ?_;refine ah _ rfl (fun hc=>?_) (fun hc=>?_)
 ·have hlt:k<xs.length:=by simp at hc;omega
  obtain⟨b,o,rfl⟩:=hne bA8;have h1:=(h.row hlt)
  refine run ?_;intro T;refine dK (c:=lg (xs.getD k default)) hA (fun v' ha' hA'=>?_) bA' (aY (m:=4) mh rfl);refine run ?_;refine aF (k+1,v',ha') ⟨hlt,?_⟩;dsimp only;rw[dW hlt,bI6];exact hA'
 ·have:k=xs.length:=by simp at hc;omega
  subst this;refine run ?_;refine fin1 ?_;simpa using hA
theorem aj3(es:List fG)(ds:List jC)(v u:Value)(h:aA w v 14 (es.map iC))(hd:aA w u 4 (ds.map lg))(hl:es.length<1000000)(hl2:ds.length<1000000):Fn Tryz.prog 312 [.agg #[v,u]].toArray w [] (fun r hn=>∃ v1 h1 v2 h2,r=.agg #[v1,v2]∧Acc 80 14 v1 h1 (es.map iC)∧Acc 127 4 v2 h2 (ds.map lg)∧aJ (h1++h2) hn):=by
 have h':=h;have hd':=hd;obtain⟨q,cap,rfl,_,_⟩:=h.opened;obtain⟨q2,cap2,rfl,_,_⟩:=hd.opened;refine enter Tryz.func312 ?_;refine run ?_;intro B R X;refine run ?_;refine bH (fun wc hG=>aj1 es _ (h'.good hG) hl) (fun v1 h1 hA=>?_);obtain⟨q3,c3,e3⟩:=hA.own.opened;rw[bG9] at e3;subst e3;refine dm (_++h1) bI7 ?_;simp only[bH2,bH5];refine run ?_;refine bH (fun wc hG=>aj2 ds _ (hd'.good hG) hl2) (fun v2 h2 hA2=>?_);obtain⟨q4,c4,e4⟩:=hA2.own.opened;rw[bG9] at e4;subst e4;refine dm (_++h2) bI7 ?_;simp only[bH2,bH5];refine run ?_;exact dS (cs:=#[.slice q3 es.length c3,.slice q4 ds.length c4]) ⟨_,h1,_,h2,rfl,hA,hA2,by (exact aj)⟩
theorem aC2(xs:List AA)(v:Value)(h:aA w v 16 (xs.map zO))(hl:xs.length<1000000):Fn Tryz.prog 313 [v].toArray w [] (fun u hp=>Acc 102 16 u hp (xs.map zO)):=by
 obtain⟨q,cap,rfl,hne,hle⟩:=h.opened;refine enter Tryz.func313 ?_;refine run ?_;refine aK (σ:=Nat×Value×Hp) (fun s=>[(3,s.2.1),(4,.int .i64 (s.1:Int))]) (fun s=>s.2.2) (fun s=>s.1≤xs.length∧Acc 102 16 s.2.1 s.2.2 ((xs.take s.1).map zO)) (fun s=>xs.length-s.1) (0,_,[]) ⟨by omega,Acc.nil _ _⟩ ?_;rintro⟨k,v,ha⟩ m hm ⟨hk,hA⟩;dsimp only at hm hk hA ⊢;refine run ?_;refine ah _ rfl (fun hc=>?_) (fun hc=>?_)
 ·have hlt:k<xs.length:=by simp at hc;omega
  obtain⟨b,o,rfl⟩:=hne bA8;have h1:=(h.row hlt)
  refine run ?_;intro T;refine dK (c:=zO (xs.getD k default)) hA (fun v' ha' hA'=>?_) bA' (aY (m:=16) mh rfl);refine run ?_;refine aF (k+1,v',ha') ⟨hlt,?_⟩;dsimp only;rw[dW hlt,bI6];exact hA'
 ·have:k=xs.length:=by simp at hc;omega
  subst this;refine run ?_;refine fin1 ?_;simpa using hA
theorem aC3(xs:List zN)(v:Value)(h:aA w v 15 (xs.map jc))(hl:xs.length<1000000):Fn Tryz.prog 174 [v].toArray w [] (fun u hp=>Acc 68 15 u hp (xs.map jc)):=by
 obtain⟨q,cap,rfl,hne,hle⟩:=h.opened;refine enter Tryz.func174 ?_;refine run ?_;refine aK (σ:=Nat×Value×Hp) (fun s=>[(3,s.2.1),(4,.int .i64 (s.1:Int))]) (fun s=>s.2.2) (fun s=>s.1≤xs.length∧Acc 68 15 s.2.1 s.2.2 ((xs.take s.1).map jc)) (fun s=>xs.length-s.1) (0,_,[]) ⟨by omega,Acc.nil _ _⟩ ?_;rintro⟨k,v,ha⟩ m hm ⟨hk,hA⟩;dsimp only at hm hk hA ⊢;refine run ?_;refine ah _ rfl (fun hc=>?_) (fun hc=>?_)
 ·have hlt:k<xs.length:=by simp at hc;omega
  obtain⟨b,o,rfl⟩:=hne bA8;have h1:=(h.row hlt)
  refine run ?_;intro T;refine dK (c:=jc (xs.getD k default)) hA (fun v' ha' hA'=>?_) bA' (aY (m:=15) mh rfl);refine run ?_;refine aF (k+1,v',ha') ⟨hlt,?_⟩;dsimp only;rw[dW hlt,bI6];exact hA'
 ·have:k=xs.length:=by simp at hc;omega
  subst this;refine run ?_;refine fin1 ?_;simpa using hA
theorem aj6(c:jK)(h1:aA w c.t.ev 14 (c.t.es.map iC))(h2:aA w c.t.dv 4 (c.t.ds.map lg))(l1:c.t.es.length<100000)(l2:c.t.ds.length<100000):Fn Tryz.prog 259 [.agg (qX c).toArray].toArray w [] (fun u hn=>∃ t h,u=.agg (qX { c with t:=t }).toArray∧t.es=c.t.es∧t.ds=c.t.ds∧wQ t h∧aJ h hn):=by
 obtain⟨⟨x0,x1,x2,x3,x4,x5,x6,x7,x8,x9,x10,x11,x12,x13,x14⟩,vm,vc,⟨es,ds,ep,ec,dp,dc⟩⟩:=c;dsimp only[uu.ev,uu.dv,qX] at *;refine enter Tryz.func259 ?_;refine run ?_;intro B X Y;refine run ?_;refine bH (fun wc hG=>aj3 es ds _ _ (h1.good hG) (h2.good hG) bA4 bA4) ?_;rintro _ hn ⟨v1,g1,v2,g2,rfl,hA1,hA2,hle⟩;obtain⟨q1,c1,e1⟩:=hA1.own.opened;obtain⟨q2,c2,e2⟩:=hA2.own.opened;rw[bG9] at e1 e2;subst e1 e2;refine dm (_++hn) bI7 ?_;simp only[bH2,bH5];refine run ?_;refine dS (cs:=(qX ⟨⟨x0,x1,x2,x3,x4,x5,x6,x7,x8,x9,x10,x11,x12,x13,x14⟩,vm,vc,⟨es,ds,q1,c1,q2,c2⟩⟩).toArray) ⟨⟨es,ds,q1,c1,q2,c2⟩,g1++g2,rfl,rfl,rfl,⟨g1,g2,hA1.own,hA2.own,⟨l1,l2⟩,aJ.refl _⟩,by (exact cnt1 hle)⟩
theorem aC4(m:eF)(h1:aA w m.fv 1 (m.fs.map bY))(h2:aA w m.rv 1 (m.fr.map bY))(h3:aA w m.vv 16 (m.vs.map zO))(l1:m.fs.length<100000)(l2:m.fr.length<100000)(l3:m.vs.length<100000):Fn Tryz.prog 260 [.agg (mW m).toArray].toArray w [] (fun u hn=>∃ y h,u=.agg (mW y).toArray∧y.u=m.u∧TT y h∧aJ h hn):=by
 obtain⟨li,dy,id,fs,fp,fc,fr,rp,rc,vs,vp,vk⟩:=m;dsimp only[eF.fv,eF.rv,eF.vv,mW] at *;refine enter Tryz.func260 ?_;refine run ?_;intro B X Y;refine run ?_;refine bH (fun wc hG=>qR fs _ (h1.good hG) bA4) ?_;intro v1 g1 hA1;obtain⟨q1,c1,e1⟩:=hA1.own.opened;rw[bG9] at e1;subst e1;refine dm (_++g1) bI7 ?_;simp only[bH2,bH5];refine run ?_;refine bH (fun wc hG=>qR fr _ (h2.good hG) bA4) ?_;intro v2 g2 hA2;obtain⟨q2,c2,e2⟩:=hA2.own.opened;rw[bG9] at e2;subst e2;refine dm (_++g2) bI7 ?_;simp only[bH2,bH5];refine run ?_;refine bH (fun wc hG=>aC2 vs _ (h3.good hG) bA4) ?_;intro v3 g3 hA3;obtain⟨q3,c3,e3⟩:=hA3.own.opened;rw[bG9] at e3;subst e3;refine dm (_++g3) bI7 ?_;simp only[bH2,bH5];refine run ?_;refine dS (cs:=(mW ⟨li,dy,id,fs,q1,c1,fr,q2,c2,vs,q3,c3⟩).toArray) ⟨⟨li,dy,id,fs,q1,c1,fr,q2,c2,vs,q3,c3⟩,g1++(g2++g3),rfl,rfl,⟨g1,g2,g3,hA1.own,hA2.own,hA3.own,⟨l1,l2,l3⟩,aJ.refl _⟩,by (exact aj)⟩
structure UX where
 k:Nat
 v:Value
 ys:List jK
 ha:Hp
 ht:Hp
theorem YX(xs:List jK)(v:Value)(h:AL w v xs)(hl:xs.length<100000)(hb:∀ c∈xs,c.t.es.length<100000∧c.t.ds.length<100000):Fn Tryz.prog 172 [v].toArray w [] (fun u hn=>∃ ys:List jK,∃ ha ht,Own 74 19 u ha (ys.map qX)∧fU wQ (ys.map (·.t)) ht∧ys.map jK.u=xs.map jK.u∧aJ (ha++ht) hn):=by
 obtain⟨q,cap,rfl,hne,hle⟩:=h.rows.opened;refine enter Tryz.func172 ?_;refine run ?_;refine aK (σ:=UX) (fun s=>[(3,s.v),(4,.int .i64 (s.k:Int))]) (fun s=>s.ha++s.ht) (fun s=>s.k≤xs.length∧Acc 74 19 s.v s.ha (s.ys.map qX)∧fU wQ (s.ys.map (·.t)) s.ht∧s.ys.map jK.u=(xs.take s.k).map jK.u) (fun s=>xs.length-s.k) ⟨0,.slice none 0 0,[],[],[]⟩ ⟨bH3 _,Acc.nil _ _,trivial,rfl⟩ ?_;rintro⟨k,v,ys,ha,ht⟩ m hm ⟨hk,hA,hT,hE⟩;dsimp only at hm hk hA hT hE ⊢;refine run ?_;refine ah _ rfl (fun hc=>?_) (fun hc=>?_)
 ·have hlt:k<xs.length:=by simp at hc;omega
  obtain⟨b,o,rfl⟩:=hne bA8;have h1:=(h.rows.row hlt)
  have hlb:=hb _ (getD_mem (l:=xs) hlt);have hen:=h.en _ (getD_mem (l:=xs) hlt);have hiv:=h.iv _ (getD_mem (l:=xs) hlt);have htn:=dW hlt;have hyl:ys.length=k:=by have:=congrArg List.length hE;simp at this;omega
  generalize xs.getD k default=c at *;refine run ?_;refine bH (fun wc hG=>aj6 c (hen.good hG) (hiv.good hG) hlb.1 hlb.2) ?_;rintro _ hn ⟨t,g,rfl,et,ed,hB,hle2⟩;have he:jK.u { c with t:=t }=c.u:=by simp only[jK.u,et,ed]
  refine ig hle2 ?_;refine run ?_;intro T;refine dK (c:=qX { c with t:=t }) hA (fun v' ha' hA'=>?_) bA' (aY (m:=19) mh rfl) (hp':=⟨T,#[.int .u64 (c.r.x0:Int),.int .u64 (c.r.x1:Int),.int .u64 (c.r.x2:Int),.int .u64 (c.r.x3:Int),.int .u64 (c.r.x4:Int),.int .u64 (c.r.x5:Int),.int .u64 (c.r.x6:Int),.int .u64 (c.r.x7:Int),.int .u64 (c.r.pc:Int),.int .u64 (c.r.TD:Int),.int .u64 (c.r.GM:Int),.int .u64 (c.r.TE:Int),.int .u64 (c.r.elr:Int),.int .u64 (c.r.esr:Int),.int .u64 (c.r.far:Int),.int .i64 c.vm,.int .i64 c.vc,t.ev,t.dv],74⟩::(ht++g)) (hperm:=by (exact aT));refine run ?_;refine aF ⟨k+1,v',ys++[{ c with t:=t }],ha',g++ht⟩ ⟨hlt,by dsimp only;rw[bI6];exact hA',by dsimp only;rw[bI6];exact hT.snoc hB,?_⟩ (hm:=by dsimp only;omega) (h2:=by (exact aj));dsimp only;rw[htn,bI6,bI6,hE,bL0,bO0,bL0,bO0,he]
 ·have:k=xs.length:=by simp at hc;omega
  subst this;refine run ?_;refine fin1 ⟨ys,ha,ht,hA.own,hT,by simpa using hE,aJ.refl _⟩
structure YY where
 k:Nat
 v:Value
 ys:List eF
 ha:Hp
 ht:Hp
theorem aj7(xs:List eF)(v:Value)(h:yX w v xs)(hl:xs.length<100000)(hb:∀ m∈xs,m.fs.length<100000∧m.fr.length<100000∧m.vs.length<100000):Fn Tryz.prog 173 [v].toArray w [] (fun u hn=>∃ ys:List eF,∃ ha ht,Own 62 6 u ha (ys.map mW)∧fU TT ys ht∧ys.map eF.u=xs.map eF.u∧aJ (ha++ht) hn):=by
 obtain⟨q,cap,rfl,hne,hle⟩:=h.rows.opened;refine enter Tryz.func173 ?_;refine run ?_;refine aK (σ:=YY) (fun s=>[(3,s.v),(4,.int .i64 (s.k:Int))]) (fun s=>s.ha++s.ht) (fun s=>s.k≤xs.length∧Acc 62 6 s.v s.ha (s.ys.map mW)∧fU TT s.ys s.ht∧s.ys.map eF.u=(xs.take s.k).map eF.u) (fun s=>xs.length-s.k) ⟨0,.slice none 0 0,[],[],[]⟩ ⟨bH3 _,Acc.nil _ _,trivial,rfl⟩ ?_;rintro⟨k,v,ys,ha,ht⟩ m hm ⟨hk,hA,hT,hE⟩;dsimp only at hm hk hA hT hE ⊢;refine run ?_;refine ah _ rfl (fun hc=>?_) (fun hc=>?_)
 ·have hlt:k<xs.length:=by simp at hc;omega
  obtain⟨b,o,rfl⟩:=hne bA8;have h1:=(h.rows.row hlt)
  have hlb:=hb _ (getD_mem (l:=xs) hlt);have hf1:=h.fs _ (getD_mem (l:=xs) hlt);have hf2:=h.fr _ (getD_mem (l:=xs) hlt);have hf3:=h.vs _ (getD_mem (l:=xs) hlt);have htn:=dW hlt;have hyl:ys.length=k:=by have:=congrArg List.length hE;simp at this;omega
  generalize xs.getD k default=c at *;refine run ?_;refine bH (fun wc hG=>aC4 c (hf1.good hG) (hf2.good hG) (hf3.good hG) hlb.1 hlb.2.1 hlb.2.2) ?_;rintro _ hn ⟨y,g,rfl,he,hB,hle2⟩;refine ig hle2 ?_;refine run ?_;intro T;refine dK (c:=mW y) hA (fun v' ha' hA'=>?_) bA' (aY (m:=6) mh rfl) (hp':=⟨T,#[.bool y.live,.bool y.dying,.int .i64 y.aO,y.fv,y.rv,y.vv],62⟩::(ht++g)) (hperm:=by (exact aT));refine run ?_;refine aF ⟨k+1,v',ys++[y],ha',g++ht⟩ ⟨hlt,by dsimp only;rw[bI6];exact hA',hT.snoc hB,?_⟩ (hm:=by dsimp only;omega) (h2:=by (exact aj));dsimp only;rw[htn,bI6,bI6,hE,bL0,bO0,bL0,bO0,he]
 ·have:k=xs.length:=by simp at hc;omega
  subst this;refine run ?_;refine fin1 ⟨ys,ha,ht,hA.own,hT,by simpa using hE,aJ.refl _⟩
theorem aj8{vv rv:Value}{ws:List Nat}{cs:List jK}{vs:List eF}{rs:List zN}(h:Ep w wv cv vv rv ws cs vs rs)(hf:HyD.Fit ⟨ws,cs.map jK.u,vs.map eF.u,rs⟩):Fn Tryz.prog 95 [.agg #[wv,cv,vv,rv]].toArray w [] (fun u hn=>∃ L:HL,u=.agg #[L.wv,L.cv,L.vv,L.rv]∧AQ L ⟨ws,cs.map jK.u,vs.map eF.u,rs⟩∧aJ L.rest hn):=by
 have l1:=hf.l;simp only[bG9] at l1;have l2:∀ c∈cs,c.t.es.length<100000∧c.t.ds.length<100000:=fun c hc=>⟨(hf.c _ (bH9.2 ⟨c,hc,rfl⟩)).1,(hf.c _ (bH9.2 ⟨c,hc,rfl⟩)).2.1⟩
 have l3:∀ m∈vs,m.fs.length<100000∧m.fr.length<100000∧m.vs.length<100000:=fun m hm=>⟨(hf.v _ (bH9.2 ⟨m,hm,rfl⟩)).1,(hf.v _ (bH9.2 ⟨m,hm,rfl⟩)).2.1,(hf.v _ (bH9.2 ⟨m,hm,rfl⟩)).2.2.1⟩
 obtain⟨q,cap,rfl,hne,_⟩:=h.ws.opened;obtain⟨q2,cap2,rfl,hne2,_⟩:=h.cs.rows.opened;obtain⟨q3,cap3,rfl,jI,_⟩:=h.vs.rows.opened;obtain⟨q4,cap4,rfl,oQ,_⟩:=h.rs.opened;refine enter Tryz.func95 ?_;refine run ?_;intro H R Y;refine run ?_;refine bH (fun wc hG=>Am ws _ (h.ws.good hG) bA4) ?_;rintro _ hn1 ⟨v1,h1,rfl,Dh,hle1⟩;obtain⟨q9,k1,e1⟩:=Dh.opened;rw[bG9] at e1;subst e1;refine aS (⟨Y,#[.slice q ws.length cap,.slice q2 cs.length cap2,.slice q3 vs.length cap3,.slice q4 rs.length cap4],29⟩::⟨H,#[.slice q ws.length cap,.slice q2 cs.length cap2,.slice q3 vs.length cap3,.slice q4 rs.length cap4],29⟩::⟨R,#[.slice none 0 0,.slice none 0 0,.slice none 0 0,.slice none 0 0],29⟩::h1) (cnt1 hle1) ?_;refine run ?_;refine bH (fun wc hG=>YX cs _ (h.cs.good hG) bA4 l2) ?_;rintro v2 hn2 ⟨ys,h2,t2,hO2,hT2,hE2,hle2⟩;obtain⟨q8,k2,e2⟩:=hO2.opened;rw[bG9] at e2;have ly:=congrArg List.length hE2;rw[bG9,bG9] at ly;rw[ly] at e2;subst e2;refine aS (⟨Y,#[.slice q9 ws.length k1,.slice q2 cs.length cap2,.slice q3 vs.length cap3,.slice q4 rs.length cap4],29⟩::⟨H,#[.slice q ws.length cap,.slice q2 cs.length cap2,.slice q3 vs.length cap3,.slice q4 rs.length cap4],29⟩::⟨R,#[.slice none 0 0,.slice none 0 0,.slice none 0 0,.slice none 0 0],29⟩::(h1++(h2++t2))) (cnt1 hle2) ?_;refine run ?_;refine bH (fun wc hG=>aj7 vs _ (h.vs.good hG) bA4 l3) ?_;rintro v3 hn3 ⟨zs,h3,t3,hO3,hT3,hE3,hle3⟩;obtain⟨q7,k3,e3⟩:=hO3.opened;rw[bG9] at e3;have lz:=congrArg List.length hE3;rw[bG9,bG9] at lz;rw[lz] at e3;subst e3;refine aS (⟨Y,#[.slice q9 ws.length k1,.slice q8 cs.length k2,.slice q3 vs.length cap3,.slice q4 rs.length cap4],29⟩::⟨H,#[.slice q ws.length cap,.slice q2 cs.length cap2,.slice q3 vs.length cap3,.slice q4 rs.length cap4],29⟩::⟨R,#[.slice none 0 0,.slice none 0 0,.slice none 0 0,.slice none 0 0],29⟩::(h1++(h2++(t2++(h3++t3))))) (cnt1 hle3) ?_;refine run ?_;refine bH (fun wc hG=>aC3 rs _ (h.rs.good hG) bA4) ?_;rintro v4 h4 hA4;obtain⟨q6,k4,e4⟩:=hA4.own.opened;rw[bG9] at e4;subst e4;refine aS (⟨Y,#[.slice q9 ws.length k1,.slice q8 cs.length k2,.slice q7 vs.length k3,.slice q4 rs.length cap4],29⟩::⟨H,#[.slice q ws.length cap,.slice q2 cs.length cap2,.slice q3 vs.length cap3,.slice q4 rs.length cap4],29⟩::⟨R,#[.slice none 0 0,.slice none 0 0,.slice none 0 0,.slice none 0 0],29⟩::(h1++(h2++(t2++(h3++(t3++h4)))))) aj ?_;refine run ?_;refine dS (cs:=#[.slice q9 ws.length k1,.slice q8 cs.length k2,.slice q7 vs.length k3,.slice q6 rs.length k4]) ⟨⟨.slice q9 ws.length k1,.slice q8 cs.length k2,.slice q7 vs.length k3,.slice q6 rs.length k4,ys,zs,h1,h2,t2,h3,t3,h4⟩,rfl,⟨h.Df,Dh,hO2,hT2,hO3,hT3,hA4.own,hE2,hE3⟩,by simp only[HL.rest];(exact aj)⟩
def aC5(e:Int)(u:Value):Prop:=u=.tuple #[.agg #[.slice none 0 0,.slice none 0 0,.slice none 0 0,.slice none 0 0],.int .i64 e]
theorem YZ{K:Int}(pk:PK K){vv rv:Value}(h:vw w wv cv vv rv H)(hok:H.ok=true)(cpu:Nat)(lY:cpu<H.cs.length)(c:wR)(hk:c.kind=K)(hw:c.Wf){e:Int}(hd:H.aG.Cj cpu c=.error e)(hs:H.aG.Small 1000):
  Fn Tryz.prog 16 [.agg #[wv,cv,vv,rv],.int .i64 (cpu:Int),uh c].toArray w [] (fun u _=>aC5 e u):=by
 have hne0:=PtD.xW _ _ _ _ hd;have h':=h;have hL:vG H:=jv (by simp only[HyD.ok,bG8] at hok;exact hok.1.1.1);have hlook:H.iq=true:=by simp only[HyD.ok,bG8] at hok;exact hok.1.1.1
 have hmay:H.aG.may=true:=by simp only[HyD.ok,bG8] at hok;exact hok.1.1.2.1.1
 have rZ:=bP hL.m;have hc1:=hL.c1;have hc3:=hL.c3;have hv4:=hL.v;obtain⟨cs,vs,e1,e2,_,hH⟩:=h.ex;have hcl:cs.length=H.cs.length:=by rw[←e1,bG9]
 obtain⟨q,cap,rfl,hne,_⟩:=hH.ws.opened;obtain⟨q2,cap2,rfl,hne2,_⟩:=hH.cs.rows.opened;obtain⟨q3,cap3,rfl,jI,_⟩:=hH.vs.rows.opened;obtain⟨q4,cap4,rfl,oQ,_⟩:=hH.rs.opened;refine enter Tryz.func16 ?_;refine run ?_;intro Hb Cb Rb;refine run ?_;refine az (fun wc hG=>vJ (h'.good hG)) ?_;rw[hok];refine aN ?_;refine ah _ rfl (fun hc=>absurd hc bA') (fun hc=>?_);refine aN ?_;refine bH (fun wc hG=>EH (h'.good hG)) ?_;intro u hn hu;unfold zo at hu;rw[hlook] at hu;obtain⟨p4,p5,p6,k4,k5,k6,n4,n5,n6,rfl,hPw⟩:=hu;refine aN ?_;intro Wb;have hon:H.aG.on.length=H.cs.length:=by unfold HyD.aG;dsimp only;rw[bG9]
 refine bH (fun wc hG=>pk _ _ _ _ _ (hPw wc (fun e he=>hG.here e bC2)) hs cpu bF2 c hw hk) ?_;rw[hmay,cond_true,hd];intro u2 hn2 hu2;replace hu2:u2=.tuple #[.agg #[.slice none 0 0,.slice none 0 0,.slice none 0 0],.int .i64 e]:=hu2;subst hu2;refine aS [⟨Rb,#[.slice none 0 0,.slice none 0 0,.slice none 0 0,.slice none 0 0],29⟩] aj ?_;refine aN ?_;intro A;refine ah _ rfl (fun _=>?_) (fun hc5=>absurd hc5 (by simp[hne0]));refine run ?_;exact gB (cs:=#[.slice none 0 0,.slice none 0 0,.slice none 0 0,.slice none 0 0]) rfl
theorem UY{vv rv:Value}(h:vw w wv cv vv rv H)(hok:H.ok=false)(cpu:Int)(c:wR):
  Fn Tryz.prog 16 [.agg #[wv,cv,vv,rv],.int .i64 cpu,uh c].toArray w [] (fun u _=>aC5 1 u):=by
 have h':=h;obtain⟨cs,vs,e1,e2,_,hH⟩:=h.ex;obtain⟨q,cap,rfl,hne,_⟩:=hH.ws.opened;obtain⟨q2,cap2,rfl,hne2,_⟩:=hH.cs.rows.opened;obtain⟨q3,cap3,rfl,jI,_⟩:=hH.vs.rows.opened;obtain⟨q4,cap4,rfl,oQ,_⟩:=hH.rs.opened;refine enter Tryz.func16 ?_;refine run ?_;intro Hb Cb Rb;refine run ?_;refine az (fun wc hG=>vJ (h'.good hG)) ?_;rw[hok];refine aN ?_;exact gB (cs:=#[.slice none 0 0,.slice none 0 0,.slice none 0 0,.slice none 0 0]) rfl
end
section
attribute [local irreducible] Hy St Ops DH dI jl iR gX DS iw lV putAt
set_option maxHeartbeats 400000 in
theorem P9(L:HL)(H:HyD)(h:AQ L H)(cpu:Nat)(lY:cpu<H.cs.length)(hrl:H.rs.length=H.cs.length)(a19:H.cs.length<100000)(c:wR)(hk:c.kind=8)(hvm:1≤c.vm∧c.vm≤(H.vs.length:Int))(a5':H.vs.length<100000)(mQ:0≤c.fO∧c.fO<((H.vu (c.vm-1).toNat).vs.length:Int))(p4 p5 p6 p7 p8 p9:Option Addr)(n4 n5 n6 n7 n8 n9 k4 k5 k6 k7 k8 k9:Nat)(hN:eU (L.hp X [] 29) w):
  Fn Tryz.prog 178 [.pointer (some ⟨X,0,none⟩),.agg #[.slice p4 n4 k4,.slice p5 n5 k5,.slice p6 n6 k6],.agg #[.slice p7 n7 k7,.slice p8 n8 k8,.slice p9 n9 k9],.int .i64 (cpu:Int),uh c].toArray w ((L.hp X [] 29).map (·.b)) (HR X [] 29 (H.Nj cpu c.vm c.fO)):=by
 obtain⟨K_,n_,oW,jA,xm,zH⟩:=c;dsimp only at hk hvm mQ ⊢;subst hk;obtain⟨k,rfl⟩:∃ k:Nat,xm=(k:Int):=⟨xm.toNat,by omega⟩
 obtain⟨wv,cv,vv,rv,cs,vs,hw,hc,ht,hvv,hz,hr⟩:=L;obtain⟨P7,gw,JQ,gt,BN,gz,gr,ec,ev⟩:=h;dsimp only at gw JQ gt BN gz gr ec ev;have ecl:cs.length=H.cs.length:=by rw[←ec,bG9]
 have evl:vs.length=H.vs.length:=by rw[←ev,bG9]
 obtain⟨i,hi⟩:∃ i,i=(n_-1).toNat:=⟨_,rfl⟩
 have hi4:i<vs.length:=by omega
 have hu:=rM ev i;rw[show H.vs.getD i default=H.vu i from rfl] at hu;have huc:=FK ec cpu;rw[show H.cs.getD cpu default=H.cu cpu from rfl] at huc;rw[←hi,←hu] at mQ;obtain⟨gc,cc,lC,rfl,rfl,csz,zI,E8⟩:=JQ.oO (k:=cpu) bA4;obtain⟨BO,RF,Bi,rfl,rfl,vsz,YU,aB8⟩:=BN.oO hi4;obtain⟨BP,RG,F6,rfl,rfl,rsz,a7',aB9⟩:=gr.oO (k:=cpu) bA4;obtain⟨za,zb,⟨z1,z2,z3,o1,o2,o3,zl,hza⟩,hzz,xh⟩:=gz.out hi4;generalize YV:vs.getD i default=vm at mQ hu YU aB8 o1 o2 o3 zl xh;generalize Nq:cs.getD cpu default=cp at huc zI E8;have hkv:k<vm.vs.length:=by have:=mQ.2;simp only[eF.u] at this;omega
 obtain⟨gk,ck,xU,ek,rfl,ksz,aB',aC0⟩:=o3.oO hkv;simp only[HL.hp,HL.rest] at hN ⊢;refine eH _ hN Tryz.func178 ?_;refine run ?_;intro Fb Tb Cb;have nv5:=YU 5 _ rfl;rw[ek] at nv5;have Nr:cpu<cs.length:=by omega
 have tR:=Dt (a:=jc cp.r) zI rfl;have tV:=Dt (a:=jc (vm.vs.getD k default).r) aB' rfl;refine aN ?_;refine pM (⟨X,#[wv,.slice (some ⟨gc,0,none⟩) cs.length cc,.slice (some ⟨BO,0,none⟩) vs.length RF,.slice (some ⟨BP,0,none⟩) H.rs.length RG ],29⟩::⟨gc,lC,74⟩::⟨BO,Bi,62⟩::⟨BP,F6,68⟩::⟨gk,xU,102⟩::⟨Cb,#[.int .i64 8,.int .i64 n_,.int .i64 oW,.int .i64 jA,.int .i64 (k:Int),.int .i64 zH],37⟩::(hw++(ht++(z1++(z2++zb))))) bC4 ?_;refine aN ?_;refine di ?_;refine aZ ?_;rw[show n_-1=(i:Int) by omega];refine aZ ?_;refine aN ?_;refine eP 10 ?_;refine aZ ?_;refine aN ?_;have hrn:=aB9 0 (jc cp.r) cp.r bA6 rfl ⟨rfl,rfl⟩;rw[bK6] at hrn;simp only[putAt] at hrn;generalize (((((((((((((((F6.setIfInBounds (cpu*15) (.int .u64 (cp.r.x0:Int))).setIfInBounds (cpu*15+1) (.int .u64 (cp.r.x1:Int))).setIfInBounds (cpu*15+1+1) (.int .u64 (cp.r.x2:Int))).setIfInBounds (cpu*15+1+1+1) (.int .u64 (cp.r.x3:Int))).setIfInBounds (cpu*15+1+1+1+1) (.int .u64 (cp.r.x4:Int))).setIfInBounds (cpu*15+1+1+1+1+1) (.int .u64 (cp.r.x5:Int))).setIfInBounds (cpu*15+1+1+1+1+1+1) (.int .u64 (cp.r.x6:Int))).setIfInBounds (cpu*15+1+1+1+1+1+1+1) (.int .u64 (cp.r.x7:Int))).setIfInBounds (cpu*15+1+1+1+1+1+1+1+1) (.int .u64 (cp.r.pc:Int))).setIfInBounds (cpu*15+1+1+1+1+1+1+1+1+1) (.int .u64 (cp.r.TD:Int))).setIfInBounds (cpu*15+1+1+1+1+1+1+1+1+1+1) (.int .u64 (cp.r.GM:Int))).setIfInBounds (cpu*15+1+1+1+1+1+1+1+1+1+1+1) (.int .u64 (cp.r.TE:Int))).setIfInBounds (cpu*15+1+1+1+1+1+1+1+1+1+1+1+1) (.int .u64 (cp.r.elr:Int))).setIfInBounds (cpu*15+1+1+1+1+1+1+1+1+1+1+1+1+1) (.int .u64 (cp.r.esr:Int))).setIfInBounds (cpu*15+1+1+1+1+1+1+1+1+1+1+1+1+1+1) (.int .u64 (cp.r.far:Int)))=r3 at hrn ⊢;refine rC 20 13 [0,1,2,3,4,5,6,7,8,9,10,11,12,14,15,17,18] [13,16,19] [⟨Cb,#[.int .i64 8,.int .i64 n_,.int .i64 oW,.int .i64 jA,.int .i64 (k:Int),.int .i64 zH],37⟩] ?_;refine kW ?_;refine uQ (v:=.agg (jc (vm.vs.getD k default).r).toArray) aB (b:=gc) (cs:=lC) (cs':=putAt lC (cpu*19) (jc (vm.vs.getD k default).r)) (tb:=74) (off:=cpu*19) (vs:=(jc (vm.vs.getD k default).r)) (hp':=⟨X,#[wv,.slice (some ⟨gc,0,none⟩) cs.length cc,.slice (some ⟨BO,0,none⟩) vs.length RF,.slice (some ⟨BP,0,none⟩) H.rs.length RG ],29⟩::⟨BP,r3,68⟩::⟨BO,Bi,62⟩::⟨gk,xU,102⟩::⟨Cb,#[.int .i64 8,.int .i64 n_,.int .i64 oW,.int .i64 jA,.int .i64 (k:Int),.int .i64 zH],37⟩::(hw++(ht++(z1++(z2++zb))))) rfl rfl rfl rfl rfl rfl aT rfl (by show cpu*19+15≤_;omega) rfl aj ?_;refine uQ (v:=.int .i64 n_) aB (b:=gc) (cs:=putAt lC (cpu*19) (jc (vm.vs.getD k default).r)) (cs':=putAt (putAt lC (cpu*19) (jc (vm.vs.getD k default).r)) (cpu*19+15) [.int .i64 n_]) (tb:=74) (off:=cpu*19+15) (vs:=[.int .i64 n_]) (hp':=⟨X,#[wv,.slice (some ⟨gc,0,none⟩) cs.length cc,.slice (some ⟨BO,0,none⟩) vs.length RF,.slice (some ⟨BP,0,none⟩) H.rs.length RG ],29⟩::⟨BP,r3,68⟩::⟨BO,Bi,62⟩::⟨gk,xU,102⟩::⟨Cb,#[.int .i64 8,.int .i64 n_,.int .i64 oW,.int .i64 jA,.int .i64 (k:Int),.int .i64 zH],37⟩::(hw++(ht++(z1++(z2++zb))))) rfl rfl rfl rfl rfl rfl aT rfl bC0 rfl aj ?_;refine uQ (v:=.int .i64 (k:Int)) aB (b:=gc) (cs:=putAt (putAt lC (cpu*19) (jc (vm.vs.getD k default).r)) (cpu*19+15) [.int .i64 n_]) (cs':=putAt (putAt (putAt lC (cpu*19) (jc (vm.vs.getD k default).r)) (cpu*19+15) [.int .i64 n_]) (cpu*19+16) [.int .i64 (k:Int)]) (tb:=74) (off:=cpu*19+16) (vs:=[.int .i64 (k:Int)]) (hp':=⟨X,#[wv,.slice (some ⟨gc,0,none⟩) cs.length cc,.slice (some ⟨BO,0,none⟩) vs.length RF,.slice (some ⟨BP,0,none⟩) H.rs.length RG ],29⟩::⟨BP,r3,68⟩::⟨BO,Bi,62⟩::⟨gk,xU,102⟩::⟨Cb,#[.int .i64 8,.int .i64 n_,.int .i64 oW,.int .i64 jA,.int .i64 (k:Int),.int .i64 zH],37⟩::(hw++(ht++(z1++(z2++zb))))) rfl rfl rfl rfl rfl rfl aT rfl bC0 rfl aj ?_;refine dh ?_;refine kR ?_;generalize hg3:putAt (putAt (putAt lC (cpu*19) (jc (vm.vs.getD k default).r)) (cpu*19+15) [.int .i64 n_]) (cpu*19+16) [.int .i64 (k:Int)]=c3;refine aS (⟨gk,xU,102⟩::⟨gc,c3,74⟩::⟨X,#[wv,.slice (some ⟨gc,0,none⟩) cs.length cc,.slice (some ⟨BO,0,none⟩) vs.length RF,.slice (some ⟨BP,0,none⟩) H.rs.length RG ],29⟩::⟨BP,r3,68⟩::⟨BO,Bi,62⟩::⟨Cb,#[.int .i64 8,.int .i64 n_,.int .i64 oW,.int .i64 jA,.int .i64 (k:Int),.int .i64 zH],37⟩::(hw++(ht++(z1++(z2++zb))))) aj ?_;refine aN ?_
 have hrun:H.Nj cpu n_ (k:Int)=⟨H.ws,H.cs.set cpu ⟨(vm.vs.getD k default).r,n_,(k:Int),cp.t.es,cp.t.ds⟩,H.vs.set i ⟨vm.live,vm.dying,vm.aO,vm.fs,vm.fr,vm.vs.set k ⟨jb,(cpu:Int)⟩⟩,H.rs.set cpu cp.r⟩:=by
  unfold HyD.Nj;rw[←hi];dsimp only;rw[←hu,←huc,bM3];rfl
 have hcn:=E8 0 ((jc (vm.vs.getD k default).r)++[.int .i64 n_,.int .i64 (k:Int)]) ⟨(vm.vs.getD k default).r,n_,(k:Int),cp.t⟩ bA6 rfl ⟨rfl,rfl⟩;have hkn:=aC0 0 (jc jb++[.int .i64 (cpu:Int)]) ⟨jb,(cpu:Int)⟩ bA6 rfl ⟨rfl,rfl⟩;rw[show putAt xU (k*16+0) (jc jb++[.int .i64 (cpu:Int)])=putAt (putAt xU (k*16) [.int .u64 0,.int .u64 0,.int .u64 0,.int .u64 0,.int .u64 0,.int .u64 0,.int .u64 0,.int .u64 0,.int .u64 0,.int .u64 0,.int .u64 0,.int .u64 0,.int .u64 0,.int .u64 0,.int .u64 0]) (k*16+15) [.int .i64 (cpu:Int)] from pq _ _ _ _] at hkn
 have hc3:putAt lC (cpu*19+0) ((jc (vm.vs.getD k default).r)++[.int .i64 n_,.int .i64 (k:Int)])=putAt (putAt (putAt lC (cpu*19) (jc (vm.vs.getD k default).r)) (cpu*19+15) [.int .i64 n_]) (cpu*19+16) [.int .i64 (k:Int)]:=by
  rw[pq];exact pq [Value.int .i64 n_] _ _ _
 rw[hc3,hg3] at hcn;clear hc3;rw[hrun];simp only[putAt] at hkn;generalize ((((((((((((((((xU.setIfInBounds (k*16) (.int .u64 0)).setIfInBounds (k*16+1) (.int .u64 0)).setIfInBounds (k*16+1+1) (.int .u64 0)).setIfInBounds (k*16+1+1+1) (.int .u64 0)).setIfInBounds (k*16+1+1+1+1) (.int .u64 0)).setIfInBounds (k*16+1+1+1+1+1) (.int .u64 0)).setIfInBounds (k*16+1+1+1+1+1+1) (.int .u64 0)).setIfInBounds (k*16+1+1+1+1+1+1+1) (.int .u64 0)).setIfInBounds (k*16+1+1+1+1+1+1+1+1) (.int .u64 0)).setIfInBounds (k*16+1+1+1+1+1+1+1+1+1) (.int .u64 0)).setIfInBounds (k*16+1+1+1+1+1+1+1+1+1+1) (.int .u64 0)).setIfInBounds (k*16+1+1+1+1+1+1+1+1+1+1+1) (.int .u64 0)).setIfInBounds (k*16+1+1+1+1+1+1+1+1+1+1+1+1) (.int .u64 0)).setIfInBounds (k*16+1+1+1+1+1+1+1+1+1+1+1+1+1) (.int .u64 0)).setIfInBounds (k*16+1+1+1+1+1+1+1+1+1+1+1+1+1+1) (.int .u64 0)).setIfInBounds (k*16+15) (.int .i64 (cpu:Int)))=k3 at hkn ⊢;refine fin0 ⟨rfl,⟨wv,.slice (some ⟨gc,0,none⟩) cs.length cc,.slice (some ⟨BO,0,none⟩) vs.length RF,.slice (some ⟨BP,0,none⟩) H.rs.length RG,cs.set cpu ⟨(vm.vs.getD k default).r,n_,(k:Int),cp.t⟩,vs.set i { vm with vs:=vm.vs.set k ⟨jb,(cpu:Int)⟩ },hw,[⟨gc,c3,74⟩],ht,[⟨BO,Bi,62⟩],(z1++(z2++[⟨gk,k3,102⟩]))++zb,[⟨BP,r3,68⟩]⟩,⟨P7,gw,hcn,?_,?_,xh _ _ ⟨z1,z2,[⟨gk,k3,102⟩],o1,o2,?_,⟨zl.1,zl.2.1,by rw[bL3];exact zl.2.2⟩,aJ.refl _⟩,hrn,?_,?_⟩,?_⟩
 ·dsimp only;rw[bM',pX]
  ·exact gt
  ·rw[bJ1,bH0 Nr];rw[bG',bH0 Nr] at Nq;rw[show cs[cpu]=cp from Nq];rfl
 ·dsimp only;rw[bM',pX]
  ·exact BN
  ·rw[bJ1,bH0 hi4];rw[bG',bH0 hi4] at YV;rw[show vs[i]=vm from YV];simp only[bK7,mW,eF.vv,eF.fv,eF.rv,bL3]
 ·rw[show (eF.vv { vm with vs:=vm.vs.set k ⟨jb,(cpu:Int)⟩ })=vm.vv by simp only[eF.vv,bL3],ek];exact hkn
 ·dsimp only;rw[bM',ec];rfl
 ·dsimp only;rw[bM',ev];rfl
 ·simp only[HL.hp,HL.rest]
  (exact aj)
end
theorem Y0{hn:Hp}{w1:World}(h1:Here hn w1){b o:Nat}{cs:List Value}(hne:cs≠[])(hr:∀ w,Here hn w→w.rangeAt b o cs):∃ e∈hn,e.b=b∧∀ j u,cs[j]?=some u→nth e.cs.toList (o+j)=some u:=by
 by_cases hb:∃ e∈hn,e.b=b
 ·obtain⟨e,he,rfl⟩:=hb;refine⟨e,he,rfl,fun j u hj=>?_⟩;have:=hr w1 h1 j u hj;rw[cell_of_block (h1 e he)] at this;rw[mZ];exact this
 ·exfalso;obtain⟨v,r,rfl⟩:=List.exists_cons_of_ne_nil hne
  have hw:Here hn { w1 with heap:=w1.heap.setIfInBounds b (.cells #[] 0 (0,0)) }:=fun e he=>by
   show (w1.heap.setIfInBounds b _)[e.b]?=_;rw[bP2 (fun h=>hb ⟨e,he,h.symm⟩)];exact h1 e he
  have hc:=ak (hr _ hw);by_cases hs:b<w1.heap.size
  ·have h2:({ w1 with heap:=w1.heap.setIfInBounds b (.cells #[] 0 (0,0)) }:World).heap[b]?=some (.cells #[] 0 (0,0)):=by
    show (w1.heap.setIfInBounds b _)[b]?=_;simp[hs]
   rw[cell_of_block h2] at hc;simp at hc
  ·simp[World.cell?,hs] at hc
theorem UZ{hn:Hp}{w1:World}(h1:Here hn w1){pv gv:Value}{po:Option Addr}{no ko:Nat}(hP:∀ w,Here hn w→dN w pv gv (.slice po no ko) P){c:Nat}(hc:c<P.on.length):∃ b o e A B,po=some ⟨b,o,none⟩∧no=P.on.length∧hn=A++e::B∧e.b=b∧nth e.cs.toList (o+c*2)=some (.int .i64 (P.st c).vm):=by
 obtain⟨p,cap,e1,hne,_⟩:=(hP w1 h1).on.opened;cases e1;obtain⟨b,o,rfl⟩:=hne (by intro e;rw[e] at hc;simp at hc);obtain⟨e,he,rfl,hr⟩:=Y0 h1 (b:=b) (o:=o+c*2) (cs:=yJ (P.on.getD c default)) (by simp[yJ]) (fun w hw=>(hP w hw).on.row hc);obtain⟨A,B,rfl⟩:=bV' he;exact⟨e.b,o,e,A,B,rfl,rfl,rfl,rfl,hr 0 _ rfl⟩
theorem JG{vv rv:Value}(h:vw w wv cv vv rv H):Fn Tryz.prog 95 [.agg #[wv,cv,vv,rv]].toArray w [] (fun u hn=>∃ L:HL,u=.agg #[L.wv,L.cv,L.vv,L.rv]∧AQ L H∧aJ L.rest hn):=by
 obtain⟨cs,vs,e1,e2,_,hH⟩:=h.ex;have hf:=h.fit;obtain⟨ws,cu,vu,rs⟩:=H;dsimp only at e1 e2 hH;subst e1 e2;exact aj8 hH hf
section
attribute [local irreducible] Hy St Ops DH dI jl iR gX DS iw lV
theorem Y4{K:Int}(rk:RK K){vv rv:Value}(h:vw w wv cv vv rv H)(hok:H.ok=true)(cpu:Nat)(lY:cpu<H.cs.length)(c:wR)(hk:c.kind=K)(hw:c.Wf){e:Int}(hd:H.aG.Cj cpu c=.error e)(hs:H.aG.Small 1000):
  Fn Tryz.prog 99 [.agg #[wv,cv,vv,rv],.int .i64 (cpu:Int),uh c].toArray w [] (fun u _=>aC5 e u):=by
 have hne0:=PtD.xW _ _ _ _ hd;have h':=h;have hlook:H.iq=true:=by simp only[HyD.ok,bG8] at hok;exact hok.1.1.1
 have hmay:H.aG.may=true:=by simp only[HyD.ok,bG8] at hok;exact hok.1.1.2.1.1
 obtain⟨cs,vs,e1,e2,_,hH⟩:=h.ex;obtain⟨q,cap,rfl,hne,_⟩:=hH.ws.opened;obtain⟨q2,cap2,rfl,hne2,_⟩:=hH.cs.rows.opened;obtain⟨q3,cap3,rfl,jI,_⟩:=hH.vs.rows.opened;obtain⟨q4,cap4,rfl,oQ,_⟩:=hH.rs.opened;have hon:H.aG.on.length=H.cs.length:=by unfold HyD.aG;dsimp only;rw[bG9]
 refine enter Tryz.func99 ?_;refine run ?_;intro Hb Cb Rb;refine run ?_;refine bH (fun wc hG=>Jq (h'.good hG) hlook) ?_;rintro _ hn ⟨p4,p5,p6,k4,k5,k6,n4,n5,n6,rfl,hPw⟩;refine run ?_;intro Wb;refine run ?_;refine bH (fun wc hG=>rk _ _ _ _ _ (hPw wc (fun e he=>hG.here e bC2)) hs hmay cpu bF2 c hw hk) ?_;rw[hd];intro u2 hn2 hu2;replace hu2:u2=.tuple #[.agg #[.slice none 0 0,.slice none 0 0,.slice none 0 0],.int .i64 e]:=hu2;subst hu2;refine aS [⟨Rb,#[.slice none 0 0,.slice none 0 0,.slice none 0 0,.slice none 0 0],29⟩] aj ?_;refine run ?_;intro Tb;refine aN ?_;refine ah _ rfl (fun _=>?_) (fun hc5=>absurd hc5 (by simp[hne0]));refine run ?_;exact gB (cs:=#[.slice none 0 0,.slice none 0 0,.slice none 0 0,.slice none 0 0]) rfl
theorem aj9{K:Int}(rk:RK K){w:World}{vv rv:Value}(h:vw w wv cv vv rv H)(hok:H.ok=true)(cpu:Nat)(lY:cpu<H.cs.length)(c:wR)(hk:c.kind=K)(hw:c.Wf){P2:PtD}(hd:H.aG.Cj cpu c=.ok P2)(hs:H.aG.Small 1000){H2:HyD}
  (hdo:(H.aG.st cpu).vm=0→(∀ (L:HL) (X:Nat) (p4 p5 p6 p7 p8 p9:Option Addr) (n4 n5 n6 n7 n8 n9 k4 k5 k6 k7 k8 k9:Nat) (w:World),AQ L H→eU (L.hp X [] 29) w →
   (∀ w' hp,Good w ((L.hp X [] 29).map (·.b)) hp w'→dN w' (.slice p4 n4 k4) (.slice p5 n5 k5) (.slice p6 n6 k6) H.aG)→(∀ b o n k,Value.slice p5 n5 k5=.slice (some ⟨b,o,none⟩) n k→b∉(L.hp X [] 29).map (·.b)) →
   (∀ w' hp,Good w ((L.hp X [] 29).map (·.b)) hp w'→dN w' (.slice p7 n7 k7) (.slice p8 n8 k8) (.slice p9 n9 k9) P2)→(∀ b o n k,Value.slice p8 n8 k8=.slice (some ⟨b,o,none⟩) n k→b∉(L.hp X [] 29).map (·.b)) →
   Fn Tryz.prog 178 [.pointer (some ⟨X,0,none⟩),.agg #[.slice p4 n4 k4,.slice p5 n5 k5,.slice p6 n6 k6],.agg #[.slice p7 n7 k7,.slice p8 n8 k8,.slice p9 n9 k9],.int .i64 (cpu:Int),uh c].toArray w ((L.hp X [] 29).map (·.b)) (HR X [] 29 H2)))
  (hgo:(H.aG.st cpu).vm > 0→(∀ (L:HL) (X:Nat) (p4 p5 p6 p7 p8 p9:Option Addr) (n4 n5 n6 n7 n8 n9 k4 k5 k6 k7 k8 k9:Nat) (w:World),AQ L H→eU (L.hp X [] 29) w →
   (∀ w' hp,Good w ((L.hp X [] 29).map (·.b)) hp w'→dN w' (.slice p4 n4 k4) (.slice p5 n5 k5) (.slice p6 n6 k6) H.aG)→(∀ b o n k,Value.slice p5 n5 k5=.slice (some ⟨b,o,none⟩) n k→b∉(L.hp X [] 29).map (·.b)) →
   (∀ w' hp,Good w ((L.hp X [] 29).map (·.b)) hp w'→dN w' (.slice p7 n7 k7) (.slice p8 n8 k8) (.slice p9 n9 k9) P2)→(∀ b o n k,Value.slice p8 n8 k8=.slice (some ⟨b,o,none⟩) n k→b∉(L.hp X [] 29).map (·.b)) →
   Fn Tryz.prog 177 [.pointer (some ⟨X,0,none⟩),.agg #[.slice p4 n4 k4,.slice p5 n5 k5,.slice p6 n6 k6],.agg #[.slice p7 n7 k7,.slice p8 n8 k8,.slice p9 n9 k9],.int .i64 (cpu:Int),uh c].toArray w ((L.hp X [] 29).map (·.b)) (HR X [] 29 H2))):
  Fn Tryz.prog 99 [.agg #[wv,cv,vv,rv],.int .i64 (cpu:Int),uh c].toArray w [] (Hz H2):=by
 have h':=h;have hlook:H.iq=true:=by simp only[HyD.ok,bG8] at hok;exact hok.1.1.1
 have hmay:H.aG.may=true:=by simp only[HyD.ok,bG8] at hok;exact hok.1.1.2.1.1
 obtain⟨cs,vs,e1,e2,_,hH⟩:=h.ex;obtain⟨q,cap,rfl,hne,_⟩:=hH.ws.opened;obtain⟨q2,cap2,rfl,hne2,_⟩:=hH.cs.rows.opened;obtain⟨q3,cap3,rfl,jI,_⟩:=hH.vs.rows.opened;obtain⟨q4,cap4,rfl,oQ,_⟩:=hH.rs.opened;have hon:H.aG.on.length=H.cs.length:=by unfold HyD.aG;dsimp only;rw[bG9]
 refine enter Tryz.func99 ?_;refine run ?_;intro Hb Cb Rb;refine run ?_;refine bH (fun wc hG=>Jq (h'.good hG) hlook) ?_;rintro _ hn ⟨p4,p5,p6,k4,k5,k6,n4,n5,n6,rfl,hPw⟩;refine run ?_;intro Wb;refine run ?_;refine bH (fun wc hG=>rk _ _ _ _ _ (hPw wc (fun e he=>hG.here e bC2)) hs hmay cpu bF2 c hw hk) ?_;rw[hd];rintro _ hn2 ⟨Y,rfl,hO,hle⟩;refine aS (⟨Wb,#[.slice p4 n4 k4,.slice p5 n5 k5,.slice p6 n6 k6],48⟩::(Y.in++(hn++[⟨Rb,#[.slice none 0 0,.slice none 0 0,.slice none 0 0,.slice none 0 0],29⟩,⟨Cb,#[.int .i64 c.kind,.int .i64 c.vm,.int .i64 c.frame,.int .i64 c.mid,.int .i64 c.fO,.int .i64 c.lX],37⟩,⟨Hb,#[.slice q H.ws.length cap,.slice q2 cs.length cap2,.slice q3 vs.length cap3,.slice q4 H.rs.length cap4],29⟩]))) (cnt1 hle) ?_;refine run ?_;intro Vb;refine aN ?_;refine bH (fun wc hG=>JG (h'.good hG)) ?_;rintro _ hn3 ⟨L,rfl,hL3,hle3⟩;obtain⟨wv0,cv0,vv0,rv0,cs0,JH,hw0,hc0,ht0,hv0,hz0,hr0⟩:=L;obtain⟨y1,y2,y3⟩:=hL3.w.opened;obtain⟨y4,y5,y6⟩:=hL3.c.opened;obtain⟨y7,y8,y9⟩:=hL3.v.opened;obtain⟨RH,RI,y12⟩:=hL3.r.opened;dsimp only at y3 y6 y9 y12;subst y3 y6 y9 y12;simp only[HL.rest] at hle3;refine aS (⟨Wb,#[.slice p4 n4 k4,.slice p5 n5 k5,.slice p6 n6 k6],48⟩::⟨Vb,#[Y.pv P2,Y.gv P2,Y.ov P2],48⟩::((hw0++(hc0++(ht0++(hv0++(hz0++hr0)))))++(Y.in++(hn++[⟨Rb,#[.slice none 0 0,.slice none 0 0,.slice none 0 0,.slice none 0 0],29⟩,⟨Cb,#[.int .i64 c.kind,.int .i64 c.vm,.int .i64 c.frame,.int .i64 c.mid,.int .i64 c.fO,.int .i64 c.lX],37⟩,⟨Hb,#[.slice q H.ws.length cap,.slice q2 cs.length cap2,.slice q3 vs.length cap3,.slice q4 H.rs.length cap4],29⟩])))) (cnt1 hle3) ?_;refine run ?_;intro X;refine KW fun w1 hG1=>?_;obtain⟨b,o,e,A,B,rfl,rfl,rfl,rfl,bi7⟩:=UZ (c:=cpu) (hG1.lie (fun e he=>by simp only[bJ6,bI5,he,true_or,or_true])) hPw bF2;refine aS (⟨Wb,#[.slice p4 n4 k4,.slice p5 n5 k5,.slice (some ⟨e.b,o,none⟩) H.aG.on.length k6],48⟩::e::⟨Vb,#[Y.pv P2,Y.gv P2,Y.ov P2],48⟩::((⟨.slice y1 (List.map uV H.ws).length y2,.slice y4 (List.map qX cs0).length y5,.slice y7 (List.map mW JH).length y8,.slice RH (List.map jc H.rs).length RI,cs0,JH,hw0,hc0,ht0,hv0,hz0,hr0⟩:HL).hp X [] 29++(Y.in++((A++B)++[⟨Rb,#[.slice none 0 0,.slice none 0 0,.slice none 0 0,.slice none 0 0],29⟩,⟨Cb,#[.int .i64 c.kind,.int .i64 c.vm,.int .i64 c.frame,.int .i64 c.mid,.int .i64 c.fO,.int .i64 c.lX],37⟩,⟨Hb,#[.slice q H.ws.length cap,.slice q2 cs.length cap2,.slice q3 vs.length cap3,.slice q4 H.rs.length cap4],29⟩])))) (by simp only[HL.hp,HL.rest];(exact aj)) ?_;refine aN ?_;have hIs:∀ w',Here Y.in w'→dN w' (Y.pv P2) (Y.gv P2) (Y.ov P2) P2:=fun w' hh=>hO.ap1 hh;have hg4:H.aG.ay.length=4:=by have hL:vG H:=jv hlook;unfold HyD.aG;simp
 have a94:P2.ay.length=4:=hO.n.g4;refine pM (⟨Wb,#[.slice p4 n4 k4,.slice p5 n5 k5,.slice (some ⟨e.b,o,none⟩) H.aG.on.length k6],48⟩::⟨Vb,#[Y.pv P2,Y.gv P2,Y.ov P2],48⟩::⟨Rb,#[.slice none 0 0,.slice none 0 0,.slice none 0 0,.slice none 0 0],29⟩::⟨Cb,#[.int .i64 c.kind,.int .i64 c.vm,.int .i64 c.frame,.int .i64 c.mid,.int .i64 c.fO,.int .i64 c.lX],37⟩::⟨Hb,#[.slice q H.ws.length cap,.slice q2 cs.length cap2,.slice q3 vs.length cap3,.slice q4 H.rs.length cap4],29⟩::((⟨.slice y1 (List.map uV H.ws).length y2,.slice y4 (List.map qX cs0).length y5,.slice y7 (List.map mW JH).length y8,.slice RH (List.map jc H.rs).length RI,cs0,JH,hw0,hc0,ht0,hv0,hz0,hr0⟩:HL).hp X [] 29++(Y.in++(A++e::B)))) aj ?_;generalize A++e::B=hn at hPw ⊢;refine ah _ rfl (fun hc=>?_) (fun hc=>?_)
 ·refine aN ?_;refine ja ((⟨.slice y1 (List.map uV H.ws).length y2,.slice y4 (List.map qX cs0).length y5,.slice y7 (List.map mW JH).length y8,.slice RH (List.map jc H.rs).length RI,cs0,JH,hw0,hc0,ht0,hv0,hz0,hr0⟩:HL).hp X [] 29) (⟨Wb,#[.slice p4 n4 k4,.slice p5 n5 k5,.slice (some ⟨e.b,o,none⟩) H.aG.on.length k6],48⟩::⟨Vb,#[Y.pv P2,Y.gv P2,Y.ov P2],48⟩::⟨Rb,#[.slice none 0 0,.slice none 0 0,.slice none 0 0,.slice none 0 0],29⟩::⟨Cb,#[.int .i64 c.kind,.int .i64 c.vm,.int .i64 c.frame,.int .i64 c.mid,.int .i64 c.fO,.int .i64 c.lX],37⟩::⟨Hb,#[.slice q H.ws.length cap,.slice q2 cs.length cap2,.slice q3 vs.length cap3,.slice q4 H.rs.length cap4],29⟩::(Y.in++hn)) (fun wc hG=>hgo (by simpa using hc) (⟨.slice y1 (List.map uV H.ws).length y2,.slice y4 (List.map qX cs0).length y5,.slice y7 (List.map mW JH).length y8,.slice RH (List.map jc H.rs).length RI,cs0,JH,hw0,hc0,ht0,hv0,hz0,hr0⟩:HL) X p4 p5 (some ⟨e.b,o,none⟩) (some ⟨Y.pb,0,none⟩) (some ⟨Y.gb,0,none⟩) (some ⟨Y.ob,0,none⟩) n4 n5 H.aG.on.length P2.pages.length P2.ay.length P2.on.length k4 k5 k6 Y.zA Y.AZ Y.A7 wc hL3 hG.iT (fun w' hp hg=>hPw w' (fun e he=>(hG.lG hg).here e bC1)) (rX hG (fun e he=>by simp only[bJ6,bI5,he,true_or,or_true]) hPw bA4) (fun w' hp hg=>hIs w' (fun e he=>(hG.lG hg).here e bC1)) (rX hG (fun e he=>by simp only[bJ6,bI5,he,true_or,or_true]) hIs bA4)) (fun v hn4 hR=>?_) aT;obtain⟨rfl,L2,h2,Aq⟩:=hR;obtain⟨wv2,AO,vv2,rv2,cs2,vs2,hw2,hc2,ht2,hv2,hz2,hr2⟩:=L2;obtain⟨x1,x2,x3⟩:=h2.w.opened;obtain⟨x4,x5,x6⟩:=h2.c.opened;obtain⟨x7,x8,x9⟩:=h2.v.opened;obtain⟨x10,x11,x12⟩:=h2.r.opened;dsimp only at x3 x6 x9 x12;subst x3 x6 x9 x12;simp only[HL.hp,HL.rest] at Aq;refine aS (⟨Rb,#[.slice none 0 0,.slice none 0 0,.slice none 0 0,.slice none 0 0],29⟩::⟨X,#[.slice x1 (List.map uV H2.ws).length x2,.slice x4 (List.map qX cs2).length x5,.slice x7 (List.map mW vs2).length x8,.slice x10 (List.map jc H2.rs).length x11],29⟩::(hw2++(hc2++(ht2++(hv2++(hz2++hr2)))))) (cnt1 Aq) ?_;refine aN ?_;refine gB ?_;exact⟨_,rfl,h2,by simp only[HL.rest];(exact aj)⟩
 ·have a95:(H.aG.st cpu).vm=0:=by
   by_cases hv:(H.aG.st cpu).vm=0
   ·exact hv
   ·have:=MS hmay bF2 hv;simp at hc;omega
  refine aN ?_;refine ja ((⟨.slice y1 (List.map uV H.ws).length y2,.slice y4 (List.map qX cs0).length y5,.slice y7 (List.map mW JH).length y8,.slice RH (List.map jc H.rs).length RI,cs0,JH,hw0,hc0,ht0,hv0,hz0,hr0⟩:HL).hp X [] 29) (⟨Wb,#[.slice p4 n4 k4,.slice p5 n5 k5,.slice (some ⟨e.b,o,none⟩) H.aG.on.length k6],48⟩::⟨Vb,#[Y.pv P2,Y.gv P2,Y.ov P2],48⟩::⟨Rb,#[.slice none 0 0,.slice none 0 0,.slice none 0 0,.slice none 0 0],29⟩::⟨Cb,#[.int .i64 c.kind,.int .i64 c.vm,.int .i64 c.frame,.int .i64 c.mid,.int .i64 c.fO,.int .i64 c.lX],37⟩::⟨Hb,#[.slice q H.ws.length cap,.slice q2 cs.length cap2,.slice q3 vs.length cap3,.slice q4 H.rs.length cap4],29⟩::(Y.in++hn)) (fun wc hG=>hdo a95 (⟨.slice y1 (List.map uV H.ws).length y2,.slice y4 (List.map qX cs0).length y5,.slice y7 (List.map mW JH).length y8,.slice RH (List.map jc H.rs).length RI,cs0,JH,hw0,hc0,ht0,hv0,hz0,hr0⟩:HL) X p4 p5 (some ⟨e.b,o,none⟩) (some ⟨Y.pb,0,none⟩) (some ⟨Y.gb,0,none⟩) (some ⟨Y.ob,0,none⟩) n4 n5 H.aG.on.length P2.pages.length P2.ay.length P2.on.length k4 k5 k6 Y.zA Y.AZ Y.A7 wc hL3 hG.iT (fun w' hp hg=>hPw w' (fun e he=>(hG.lG hg).here e bC1)) (rX hG (fun e he=>by simp only[bJ6,bI5,he,true_or,or_true]) hPw bA4) (fun w' hp hg=>hIs w' (fun e he=>(hG.lG hg).here e bC1)) (rX hG (fun e he=>by simp only[bJ6,bI5,he,true_or,or_true]) hIs bA4)) (fun v hn4 hR=>?_) aT;obtain⟨rfl,L2,h2,Aq⟩:=hR;obtain⟨wv2,AO,vv2,rv2,cs2,vs2,hw2,hc2,ht2,hv2,hz2,hr2⟩:=L2;obtain⟨x1,x2,x3⟩:=h2.w.opened;obtain⟨x4,x5,x6⟩:=h2.c.opened;obtain⟨x7,x8,x9⟩:=h2.v.opened;obtain⟨x10,x11,x12⟩:=h2.r.opened;dsimp only at x3 x6 x9 x12;subst x3 x6 x9 x12;simp only[HL.hp,HL.rest] at Aq;refine aS (⟨Rb,#[.slice none 0 0,.slice none 0 0,.slice none 0 0,.slice none 0 0],29⟩::⟨X,#[.slice x1 (List.map uV H2.ws).length x2,.slice x4 (List.map qX cs2).length x5,.slice x7 (List.map mW vs2).length x8,.slice x10 (List.map jc H2.rs).length x11],29⟩::(hw2++(hc2++(ht2++(hv2++(hz2++hr2)))))) (cnt1 Aq) ?_;refine aN ?_;refine gB ?_;exact⟨_,rfl,h2,by simp only[HL.rest];(exact aj)⟩
theorem aC6(e:fG):(iC e).length=14∧(iC e).all (·.oneCell')=true:=⟨rfl,rfl⟩
theorem aC7(e:jC):(lg e).length=4∧(lg e).all (·.oneCell')=true:=⟨rfl,rfl⟩
theorem Own.ap7{α:Type}{f:α→List Value}{sz:Nat}(hf:∀ a,(f a).length=sz∧(f a).all (·.oneCell')=true)(h0:0<sz){e:Nat}{h:Hp}{xs:List α}(hA:Own e sz v h (xs.map f))(hk:k<xs.length):∃ g cap cur,v=.slice (some ⟨g,0,none⟩) xs.length cap∧h=[⟨g,cur,e⟩]∧k*sz+sz≤cur.size ∧
  ∀ z:α,Own e sz v [⟨g,putAt cur (k*sz) (f z),e⟩] ((xs.set k z).map f):=by
 obtain⟨g,cap,cur,rfl,rfl,hr⟩:=hA.row (n:=xs.length) bA6 bA4
 have hall:∀ c∈xs.map f,c.length=sz:=fun c hc=>by
  obtain⟨a,_,rfl⟩:=bH9.1 hc;exact (hf a).1
 have hi:(xs.map f)[k]?=some (f xs[k]):=by
  rw[bJ1,bH0 hk];rfl
 have hsz:=hr.size;have hle:=hr.le
 have hks:k*sz+sz≤cur.size:=by
  have:(k+1)*sz≤cap*sz:=bK0 _ bA4;rw[bQ2,Nat.one_mul] at this;omega
 refine⟨g,cap,cur,rfl,rfl,hks,fun z=>⟨fun c hc=>?_,.inr ⟨g,cap,_,by simp,rfl,?_⟩⟩⟩
 ·obtain⟨a,_,rfl⟩:=bH9.1 hc;exact hf a
 ·have h2:=hr.put hall hi (k:=0) (vs:=f z) (by simp[(hf z).1]);have e2:((xs.set k z).map f).length=xs.length:=by simp
  rw[e2,bM']
  have e3:List.take 0 (f xs[k])++f z++List.drop (0+(f z).length) (f xs[k])=f z:=by
   rw[bM2,bH5,List.drop_of_length_le (by rw[(hf z).1,(hf _).1];omega),bI3]
  rw[e3] at h2;exact h2
theorem U0{u:Value}{he hd:Hp}(es:List fG)(ds:List jC)(h1:Own 80 14 v he (es.map iC))(h2:Own 127 4 u hd (ds.map lg))(hN:eU (he++hd) w)(hl:es.length<100000)(hl2:ds.length<100000):Fn Tryz.prog 184 [.agg #[v,u]].toArray w ((he++hd).map (·.b)) (fun r hn=>r=.tuple #[]):=by
 obtain⟨q,cap,ev⟩:=h1.opened;rw[bG9] at ev;subst ev;obtain⟨q2,cap2,ev2⟩:=h2.opened;rw[bG9] at ev2;subst ev2;refine eH _ hN Tryz.func184 ?_;refine run ?_;intro B;refine run ?_;refine aK (σ:=Nat×Hp×List fG) (fun s=>[(2,.int .i64 (s.1:Int))]) (fun s=>⟨B,#[.slice q es.length cap,.slice q2 ds.length cap2],72⟩::(s.2.1++hd)) (fun s=>s.1≤es.length∧s.2.2.length=es.length∧Own 80 14 (.slice q es.length cap) s.2.1 (s.2.2.map iC)) (fun s=>es.length-s.1) (0,he,es) ⟨bH3 _,rfl,h1⟩ ?_;rintro⟨k,h,ys⟩ m hm ⟨hk,hyl,hO⟩;dsimp only at hm hk hyl hO ⊢;refine run ?_;refine ah _ rfl (fun hc=>?_) (fun hc=>?_)
 ·have hlt:k<es.length:=by simp at hc;omega
  obtain⟨g,cap',cur,eg,rfl,hsz,hset⟩:=hO.ap7 aC6 bA5 (k:=k) bA4;rw[hyl] at eg;cases eg;simp only[bH2,bH5];refine run ?_;exact aF (k+1,[⟨g,putAt cur (k*14) (iC ⟨-9,0,0,false,0,0,0,0,false,false,false,false,false,0⟩),80⟩],ys.set k ⟨-9,0,0,false,0,0,0,0,false,false,false,false,false,0⟩) (hm:=by dsimp only;omega) ⟨hlt,by rw[bL3];exact hyl,hset _⟩ (h2:=by simp only[putAt,iC];(exact aj))
 refine run ?_;refine aK (σ:=Nat×Hp×List jC) (fun s=>[(3,.int .i64 (s.1:Int))]) (fun s=>⟨B,#[.slice q es.length cap,.slice q2 ds.length cap2],72⟩::s.2.1) (fun s=>s.1≤ds.length∧s.2.2.length=ds.length∧Own 127 4 (.slice q2 ds.length cap2) s.2.1 (s.2.2.map lg)) (fun s=>ds.length-s.1) (0,hd,ds) ⟨bH3 _,rfl,h2⟩ (hh:=by (exact aj)) ?_;rintro⟨k2,h2',ys2⟩ m2 hm2 ⟨hk2,UW,hO2⟩;dsimp only at hm2 hk2 UW hO2 ⊢;refine run ?_;refine ah _ rfl (fun hc=>?_) (fun hc=>?_)
 ·have hlt:k2<ds.length:=by simp at hc;omega
  obtain⟨g,cap',cur,eg,rfl,hsz,hset⟩:=hO2.ap7 aC7 bA5 (k:=k2) bA4;rw[UW] at eg;cases eg;refine run ?_;exact aF (k2+1,[⟨g,putAt cur (k2*4) (lg ⟨-9,0,0,0⟩),127⟩],ys2.set k2 ⟨-9,0,0,0⟩) (hm:=by dsimp only;omega) ⟨hlt,by rw[bL3];exact UW,hset _⟩ (h2:=by simp only[putAt,lg];(exact aj))
 refine run ?_;exact fin0 rfl
theorem fU.get{α:Type}[Inhabited α]{O:α→Hp→Prop}:∀ {ts:List α} {h:Hp} {k:Nat},fU O (ts.drop k) h→k<ts.length→∃ a b,O (ts.getD k default) a∧fU O (ts.drop (k+1)) b∧aJ (a++b) h
 | [],_,_,_,hk=>absurd hk bA6
 | t::ts,h,0,hw,_=>hw
 | t::ts,h,k+1,hw,hk=>fU.get (ts:=ts) (k:=k) hw (by simpa using hk)
def cpS:jK:=⟨jb,-9,0,⟨[],[],none,0,none,0⟩⟩
def rgS:zN:={ jb with pc:=9 }
structure SpC where
 k:Nat
 xs:List jK
 h:Hp
 g:Hp
structure SpV where
 k:Nat
 xs:List eF
 h:Hp
 g:Hp
structure SpK where
 k:Nat
 xs:List AA
 h:Hp
structure SpR where
 k:Nat
 xs:List zN
 h:Hp
theorem Fa{L:HL}(h:AQ L H)(hf:H.Fit)(hN:eU L.rest w):Fn Tryz.prog 101 [.agg #[L.wv,L.cv,L.vv,L.rv]].toArray w (L.rest.map (·.b)) (fun u hn=>u=.tuple #[]):=by
 have ecl:L.cs.length=H.cs.length:=by rw[←h.ec,bG9]
 have evl:L.vs.length=H.vs.length:=by rw[←h.ev,bG9]
 have hl:=hf.l;obtain⟨wv,cv,vv,rv,cs,vs,hw,hc,ht,hv,hz,hr⟩:=L;obtain⟨ws,cu,vu,rs⟩:=H;obtain⟨P7,gw,JQ,gt,BN,gz,gr,ec,ev⟩:=h;dsimp only at gw JQ gt BN gz gr ec ev ecl evl hl P7;have gw':=gw;obtain⟨q1,c1,e1⟩:=gw.opened;obtain⟨q2,c2,e2⟩:=JQ.opened;obtain⟨q3,c3,e3⟩:=BN.opened;obtain⟨q4,c4,e4⟩:=gr.opened;rw[bG9] at e1 e2 e3 e4;subst e1 e2 e3 e4;simp only[HL.rest] at hN ⊢;refine eH _ hN Tryz.func101 ?_;refine run ?_;intro Hb;refine run ?_;refine ja hw (⟨Hb,#[.slice q1 ws.length c1,.slice q2 cs.length c2,.slice q3 vs.length c3,.slice q4 rs.length c4],29⟩::(hc++(ht++(hv++(hz++hr))))) (fun wc hG=>Ja ws P7 gw' hG.iT bA4) (fun v hn hv_=>?_) aT;subst hv_;refine aS (⟨Hb,#[.slice q1 ws.length c1,.slice q2 cs.length c2,.slice q3 vs.length c3,.slice q4 rs.length c4],29⟩::(hc++(ht++(hv++(hz++hr))))) aj ?_;refine run ?_;refine aK (σ:=SpC) (fun s=>[(2,.int .i64 (s.k:Int))]) (fun s=>⟨Hb,#[.slice q1 ws.length c1,.slice q2 cs.length c2,.slice q3 vs.length c3,.slice q4 rs.length c4],29⟩::(s.h++(s.g++(hv++(hz++hr))))) (fun s=>s.k≤cs.length∧s.xs.length=cs.length∧Own 74 19 (.slice q2 cs.length c2) s.h (s.xs.map qX)∧fU wQ ((s.xs.map (·.t)).drop s.k) s.g) (fun s=>cs.length-s.k) ⟨0,cs,hc,ht⟩ ⟨bH3 _,rfl,JQ,gt⟩ (hh:=by (exact aj)) ?_;rintro⟨k,xs,h,g⟩ m hm ⟨hk,hxl,hB,hW⟩;dsimp only at hm hk hxl hB hW ⊢;refine run ?_;refine ah _ rfl (fun hc5=>?_) (fun hc5=>?_)
 ·have hlt:k<cs.length:=by simp at hc5;omega
  obtain⟨b,cap',cur,eg,rfl,hsz,qg,hput⟩:=hB.oO (k:=k) bA4;rw[hxl] at eg;cases eg;obtain⟨a,r,⟨o1,o2,Dh,hO2,hb,hle1⟩,hW2,hle⟩:=fU.get hW bA7
  have hcp:(xs.map (·.t)).getD k default=(xs.getD k default).t:=by
   rw[bG',bG',bJ1,bH0 (show k<xs.length by omega)];rfl
  rw[hcp] at Dh hO2 hb;have hS:=hput 0 [.int .u64 0,.int .u64 0,.int .u64 0,.int .u64 0,.int .u64 0,.int .u64 0,.int .u64 0,.int .u64 0,.int .u64 0,.int .u64 0,.int .u64 0,.int .u64 0,.int .u64 0,.int .u64 0,.int .u64 0,.int .i64 (-9),.int .i64 0,.slice none 0 0,.slice none 0 0] cpS bA6 rfl ⟨rfl,rfl⟩;have h17:=qg 17 _ rfl;have h18:=qg 18 _ rfl;have hld:=Di h17 h18;generalize xs.getD k default=c at hld Dh hO2 hb;refine pM (mP.mk b cur 74::⟨Hb,#[.slice q1 ws.length c1,.slice (some ⟨b,0,none⟩) cs.length c2,.slice q3 vs.length c3,.slice q4 rs.length c4],29⟩::((o1++o2)++(r++(hv++(hz++hr))))) bD0 ?_;refine run ?_;refine ja (o1++o2) (mP.mk b cur 74::⟨Hb,#[.slice q1 ws.length c1,.slice (some ⟨b,0,none⟩) cs.length c2,.slice q3 vs.length c3,.slice q4 rs.length c4],29⟩::(r++(hv++(hz++hr)))) (fun wc hG=>U0 c.t.es c.t.ds Dh hO2 hG.iT hb.1 hb.2) (fun v hn hv_=>?_) aT;subst hv_;refine aS (mP.mk b cur 74::⟨Hb,#[.slice q1 ws.length c1,.slice (some ⟨b,0,none⟩) cs.length c2,.slice q3 vs.length c3,.slice q4 rs.length c4],29⟩::(r++(hv++(hz++hr)))) aj ?_;refine run ?_
  have hdr:((xs.set k cpS).map (·.t)).drop (k+1)=(xs.map (·.t)).drop (k+1):=by
   rw[bM',List.drop_set_of_lt (bX' k)]
  refine aF ⟨k+1,xs.set k cpS,[⟨b,putAt cur (k*19) [.int .u64 0,.int .u64 0,.int .u64 0,.int .u64 0,.int .u64 0,.int .u64 0,.int .u64 0,.int .u64 0,.int .u64 0,.int .u64 0,.int .u64 0,.int .u64 0,.int .u64 0,.int .u64 0,.int .u64 0,.int .i64 (-9),.int .i64 0,.slice none 0 0,.slice none 0 0],74⟩],r⟩ ⟨hlt,by dsimp only;rw[bL3];exact hxl,by dsimp only;rw[←hxl];exact hS,by dsimp only;rw[hdr];exact hW2⟩ (hm:=by dsimp only;omega) (h2:=by simp only[putAt];(exact aj))
 refine run ?_;refine aK (σ:=SpV) (fun s=>[(3,.int .i64 (s.k:Int))]) (fun s=>⟨Hb,#[.slice q1 ws.length c1,.slice q2 cs.length c2,.slice q3 vs.length c3,.slice q4 rs.length c4],29⟩::(s.h++(s.g++hr))) (fun s=>s.k≤vs.length∧s.xs.length=vs.length∧Own 62 6 (.slice q3 vs.length c3) s.h (s.xs.map mW)∧fU TT (s.xs.drop s.k) s.g) (fun s=>vs.length-s.k) ⟨0,vs,hv,hz⟩ ⟨bH3 _,rfl,BN,gz⟩ (hh:=by (exact aj)) ?_;rintro⟨k2,ys,h2,g2⟩ m2 hm2 ⟨hk2,hyl,hB2,hW2⟩;dsimp only at hm2 hk2 hyl hB2 hW2 ⊢;refine run ?_;refine ah _ rfl (fun hc6=>?_) (fun hc6=>?_)
 ·have hlt:k2<vs.length:=by simp at hc6;omega
  obtain⟨b,cap',cur,eg,rfl,hsz,qg,hput⟩:=hB2.oO (k:=k2) bA4;rw[hyl] at eg;cases eg;obtain⟨a,r,⟨o1,o2,o3,Dh,hO2,hO3,hb,hle1⟩,hW3,hle⟩:=fU.get hW2 bA4;have hS:=hput 0 [.bool false,.bool false,.int .i64 0,.slice none 0 0,.slice none 0 0,.slice none 0 0] vm0 bA6 rfl ⟨rfl,rfl⟩;have n3:=qg 3 _ rfl;have n4:=qg 4 _ rfl;have n5:=qg 5 _ rfl;generalize ys.getD k2 default=vm at n3 n4 n5 Dh hO2 hO3 hb;refine pM (mP.mk b cur 62::⟨Hb,#[.slice q1 ws.length c1,.slice q2 cs.length c2,.slice (some ⟨b,0,none⟩) vs.length c3,.slice q4 rs.length c4],29⟩::(o1++(o2++(o3++(r++hr))))) bD0 ?_;refine run ?_;refine ja o1 (mP.mk b cur 62::⟨Hb,#[.slice q1 ws.length c1,.slice q2 cs.length c2,.slice (some ⟨b,0,none⟩) vs.length c3,.slice q4 rs.length c4],29⟩::(o2++(o3++(r++hr)))) (fun wc hG=>BQ vm.fs Dh hG.iT hb.1) (fun v hn hv_=>?_) aT;subst hv_;refine aS (mP.mk b cur 62::⟨Hb,#[.slice q1 ws.length c1,.slice q2 cs.length c2,.slice (some ⟨b,0,none⟩) vs.length c3,.slice q4 rs.length c4],29⟩::(o2++(o3++(r++hr)))) aj ?_;refine run ?_;refine ja o2 (mP.mk b cur 62::⟨Hb,#[.slice q1 ws.length c1,.slice q2 cs.length c2,.slice (some ⟨b,0,none⟩) vs.length c3,.slice q4 rs.length c4],29⟩::(o3++(r++hr))) (fun wc hG=>BQ vm.fr hO2 hG.iT hb.2.1) (fun v hn hv_=>?_) aT;subst hv_;refine aS (mP.mk b cur 62::⟨Hb,#[.slice q1 ws.length c1,.slice q2 cs.length c2,.slice (some ⟨b,0,none⟩) vs.length c3,.slice q4 rs.length c4],29⟩::(o3++(r++hr))) aj ?_;refine run ?_;obtain⟨q5,c5,e5⟩:=hO3.opened;rw[bG9] at e5;rw[e5] at n5;rw[e5] at hO3;refine aK (σ:=SpK) (fun s=>[(4,.int .i64 (s.k:Int))]) (fun s=>mP.mk b cur 62::⟨Hb,#[.slice q1 ws.length c1,.slice q2 cs.length c2,.slice (some ⟨b,0,none⟩) vs.length c3,.slice q4 rs.length c4],29⟩::(s.h++(r++hr))) (fun s=>s.k≤vm.vs.length∧s.xs.length=vm.vs.length∧Own 102 16 (.slice q5 vm.vs.length c5) s.h (s.xs.map zO)) (fun s=>vm.vs.length-s.k) ⟨0,vm.vs,o3⟩ ⟨bH3 _,rfl,hO3⟩ (hh:=by (exact aj)) ?_;rintro⟨k3,zs,h3⟩ m3 QV ⟨hk3,hzl,hB3⟩;dsimp only at QV hk3 hzl hB3 ⊢;refine run ?_;refine ah _ rfl (fun hc7=>?_) (fun hc7=>?_)
  ·have hlt3:k3<vm.vs.length:=by simp at hc7;omega
   obtain⟨b3,cap3,uY,eg,rfl,hsz3,bi9,aP3⟩:=hB3.oO (k:=k3) bA4;rw[hzl] at eg;cases eg;have hS3:=aP3 0 [.int .u64 0,.int .u64 0,.int .u64 0,.int .u64 0,.int .u64 0,.int .u64 0,.int .u64 0,.int .u64 0,.int .u64 0,.int .u64 0,.int .u64 0,.int .u64 0,.int .u64 0,.int .u64 0,.int .u64 0,.int .i64 (-9)] ⟨jb,-9⟩ bA6 rfl ⟨rfl,rfl⟩;refine pM (mP.mk b3 uY 102::mP.mk b cur 62::⟨Hb,#[.slice q1 ws.length c1,.slice q2 cs.length c2,.slice (some ⟨b,0,none⟩) vs.length c3,.slice q4 rs.length c4],29⟩::(r++hr)) aj ?_;refine run ?_;refine aF ⟨k3+1,zs.set k3 ⟨jb,-9⟩,[⟨b3,putAt uY (k3*16) [.int .u64 0,.int .u64 0,.int .u64 0,.int .u64 0,.int .u64 0,.int .u64 0,.int .u64 0,.int .u64 0,.int .u64 0,.int .u64 0,.int .u64 0,.int .u64 0,.int .u64 0,.int .u64 0,.int .u64 0,.int .i64 (-9)],102⟩]⟩ ⟨hlt3,by dsimp only;rw[bL3];exact hzl,by dsimp only;rw[←hzl];exact hS3⟩ (hm:=by dsimp only;omega) (h2:=by simp only[putAt];(exact aj))
  refine pM (mP.mk b cur 62::⟨Hb,#[.slice q1 ws.length c1,.slice q2 cs.length c2,.slice (some ⟨b,0,none⟩) vs.length c3,.slice q4 rs.length c4],29⟩::(r++hr)) aj ?_;refine run ?_;refine aF ⟨k2+1,ys.set k2 vm0,[⟨b,putAt cur (k2*6) [.bool false,.bool false,.int .i64 0,.slice none 0 0,.slice none 0 0,.slice none 0 0],62⟩],r⟩ ⟨hlt,by dsimp only;rw[bL3];exact hyl,by dsimp only;rw[←hyl];exact hS,by dsimp only;rw[List.drop_set_of_lt (bX' k2)];exact hW3⟩ (hm:=by dsimp only;omega) (h2:=by simp only[putAt];(exact aj))
 refine run ?_;refine aK (σ:=SpR) (fun s=>[(5,.int .i64 (s.k:Int))]) (fun s=>⟨Hb,#[.slice q1 ws.length c1,.slice q2 cs.length c2,.slice q3 vs.length c3,.slice q4 rs.length c4],29⟩::s.h) (fun s=>s.k≤rs.length∧s.xs.length=rs.length∧Own 68 15 (.slice q4 rs.length c4) s.h (s.xs.map jc)) (fun s=>rs.length-s.k) ⟨0,rs,hr⟩ ⟨bH3 _,rfl,gr⟩ (hh:=by (exact aj)) ?_;rintro⟨k4,us,h4⟩ m4 hm4 ⟨hk4,Fq,hB4⟩;dsimp only at hm4 hk4 Fq hB4 ⊢;refine run ?_;refine ah _ rfl (fun hc8=>?_) (fun hc8=>?_)
 ·have hlt:k4<rs.length:=by simp at hc8;omega
  obtain⟨b,cap',cur,eg,rfl,hsz,qg,hput⟩:=hB4.oO (k:=k4) bA4;rw[Fq] at eg;cases eg;have hS:=hput 0 [.int .u64 0,.int .u64 0,.int .u64 0,.int .u64 0,.int .u64 0,.int .u64 0,.int .u64 0,.int .u64 0,.int .u64 9,.int .u64 0,.int .u64 0,.int .u64 0,.int .u64 0,.int .u64 0,.int .u64 0] rgS bA6 rfl ⟨rfl,rfl⟩;refine pM (mP.mk b cur 68::[⟨Hb,#[.slice q1 ws.length c1,.slice q2 cs.length c2,.slice q3 vs.length c3,.slice (some ⟨b,0,none⟩) rs.length c4],29⟩]) aj ?_;refine run ?_;refine aF ⟨k4+1,us.set k4 rgS,[⟨b,putAt cur (k4*15) [.int .u64 0,.int .u64 0,.int .u64 0,.int .u64 0,.int .u64 0,.int .u64 0,.int .u64 0,.int .u64 0,.int .u64 9,.int .u64 0,.int .u64 0,.int .u64 0,.int .u64 0,.int .u64 0,.int .u64 0],68⟩]⟩ ⟨hlt,by dsimp only;rw[bL3];exact Fq,by dsimp only;rw[←Fq];exact hS⟩ (hm:=by dsimp only;omega) (h2:=by simp only[putAt];(exact aj))
 refine run ?_;exact fin0 rfl
end
def ji(F C:Nat):HyD:=⟨dO (F*8) (rG F 64),List.replicate C ⟨jb,0,0,[],[]⟩,List.replicate 4 ⟨false,false,0,[],[],[]⟩,List.replicate C jb⟩
def okE(r:Except Int PtD):Bool:=match r with | .ok _=>true | .error _=>false
def RJ(r:Except Int PtD):PtD:=match r with | .ok P=>P | .error _=>⟨[],[],[]⟩
theorem Y5{r:Except Int PtD}(h:okE r=true):r=.ok (RJ r):=by
 cases r with
 | ok P=>rfl
 | error e=>cases h
def mY(C:Nat):HyD:=(ji 32 C).wL 16 0
theorem Y6:(ji 32 1).ok=true:=by decide +kernel
theorem Y7:(ji 32 2).ok=true:=by decide +kernel
theorem U1:(mY 1).ok=true:=by decide +kernel
theorem U2:(mY 2).ok=true:=by decide +kernel
theorem a98:∀ C,C<3→0<C→okE ((ji 32 C).aG.Cj 0 ⟨5,0,16,0,0,0⟩)=true∧HyD.UL (ji 32 C).aG (RJ ((ji 32 C).aG.Cj 0 ⟨5,0,16,0,0,0⟩))=0:=by decide +kernel
theorem a99:okE ((mY 1).aG.Cj 0 ⟨3,1,25,3,0,0⟩)=true:=by decide +kernel
theorem ap8:∀ C,C<3→(mY C).cs.length=C∧(mY C).vs.length=4:=by decide +kernel
theorem Y8:((mY 1).zF 1 25 3).cs.length=1∧((mY 1).zF 1 25 3).vs.length=4∧(((mY 1).zF 1 25 3).vu 0).live=true:=by decide +kernel
def dead:kM:=⟨false,false,0,[],[],[]⟩
section
attribute [local irreducible] Hy St Ops DH dI jl iR gX DS iw lV
theorem Y9(F C:Nat)(hF1:24≤F)(hF:F≤64)(hC1:1≤C)(hC:C≤3)(w:World):Fn Tryz.prog 39 [.int .i64 (F:Int),.int .i64 (C:Int)].toArray w [] (fun u hn=>∃ p1 c1 p2 c2 p3 c3 p4 c4,u=.agg #[.slice p1 (F*8) c1,.slice p2 C c2,.slice p3 4 c3,.slice p4 C c4]∧(F*8≤c1∧4≤c3)∧∀ w,Here hn w→Ep w (.slice p1 (F*8) c1) (.slice p2 C c2) (.slice p3 4 c3) (.slice p4 C c4) (dO (F*8) (rG F 64)) (List.replicate C TF) (List.replicate 4 vm0) (List.replicate C jb)):=by
 refine enter Tryz.func39 ?_;refine run ?_;intro R;refine run ?_;refine bH (fun wc hG=>ac1 F C hF bA4 hC wc) ?_;rintro u hn ⟨pv,gv,ov,rfl,hP⟩;refine KW fun w1 hG1=>?_;have hP1:=hP w1 (fun b hb=>hG1.here b (bI4 _ hb));obtain⟨p1,pc1,rfl,_⟩:=hP1.pages.opened;obtain⟨p3,pc3,rfl,_⟩:=hP1.on.opened
 obtain⟨g,gc,rfl,_⟩:∃ g gc,gv=.slice g (iy F C).ay.length gc∧True:=by
  obtain⟨vv,mv,⟨⟨g,gc,e,_⟩,hl⟩,_⟩:=hP1.ay;simp only[bG9,bN2] at e hl;exact⟨g,gc,e,trivial⟩
 clear hP1 hG1;refine run ?_;intro X;refine drawM 10 [0,1,2,4,7] [3,5,6,8] [9] ?_;refine gK ?_;refine kD (fun wc hG=>GR F bA4 hF (iy F C).pages Xv (hP wc (fun b hb=>hG.here b bF5)).pages) ?_ ?_
 ·obtain⟨v,h1,hO⟩:=Je (e:=53) ((qh (F*8) (dw (iy F C).pages) 64).ws.map uV) (fun c hc=>by obtain⟨x,_,rfl⟩:=bH9.1 hc;exact⟨rfl,rfl⟩) (by rw[bG9,Lm bA4,fA];omega);exact⟨_,h1,v,h1,rfl,hO,aJ.refl _⟩
 refine Kw (m:=C) (sz:=19) (z:=.agg #[.int .u64 0,.int .u64 0,.int .u64 0,.int .u64 0,.int .u64 0,.int .u64 0,.int .u64 0,.int .u64 0,.int .u64 0,.int .u64 0,.int .u64 0,.int .u64 0,.int .u64 0,.int .u64 0,.int .u64 0,.int .i64 0,.int .i64 0,.slice none 0 0,.slice none 0 0]) ?_ bA4 (hcs:=by exact o7 [.int .u64 0,.int .u64 0,.int .u64 0,.int .u64 0,.int .u64 0,.int .u64 0,.int .u64 0,.int .u64 0,.int .u64 0,.int .u64 0,.int .u64 0,.int .u64 0,.int .u64 0,.int .u64 0,.int .u64 0,.int .i64 0,.int .i64 0,.slice none 0 0,.slice none 0 0] C 19 rfl bA4);refine Kw (m:=4) (sz:=6) (z:=.agg #[.bool false,.bool false,.int .i64 0,.slice none 0 0,.slice none 0 0,.slice none 0 0]) ?_ bA4 (hcs:=by exact o7 [.bool false,.bool false,.int .i64 0,.slice none 0 0,.slice none 0 0,.slice none 0 0] 4 6 rfl bA4);refine Kw (m:=C) (sz:=15) (z:=.agg #[.int .u64 0,.int .u64 0,.int .u64 0,.int .u64 0,.int .u64 0,.int .u64 0,.int .u64 0,.int .u64 0,.int .u64 0,.int .u64 0,.int .u64 0,.int .u64 0,.int .u64 0,.int .u64 0,.int .u64 0]) ?_ bA4 (hcs:=by exact o7 [.int .u64 0,.int .u64 0,.int .u64 0,.int .u64 0,.int .u64 0,.int .u64 0,.int .u64 0,.int .u64 0,.int .u64 0,.int .u64 0,.int .u64 0,.int .u64 0,.int .u64 0,.int .u64 0,.int .u64 0] C 15 rfl bA4);refine kP ?_;rintro _ _ ⟨Bh,rfl,rfl⟩ _ _ ⟨Bv,rfl,rfl⟩ _ _ ⟨Bc,rfl,rfl⟩ u hn2 ⟨v2,h2,rfl,hO,hle2⟩;rw[Lm bA4] at hO;obtain⟨q,cap,e2,ap9⟩:=hO.sW;rw[bG9,fA] at e2 ap9;subst e2;refine uG ?_;refine jM ?_;refine ru ?_;simp only[bH2,bH5];obtain⟨CC,hCC⟩:∃ G:Array Value,G=((List.replicate C [.int .u64 0,.int .u64 0,.int .u64 0,.int .u64 0,.int .u64 0,.int .u64 0,.int .u64 0,.int .u64 0,.int .u64 0,.int .u64 0,.int .u64 0,.int .u64 0,.int .u64 0,.int .u64 0,.int .u64 0,.int .i64 0,.int .i64 0,.slice none 0 0,.slice none 0 0]).flatten).toArray:=⟨_,rfl⟩
 obtain⟨VC,hVC⟩:∃ G:Array Value,G=((List.replicate 4 [.bool false,.bool false,.int .i64 0,.slice none 0 0,.slice none 0 0,.slice none 0 0]).flatten).toArray:=⟨_,rfl⟩
 obtain⟨RC,hRC⟩:∃ G:Array Value,G=((List.replicate C [.int .u64 0,.int .u64 0,.int .u64 0,.int .u64 0,.int .u64 0,.int .u64 0,.int .u64 0,.int .u64 0,.int .u64 0,.int .u64 0,.int .u64 0,.int .u64 0,.int .u64 0,.int .u64 0,.int .u64 0]).flatten).toArray:=⟨_,rfl⟩
 rw[←hCC,←hVC,←hRC];refine aS (⟨R,#[.slice none 0 0,.slice none 0 0,.slice none 0 0,.slice none 0 0],29⟩::⟨Bh,RC,68⟩::⟨Bv,VC,62⟩::⟨Bc,CC,74⟩::h2) (cnt1 hle2) ?_;refine run ?_;refine dS (cs:=#[.slice q (F*8) cap,.slice (some ⟨Bc,0,none⟩) C C,.slice (some ⟨Bv,0,none⟩) 4 4,.slice (some ⟨Bh,0,none⟩) C C]) ?_;subst hCC hVC hRC;exact⟨_,_,_,_,_,_,_,_,rfl,⟨ap9,bI0 4⟩,fun w' hw'=>⟨lT.dO (QO _ _),hO.lie (hw'.sub fun e he=>by simp[he]) (by simp[fA];omega),AL.zero (t:=74) (hw' _ (.tail _ (.tail _ (.tail _ (.head _))))) bA4,yX.zero (t:=62) (hw' _ (.tail _ (.tail _ (.head _)))) bA4,ac9 (t:=68) (hw' _ (.tail _ (.head _))) bA4⟩⟩
theorem zJ(n:Int)(w:World):Fn Tryz.prog 17 [.int .i64 n].toArray w [] (fun u _=>u=.int .i64 n):=by
 refine enter Tryz.func17 ?_;refine run ?_;exact fin1 rfl
theorem rY{x:Int}(h:-1000≤x∧x≤1000):I64 x:=by unfold I64;omega
theorem U3(F C:Nat)(hF:F≤64)(hC:C≤3):(ji F C).Fit:=by
 refine⟨⟨by simp[ji,fA];omega,by simp[ji];omega,by simp[ji],by simp[ji];omega⟩,fun c hc=>?_,fun v hv=>?_⟩
 ·rw[bP0 hc];exact⟨by decide,by decide,rY bA5,rY bA5⟩
 ·rw[bP0 hv];exact⟨by decide,by decide,by decide,by simp,by simp,by simp⟩
theorem Za{F C:Nat}(hF:F≤64)(hC:C≤3){p1 p2 p3 p4:Option Addr}{c1 c2 c3 c4:Nat}(h:Ep w (.slice p1 (F*8) c1) (.slice p2 C c2) (.slice p3 4 c3) (.slice p4 C c4) (dO (F*8) (rG F 64)) (List.replicate C TF) (List.replicate 4 vm0) (List.replicate C jb))(h1:F*8≤c1)(h3:4≤c3):vw w (.slice p1 (F*8) c1) (.slice p2 C c2) (.slice p3 4 c3) (.slice p4 C c4) (ji F C):=by
 refine⟨U3 F C hF hC,⟨p3,c3,by simp[ji],by simp[ji];exact h3⟩,⟨p1,c1,by simp[ji,fA],by simp[ji,fA];exact h1⟩,List.replicate C TF,List.replicate 4 vm0,by rw[List.map_replicate];rfl,by rw[List.map_replicate];rfl,fun c hc=>by rw[bP0 hc];decide,h⟩
def JI(P:PtD):Bool:=decide (P.pages.length≤1000)&&decide (P.ay.length≤1000)&&decide (P.on.length≤1000)&&allB P.ay.length fun i=>decide ((P.gs i).aP.length≤1000)&&decide ((P.gs i).maps.length≤1000)
theorem Nv(h:JI P=true):P.Small 1000:=by
 simp only[JI,bG8,decide_eq_true_eq] at h;refine⟨h.1.1.1,h.1.1.2,h.1.2,fun i hi=>?_⟩;have:=aI.1 h.2 i hi;simpa only [bG8,decide_eq_true_eq] using this
theorem HyD.lW.of(hok:H.ok=true)(hw:lT H.ws):H.lW:=by
 simp only[HyD.ok,bG8] at hok;obtain⟨⟨⟨h1,⟨h2,h3⟩,h4⟩,h5⟩,h6⟩:=hok;have hL:=jv h1;refine⟨hL.m,hw,HostT.of hL h3,hL.c1,hL.c3,hL.r,hL.v,fun c hc=>?_⟩;obtain⟨j,hj,rfl⟩:=bS0 hc;have:=aI.1 h6 j hj;simp only[HyD.sound,bG8] at this;have h9:=this.1;rw[show H.cu j=H.cs[j] by unfold HyD.cu;rw[bG',bH0 hj];rfl] at h9;exact h9
theorem Nw:∀ C,C<3→JI (ji 32 C).aG=true:=by decide +kernel
theorem Zc:∀ C,C<3→0<C→(RJ ((ji 32 C).aG.Cj 0 ⟨5,0,16,0,0,0⟩)).may=true:=by decide +kernel
theorem Zd:∀ C,C<3→0<C→(ji 32 C).ok=true:=by
 intro C h1 h2
 match C,h1,h2 with
 | 1,_,_=>exact Y6
 | 2,_,_=>exact Y7
theorem Ny(C:Nat)(h1:C<3)(h2:0<C){vv rv:Value}(h:vw w wv cv vv rv (ji 32 C)):Fn Tryz.prog 16 [.agg #[wv,cv,vv,rv],.int .i64 ((0:Nat):Int),uh ⟨5,0,16,0,0,0⟩].toArray w [] (Hz (mY C)):=by
 have hok:=Zd C h1 h2;have hw64:lT (ji 32 C).ws:=lT.dO (QO _ _);have hW:=HyD.lW.of hok hw64;have hmay:(ji 32 C).aG.may=true:=by simp only[HyD.ok,bG8] at hok;exact hok.1.1.2.1.1
 obtain⟨hd,hn⟩:=a98 C h1 h2;have hsv:mY C=(ji 32 C).wL 16 (HyD.UL (ji 32 C).aG (RJ ((ji 32 C).aG.Cj 0 ⟨5,0,16,0,0,0⟩))):=by rw[hn];rfl
 rw[hsv];have hcl:0<(ji 32 C).cs.length:=by simp[ji];exact h2
 refine JF a90 h hok 0 hcl ⟨5,0,16,0,0,0⟩ rfl (by constructor<;>exact rY bA5) (Y5 hd) (Nv (Nw C h1)) (fun L X p4 p5 p6 p7 p8 p9 n4 n5 n6 n7 n8 n9 k4 k5 k6 k7 k8 k9 wc hL hN hP hPo hP2 UR=>?_);exact Ns hL hW hcl rfl ⟨by decide,by simp[ji,fA]⟩ (wJ hmay) (wJ (Zc C h1 h2)) hP hPo hP2 UR hN
def smI(x:Int):Bool:=decide (-1000≤x)&&decide (x≤1000)
theorem Nz{x:Int}(h:smI x=true):I64 x:=by
 simp only[smI,bG8,decide_eq_true_eq] at h;exact rY h
def aC'(H:HyD):Bool:=decide (H.ws.length<100000)&&decide (H.cs.length<100000)&&decide (H.vs.length<100000)&&decide (H.rs.length<100000)&&H.cs.all (fun c=>decide (c.es.length<100000)&&decide (c.ds.length<100000)&&smI c.vm&&smI c.vc)&&H.vs.all fun v=>decide (v.fs.length<100000)&&decide (v.fr.length<100000)&&decide (v.vs.length<100000)&&v.fs.all smI&&v.fr.all smI&&v.vs.all fun c=>smI c.on
theorem aD0(h:aC' H=true):H.Fit:=by
 simp only[aC',bG8,decide_eq_true_eq,bH1] at h;obtain⟨⟨⟨⟨⟨h1,h2⟩,h3⟩,h4⟩,h5⟩,h6⟩:=h;exact⟨⟨h1,h2,h3,h4⟩,fun c hc=>⟨(h5 c hc).1.1.1,(h5 c hc).1.1.2,Nz (h5 c hc).1.2,Nz (h5 c hc).2⟩,fun v hv=>⟨(h6 v hv).1.1.1.1.1,(h6 v hv).1.1.1.1.2,(h6 v hv).1.1.1.2,fun x hx=>Nz ((h6 v hv).1.1.2 x hx),fun x hx=>Nz ((h6 v hv).1.2 x hx),fun x hx=>Nz ((h6 v hv).2 x hx)⟩⟩
theorem aP4:∀ C,C<3→aC' (mY C)=true:=by decide +kernel
def aP5(ws:List Nat):Bool:=ws.all fun x=>decide (x<18446744073709551616)
theorem aD1{ws:List Nat}(h:aP5 ws=true):lT ws:=fun x hx=>by
 have:=bH1.1 h x hx;simpa using this
theorem aP6:∀ C,C<3→aP5 (mY C).ws=true:=by decide +kernel
theorem aj':∀ C,C<3→JI (mY C).aG=true:=by decide +kernel
theorem NC:∀ C,C<3→0<C→(mY C).ok=true:=by
 intro C h1 h2
 match C,h1,h2 with
 | 1,_,_=>exact U1
 | 2,_,_=>exact U2
theorem ND{L:HL}(hL:AQ L (mY 1))(hh:Here L.rest w):Fn Tryz.prog 16 [.agg #[L.wv,L.cv,L.vv,L.rv],.int .i64 ((0:Nat):Int),uh ⟨3,1,25,3,0,0⟩].toArray w [] (Hz ((mY 1).zF 1 25 3)):=by
 have hW:=HyD.lW.of (NC 1 bA5 bA5) (aD1 (aP6 1 bA5));refine JF a88 (hL.hv (aD0 (aP4 1 bA5)) hh) (NC 1 bA5 bA5) 0 (bU0 Nat.zero_lt_one hW.c1) ⟨3,1,25,3,0,0⟩ rfl (by constructor<;>exact rY bA5) (Y5 a99) (Nv (aj' 1 bA5)) (fun L X p4 p5 p6 p7 p8 p9 n4 n5 n6 n7 n8 n9 k4 k5 k6 k7 k8 k9 wc hL hN hP hPo hP2 UR=>?_);exact Nu hL hW (bU0 Nat.zero_lt_one hW.c1) rfl bA5 bA5 bF7 hN
theorem ap'{L:HL}(h:AQ L H){n:Nat}(hn:H.cs.length=n):L.cs.length=n:=by
 have:=congrArg List.length h.ec;rw[bG9] at this;omega
theorem aq0{L:HL}(h:AQ L H){n:Nat}(hn:H.vs.length=n):L.vs.length=n:=by
 have:=congrArg List.length h.ev;rw[bG9] at this;omega
theorem U4(w:World):Fn Tryz.prog 20 [].toArray w [] (fun u _=>u=.bool true):=by
 refine enter Tryz.func20 ?_;refine run ?_;refine bH (fun wc hG=>Y9 32 1 bA5 bA5 bA5 bA5 wc) ?_;rintro _ hn ⟨p1,c1,p2,c2,p3,c3,p4,c4,rfl,⟨hc1,hc3⟩,hH⟩;refine run ?_;refine bH (fun wc hG=>Ny 1 bA5 bA5 (Za bA5 bA5 (hH wc (fun e he=>hG.here e bC2)) hc1 hc3)) ?_;rintro _ hn2 ⟨L,rfl,hL,hle⟩;have aP7:=ap' hL (ap8 1 bA5).1;have aP8:=aq0 hL (ap8 1 bA5).2;obtain⟨wvx,cvx,vvx,rvx,csx,vsx,hwx,hcx,htx,hvx,hzx,hrx⟩:=L;obtain⟨ax1,bx1,fx1⟩:=hL.w.opened;obtain⟨ax2,bx2,fx2⟩:=hL.c.opened;obtain⟨ax3,bx3,fx3⟩:=hL.v.opened;obtain⟨ax4,bx4,fx4⟩:=hL.r.opened;dsimp only at aP7 aP8 fx1 fx2 fx3 fx4;rw[bG9,aP7] at fx2;rw[bG9,aP8] at fx3;subst fx1 fx2 fx3 fx4;refine run ?_;intro Eb;refine run ?_;refine bH (fun wc hG=>ND hL (fun e he=>hG.here e (by have:=hle.mem he;simp[this]))) ?_;rintro _ hn3 ⟨M,rfl,hM,hle3⟩;have aP9:=ap' hM Y8.1;have aD2:=aq0 hM Y8.2.1;obtain⟨wvy,cvy,vvy,rvy,csy,vsy,hwy,hcy,hty,hvy,hzy,hry⟩:=M;obtain⟨ay1,by1,fy1⟩:=hM.w.opened;obtain⟨ay2,by2,fy2⟩:=hM.c.opened;obtain⟨ay3,by3,fy3⟩:=hM.v.opened;obtain⟨ay4,by4,fy4⟩:=hM.r.opened;dsimp only at aP9 aD2 fy1 fy2 fy3 fy4;rw[bG9,aP9] at fy2;rw[bG9,aD2] at fy3;subst fy1 fy2 fy3 fy4;obtain⟨g,cap,cur,e7,rfl,hsz,qg,_⟩:=hM.v.oO (k:=0) (by dsimp only;omega);dsimp only at e7;rw[aD2] at e7;cases e7;have n0:=qg 0 _ rfl
 have hlv:(vsy.getD 0 default).live=true:=by
  have:=rM hM.ev 0;have h2:=congrArg kM.live this;exact h2.trans Y8.2.2
 rw[hlv] at n0;simp only[bQ6,bJ4] at n0;simp only[HL.rest] at hle3;dsimp only;refine aS (⟨Eb,#[.slice ax1 (List.map uV (mY 1).ws).length bx1,.slice ax2 1 bx2,.slice ax3 4 bx3,.slice ax4 (List.map jc (mY 1).rs).length bx4],29⟩::⟨g,cur,62⟩::[]) (cnt1 hle3) ?_;refine run ?_;refine az (fun wc hG=>zJ 0 wc) ?_;refine aC ?_;refine bG (fun _ wc hG=>zJ 0 wc) ?_;refine aC ?_;exact fin1 rfl
end
section
namespace HyD
variable {H : HyD}
theorem aD3(h:H.ok=true):H.aG.may=true:=by simp only[HyD.ok,bG8] at h;exact h.1.1.2.1.1
theorem Fe(h:H.ok=true):H.aG.Small 1000:=by
 have hm:=aD3 h;have h2:=PtD.ai2.1 hm;refine⟨by have:=h2.n1;omega,by have:=h2.g4;omega,by have:=h2.o3;omega,fun i hi=>?_⟩;have hi4:i<4:=by have:=h2.g4;omega
 refine⟨?_,by have:=PtD.ER hm hi4;omega⟩
 cases hl:(H.aG.gs i).live with
 | true=>have:=(h2.Wy i hi4 hl).vl;omega
 | false=>rw[(h2.dead i hi4 hl).vc];simp
theorem aP'{i:Nat}(hi:i<4)(hl:(H.aG.gs i).live=true):(H.aG.gs i).aP.length=(H.vu i).vs.length:=by
 obtain⟨_,hp2,_⟩:=rQ H;rw[hp2 i hi] at hl ⊢;unfold bU at hl ⊢
 cases hv:(H.vu i).live with
 | true=>rw[hv] at hl;simp
 | false=>rw[hv] at hl;cases hl
theorem MR{n:Int}(h:1≤n∧n≤4):ix n<4:=by unfold ix;omega
theorem run_in(h:H.ok=true){cpu:Nat}(hc:cpu<H.cs.length){c:wR}(hk:c.kind=8){P2:PtD}(hd:H.aG.Cj cpu c=.ok P2):(H.aG.st cpu).vm=0∧(1≤c.vm∧c.vm≤4)∧0≤c.fO∧c.fO<((H.vu (c.vm-1).toNat).vs.length:Int):=by
 obtain⟨K,vm,fr,mid,vc,cc⟩:=c;dsimp only at hk ⊢;subst hk;unfold PtD.Cj at hd;by_cases hv:(H.aG.st cpu).vm=0
 ·rw[hv] at hd;simp only[PtD.ET,PtD.vM] at hd;revert hd
  cases hb:PtD.cZ vm 1 4 with
  | false=>intro hd;simp at hd
  | true=>
   simp only[PtD.cZ,bG8,decide_eq_true_eq] at hb
   cases hl:(H.aG.gs (ix vm)).live with
   | false=>intro hd;simp at hd
   | true=>
    have hg:=aP' (MR hb) hl
    cases hb2:PtD.cZ vc 0 (((H.aG.gs (ix vm)).aP.length:Int)-1) with
    | false=>intro hd;simp[hb2] at hd
    | true=>
     intro _;simp only[PtD.cZ,bG8,decide_eq_true_eq] at hb2;rw[hg] at hb2;exact⟨hv,hb,hb2.1,by have:=hb2.2;unfold ix at this;omega⟩
 ·rw[decide_eq_false hv] at hd;simp[PtD.xQ] at hd
end HyD
end
section
attribute [local irreducible] Hy St Ops DH dI jl iR gX DS iw lV
section
variable {L : HL} {H : HyD} {cpu : Nat} {c : wR} {X : Nat} {pv gv ov : Value} {w : World} {p7 p8 p9 : Option Addr} {n7 n8 n9 k7 k8 k9 : Nat}
end
namespace HyD
variable {H : HyD}
def aQ0(c:JP):Prop:=c.es.length<100000∧c.ds.length<100000∧I64 c.vm∧I64 c.vc
def aQ1(v:kM):Prop:=v.fs.length<100000∧v.fr.length<100000∧v.vs.length<100000∧(∀ x∈v.fs,I64 x)∧(∀ x∈v.fr,I64 x)∧(∀ c∈v.vs,I64 c.on)
theorem ak0(hf:H.Fit){i:Nat}{x:JP}{y:kM}{r:zN}(hx:aQ0 x)(hy:aQ1 y):HyD.Fit ⟨H.ws,H.cs.set k x,H.vs.set i y,H.rs.set k r⟩:=by
 refine⟨by have:=hf.l;simpa only [bL3] using this,fun c hc=>?_,fun v hv=>?_⟩
 ·rcases bR3 hc with h | rfl
  ·exact hf.c _ h
  ·exact hx
 ·rcases bR3 hv with h | rfl
  ·exact hf.v _ h
  ·exact hy
theorem aD4(hf:H.Fit)(hk:k<H.cs.length):aQ0 (H.cu k):=hf.c _ (getD_mem (l:=H.cs) hk)
theorem aD5(hf:H.Fit)(hk:k<H.vs.length):aQ1 (H.vu k):=hf.v _ (getD_mem (l:=H.vs) hk)
theorem JJ{n:Int}(h:-1≤n∧n<100000):I64 n:=by unfold I64;omega
end HyD
def aD6(K:Int):Prop:=(PK K∧RK K)∧∀ (H:HyD) (cpu:Nat) (c:wR) (P2:PtD),H.ok=true→lT H.ws→H.Fit→cpu<H.cs.length→c.kind=K→c.Wf→H.aG.Cj cpu c=.ok P2→∃ H2:HyD,H2.Fit ∧
 (∀ w wv cv vv rv,vw w wv cv vv rv H→Fn Tryz.prog 16 [.agg #[wv,cv,vv,rv],.int .i64 (cpu:Int),uh c].toArray w [] (Hz H2)) ∧
 (∀ w wv cv vv rv,vw w wv cv vv rv H→Fn Tryz.prog 99 [.agg #[wv,cv,vv,rv],.int .i64 (cpu:Int),uh c].toArray w [] (Hz H2))
theorem aQ2:aD6 8:=by
 refine⟨⟨aP1,aP2⟩,?_⟩;intro H cpu c P2 hok h64 hf lY hk hw hd;have hW:=HyD.lW.of hok h64;have hs:=HyD.Fe hok;obtain⟨hv0,hvm,mQ⟩:=HyD.run_in hok lY hk hd;have hi:(c.vm-1).toNat<H.vs.length:=by rw[hW.v];omega
 have fv:=HyD.aD5 hf hi;have fc:=HyD.aD4 hf lY;have hl:=hf.l;refine⟨H.Nj cpu c.vm c.fO,?_,fun w wv cv vv rv h=>JF aP1 h hok cpu lY c hk hw hd hs fun L X p4 p5 p6 p7 p8 p9 n4 n5 n6 n7 n8 n9 k4 k5 k6 k7 k8 k9 w hL hN _ _ _ _=>YW hL hW lY hk hvm mQ hN,fun w wv cv vv rv h=>aj9 aP2 h hok cpu lY c hk hw hd hs (fun _ L X p4 p5 p6 p7 p8 p9 n4 n5 n6 n7 n8 n9 k4 k5 k6 k7 k8 k9 w hL hN _ _ _ _=>P9 L H hL cpu lY hW.r bA4 c hk ⟨hvm.1,by rw[hW.v];exact hvm.2⟩ bA4 mQ p4 p5 p6 p7 p8 p9 n4 n5 n6 n7 n8 n9 k4 k5 k6 k7 k8 k9 hN) (fun hg=>absurd hg bA4)⟩;refine HyD.ak0 hf ⟨fc.1,fc.2.1,HyD.JJ (n:=c.vm) bA4,HyD.JJ (n:=c.fO) (by have:=fv.2.2.1;omega)⟩ ⟨fv.1,fv.2.1,by rw[bL3];exact fv.2.2.1,fv.2.2.2.1,fv.2.2.2.2.1,fun x hx=>?_⟩;rcases bR3 hx with h | rfl
 ·exact fv.2.2.2.2.2 _ h
 ·exact HyD.JJ (by dsimp only;omega)
end
section
attribute [local irreducible] Hy St Ops DH dI jl iR gX DS iw lV
theorem aD7{a b:List jK}(h:a.map jK.u=b.map jK.u):a.map jK.core=b.map jK.core:=by
 have:jK.core=(fun u:JP=>(u.r,u.vm,u.vc,u.es,u.ds)) ∘ jK.u:=rfl;rw[this,←bW1,h,bW1]
theorem aD8{a b:List eF}(h:a.map eF.u=b.map eF.u):a.map eF.core=b.map eF.core:=by
 have:eF.core=(fun u:kM=>(u.live,u.dying,u.aO,u.fs,u.fr,u.vs)) ∘ eF.u:=rfl;rw[this,←bW1,h,bW1]
theorem RN(w:World):Fn Tryz.prog 100 [(.agg #[.slice none 0 0,.slice none 0 0,.slice none 0 0,.slice none 0 0]),(.agg #[.slice none 0 0,.slice none 0 0,.slice none 0 0,.slice none 0 0])].toArray w [] (fun r _=>r=.bool true):=
 QU [] [] [] [] [] [] _ _ _ _ _ _ _ _ rfl rfl (gW _ _) (gW _ _) ⟨gW _ _,by simp,by simp⟩ ⟨gW _ _,by simp,by simp⟩ ⟨gW _ _,by simp,by simp,by simp⟩ ⟨gW _ _,by simp,by simp,by simp⟩ (gW _ _) (gW _ _)
theorem BR(w:World):Fn Tryz.prog 101 [(.agg #[.slice none 0 0,.slice none 0 0,.slice none 0 0,.slice none 0 0])].toArray w [] (fun u _=>u=.tuple #[]):=
 Fa (L:=⟨.slice none 0 0,.slice none 0 0,.slice none 0 0,.slice none 0 0,[],[],[],[],[],[],[],[]⟩) (H:=⟨[],[],[],[]⟩) ⟨fun _ h=>by simp at h,Own.nil _ _,Own.nil _ _,trivial,Own.nil _ _,trivial,Own.nil _ _,rfl,rfl⟩ ⟨by decide,by simp,by simp⟩ ⟨fun _ h=>by simp[HL.rest] at h,by simp[HL.rest]⟩
theorem xX{a b c d a' b' c' d':Value}(h:vw w a b c d H)(h2:vw w a' b' c' d' H):Fn Tryz.prog 100 [.agg #[a,b,c,d],.agg #[a',b',c',d']].toArray w [] (fun r _=>r=.bool true):=by
 obtain⟨cs,vs,e1,e2,_,hH⟩:=h.ex;obtain⟨cs2,vs2,f1,f2,_,hH2⟩:=h2.ex;exact QU H.ws cs cs2 vs vs2 H.rs _ _ _ _ _ _ _ _ (aD7 (e1.trans f1.symm)) (aD8 (e2.trans f2.symm)) hH.ws hH2.ws hH.cs hH2.cs hH.vs hH2.vs hH.rs hH2.rs
theorem Ze{K:Int}(hK:aD6 K){vv rv:Value}(h:vw w wv cv vv rv H)(k_ n_ oW jA xm zH:Int)(cpu:Nat)(lY:cpu<H.cs.length)(hk:k_=K)(hw:wR.Wf ⟨k_,n_,oW,jA,xm,zH⟩):Fn Tryz.prog 40 [.agg #[wv,cv,vv,rv],.agg #[.int .i64 (cpu:Int),.int .i64 k_,.int .i64 n_,.int .i64 oW,.int .i64 jA,.int .i64 xm,.int .i64 zH,.bool false]].toArray w [] (fun u _=>∃ p1 p2 p3 p4:Option Addr,∃ n1 n2 n3 n4 c1 c2 c3 c4:Nat,u=.tuple #[.agg #[.slice p1 n1 c1,.slice p2 n2 c2,.slice p3 n3 c3,.slice p4 n4 c4],.bool true]):=by
 have h':=h;obtain⟨cs,vs,e1,e2,_,hH⟩:=h.ex;have hcl:cs.length=H.cs.length:=by rw[←e1,bG9]
 obtain⟨q,cap,rfl,hne,_⟩:=hH.ws.opened;obtain⟨q2,cap2,rfl,hne2,_⟩:=hH.cs.rows.opened;obtain⟨q3,cap3,rfl,jI,_⟩:=hH.vs.rows.opened;obtain⟨q4,cap4,rfl,oQ,_⟩:=hH.rs.opened;refine enter Tryz.func40 ?_;refine run ?_;intro Hb Ab Wb;refine run ?_;refine az (fun wc hG=>az6 (h'.good hG)) ?_;rw[aA1];refine run ?_;refine bH (fun wc hG=>JG (h'.good hG)) ?_;rintro _ hn3 ⟨L,rfl,hL3,hle3⟩;have hLv:=fun (wc:World) (hh:Here L.rest wc)=>hL3.hv h'.fit hh;obtain⟨wv0,cv0,vv0,rv0,cs0,JH,hw0,hc0,ht0,hv0,hz0,hr0⟩:=L;obtain⟨y1,y2,y3⟩:=hL3.w.opened;obtain⟨y4,y5,y6⟩:=hL3.c.opened;obtain⟨y7,y8,y9⟩:=hL3.v.opened;obtain⟨RH,RI,y12⟩:=hL3.r.opened;dsimp only at y3 y6 y9 y12 hLv;subst y3 y6 y9 y12;simp only[HL.rest] at hle3 hLv;refine aS (⟨Wb,#[.slice none 0 0,.slice none 0 0,.slice none 0 0,.slice none 0 0],29⟩::⟨Ab,#[.int .i64 (cpu:Int),.int .i64 k_,.int .i64 n_,.int .i64 oW,.int .i64 jA,.int .i64 xm,.int .i64 zH,.bool false],39⟩::⟨Hb,#[.slice q H.ws.length cap,.slice q2 cs.length cap2,.slice q3 vs.length cap3,.slice q4 H.rs.length cap4],29⟩::(hw0++(hc0++(ht0++(hv0++(hz0++hr0)))))) (cnt1 hle3) ?_;refine run ?_;intro Ib;refine run ?_;have hin:∀ (wc:World) (hp:Hp),Good w [] hp wc→(∀ e∈(hw0++(hc0++(ht0++(hv0++(hz0++hr0))))),e∈hp)→vw wc (.slice y1 (List.map uV H.ws).length y2) (.slice y4 (List.map qX cs0).length y5) (.slice y7 (List.map mW JH).length y8) (.slice RH (List.map jc H.rs).length RI) H:=fun wc hp hG hm=>hLv wc (fun e he=>hG.here e (hm e he))
 cases hok:H.ok with
 | false=>
  refine aN ?_;intro Xb Nb;refine aN ?_;refine az (fun wc hG=>UY (hin wc _ hG (fun e he=>bB0)) hok (cpu:Int) ⟨k_,n_,oW,jA,xm,zH⟩) ?_;refine aN ?_;refine az (fun wc hG=>zJ _ wc) ?_;refine aN ?_;refine bG (fun hg wc hG=>RN wc) ?_;refine aN ?_;refine bG (fun hg wc hG=>xX (hin wc _ hG (fun e he=>bB0)) (h'.good hG)) ?_;refine aN ?_;refine az (fun wc hG=>BR wc) ?_;refine aN ?_;refine az (fun wc hG=>xX (hin wc _ hG (fun e he=>bB0)) (h'.good hG)) ?_;refine aN ?_
  exact gB ⟨_,_,_,_,_,_,_,_,_,_,_,_,rfl⟩
 | true=>
  refine aN ?_;refine bG (fun hg wc hG=>Jk _ _ wc) ?_;rw[show (decide (0≤(cpu:Int))&&decide ((cpu:Int)≤(cs.length:Int)-1))=true by simp;omega];refine aN ?_;intro Xb Nb;refine aN ?_
  cases hd:H.aG.Cj cpu ⟨k_,n_,oW,jA,xm,zH⟩ with
  | error e=>
   refine az (fun wc hG=>YZ hK.1.1 (hin wc _ hG (fun e he=>bB0)) hok cpu lY ⟨k_,n_,oW,jA,xm,zH⟩ hk hw hd (HyD.Fe hok)) ?_;refine aN ?_;obtain⟨e',he'⟩:∃ e',e'=e:=⟨_,rfl⟩
   refine az (fun wc hG=>Y4 hK.1.2 (h'.good hG) hok cpu lY ⟨k_,n_,oW,jA,xm,zH⟩ hk hw (e:=e') (by rw[he'];exact hd) (HyD.Fe hok)) ?_;refine aN ?_;refine az (fun wc hG=>zJ _ wc) ?_;refine aN ?_;rw[show (!decide (e=e'))=false by simp[he']];refine bG (fun hg wc hG=>RN wc) ?_;refine aN ?_;refine bG (fun hg wc hG=>xX (hin wc _ hG (fun e he=>bB0)) (h'.good hG)) ?_;refine aN ?_;refine az (fun wc hG=>BR wc) ?_;refine aN ?_;refine az (fun wc hG=>xX (hin wc _ hG (fun e he=>bB0)) (h'.good hG)) ?_;refine aN ?_;refine ah _ rfl (fun hc=>absurd hc (by rw[he'];simp[PtD.xW _ _ _ _ hd])) (fun hc=>?_);refine aN ?_
   exact gB ⟨_,_,_,_,_,_,_,_,_,_,_,_,rfl⟩
  | ok P2=>
   obtain⟨H2,hf2,hA,hB⟩:=hK.2 H cpu ⟨k_,n_,oW,jA,xm,zH⟩ P2 hok hH.Df h'.fit lY hk hw hd;refine bH (fun wc hG=>hA _ _ _ _ _ (hin wc _ hG (fun e he=>bB0))) ?_;rintro _ hnx ⟨Lx,rfl,hLx,hlex⟩;have hXv:=fun (wc:World) (hh:Here Lx.rest wc)=>hLx.hv hf2 hh;have hsp:=fun (wc:World) (hh:eU Lx.rest wc)=>Fa hLx hf2 hh;obtain⟨wvx,cvx,vvx,rvx,csx,vsx,hwx,hcx,htx,hvx,hzx,hrx⟩:=Lx;obtain⟨x1,x2,x3⟩:=hLx.w.opened;obtain⟨x4,x5,x6⟩:=hLx.c.opened;obtain⟨x7,x8,x9⟩:=hLx.v.opened;obtain⟨x10,x11,x12⟩:=hLx.r.opened;dsimp only at x3 x6 x9 x12 hXv hsp;subst x3 x6 x9 x12;simp only[HL.rest] at hlex hXv hsp;refine aS (⟨Xb,#[.slice none 0 0,.slice none 0 0,.slice none 0 0,.slice none 0 0],29⟩::⟨Nb,#[.slice none 0 0,.slice none 0 0,.slice none 0 0,.slice none 0 0],29⟩::⟨Ib,#[.slice y1 (List.map uV H.ws).length y2,.slice y4 (List.map qX cs0).length y5,.slice y7 (List.map mW JH).length y8,.slice RH (List.map jc H.rs).length RI],29⟩::⟨Wb,#[.slice none 0 0,.slice none 0 0,.slice none 0 0,.slice none 0 0],29⟩::⟨Ab,#[.int .i64 (cpu:Int),.int .i64 k_,.int .i64 n_,.int .i64 oW,.int .i64 jA,.int .i64 xm,.int .i64 zH,.bool false],39⟩::⟨Hb,#[.slice q H.ws.length cap,.slice q2 cs.length cap2,.slice q3 vs.length cap3,.slice q4 H.rs.length cap4],29⟩::((hwx++(hcx++(htx++(hvx++(hzx++hrx)))))++(hw0++(hc0++(ht0++(hv0++(hz0++hr0))))))) (cnt1 hlex) ?_;refine aN ?_;refine bH (fun wc hG=>hB _ _ _ _ _ (h'.good hG)) ?_;rintro _ hny ⟨Ly,rfl,hLy,aQ4⟩;have hYv:=fun (wc:World) (hh:Here Ly.rest wc)=>hLy.hv hf2 hh;obtain⟨wvy,cvy,vvy,rvy,csy,vsy,hwy,hcy,hty,hvy,hzy,hry⟩:=Ly;obtain⟨z1,z2,z3⟩:=hLy.w.opened;obtain⟨z4,z5,z6⟩:=hLy.c.opened;obtain⟨z7,z8,z9⟩:=hLy.v.opened;obtain⟨z10,z11,z12⟩:=hLy.r.opened;dsimp only at z3 z6 z9 z12 hYv;subst z3 z6 z9 z12;simp only[HL.rest] at aQ4 hYv;refine aS (⟨Nb,#[.slice none 0 0,.slice none 0 0,.slice none 0 0,.slice none 0 0],29⟩::⟨Xb,#[.slice x1 (List.map uV H2.ws).length x2,.slice x4 (List.map qX csx).length x5,.slice x7 (List.map mW vsx).length x8,.slice x10 (List.map jc H2.rs).length x11],29⟩::⟨Ib,#[.slice y1 (List.map uV H.ws).length y2,.slice y4 (List.map qX cs0).length y5,.slice y7 (List.map mW JH).length y8,.slice RH (List.map jc H.rs).length RI],29⟩::⟨Wb,#[.slice none 0 0,.slice none 0 0,.slice none 0 0,.slice none 0 0],29⟩::⟨Ab,#[.int .i64 (cpu:Int),.int .i64 k_,.int .i64 n_,.int .i64 oW,.int .i64 jA,.int .i64 xm,.int .i64 zH,.bool false],39⟩::⟨Hb,#[.slice q H.ws.length cap,.slice q2 cs.length cap2,.slice q3 vs.length cap3,.slice q4 H.rs.length cap4],29⟩::((hwy++(hcy++(hty++(hvy++(hzy++hry)))))++((hwx++(hcx++(htx++(hvx++(hzx++hrx)))))++(hw0++(hc0++(ht0++(hv0++(hz0++hr0)))))))) (cnt1 aQ4) ?_;refine aN ?_;refine az (fun wc hG=>zJ _ wc) ?_;refine aN ?_;refine bG (fun hg wc hG=>xX (hXv wc (fun e he=>hG.here e bB5)) (hYv wc (fun e he=>hG.here e bB5))) ?_;refine aN ?_;refine bG (fun hg wc hG=>xX (hin wc _ hG (fun e he=>bB5)) (h'.good hG)) ?_;refine aN ?_;refine ja (hwx++(hcx++(htx++(hvx++(hzx++hrx))))) (⟨Nb,#[.slice z1 (List.map uV H2.ws).length z2,.slice z4 (List.map qX csy).length z5,.slice z7 (List.map mW vsy).length z8,.slice z10 (List.map jc H2.rs).length z11],29⟩::⟨Xb,#[.slice x1 (List.map uV H2.ws).length x2,.slice x4 (List.map qX csx).length x5,.slice x7 (List.map mW vsx).length x8,.slice x10 (List.map jc H2.rs).length x11],29⟩::⟨Ib,#[.slice y1 (List.map uV H.ws).length y2,.slice y4 (List.map qX cs0).length y5,.slice y7 (List.map mW JH).length y8,.slice RH (List.map jc H.rs).length RI],29⟩::⟨Wb,#[.slice none 0 0,.slice none 0 0,.slice none 0 0,.slice none 0 0],29⟩::⟨Ab,#[.int .i64 (cpu:Int),.int .i64 k_,.int .i64 n_,.int .i64 oW,.int .i64 jA,.int .i64 xm,.int .i64 zH,.bool false],39⟩::⟨Hb,#[.slice q H.ws.length cap,.slice q2 cs.length cap2,.slice q3 vs.length cap3,.slice q4 H.rs.length cap4],29⟩::((hwy++(hcy++(hty++(hvy++(hzy++hry)))))++(hw0++(hc0++(ht0++(hv0++(hz0++hr0))))))) (fun wc hG=>hsp wc hG.iT) (fun v hnv hv=>?_) aT;subst hv;refine aS (⟨Nb,#[.slice z1 (List.map uV H2.ws).length z2,.slice z4 (List.map qX csy).length z5,.slice z7 (List.map mW vsy).length z8,.slice z10 (List.map jc H2.rs).length z11],29⟩::⟨Xb,#[.slice x1 (List.map uV H2.ws).length x2,.slice x4 (List.map qX csx).length x5,.slice x7 (List.map mW vsx).length x8,.slice x10 (List.map jc H2.rs).length x11],29⟩::⟨Ib,#[.slice y1 (List.map uV H.ws).length y2,.slice y4 (List.map qX cs0).length y5,.slice y7 (List.map mW JH).length y8,.slice RH (List.map jc H.rs).length RI],29⟩::⟨Wb,#[.slice none 0 0,.slice none 0 0,.slice none 0 0,.slice none 0 0],29⟩::⟨Ab,#[.int .i64 (cpu:Int),.int .i64 k_,.int .i64 n_,.int .i64 oW,.int .i64 jA,.int .i64 xm,.int .i64 zH,.bool false],39⟩::⟨Hb,#[.slice q H.ws.length cap,.slice q2 cs.length cap2,.slice q3 vs.length cap3,.slice q4 H.rs.length cap4],29⟩::((hwy++(hcy++(hty++(hvy++(hzy++hry)))))++(hw0++(hc0++(ht0++(hv0++(hz0++hr0))))))) aj ?_;refine aN ?_;refine az (fun wc hG=>xX (hin wc _ hG (fun e he=>bB5)) (h'.good hG)) ?_;refine aN ?_;refine bH (fun wc hG=>JG (hYv wc (fun e he=>hG.here e bB5))) ?_;rintro _ hnz ⟨Lz,rfl,hLz,hlez⟩;obtain⟨wvz,cvz,vvz,rvz,csz,vsz,hwz,hcz,htz,hvz,hzz,hrz⟩:=Lz;obtain⟨t1,t2,t3⟩:=hLz.w.opened;obtain⟨t4,t5,t6⟩:=hLz.c.opened;obtain⟨t7,t8,t9⟩:=hLz.v.opened;obtain⟨t10,t11,t12⟩:=hLz.r.opened;dsimp only at t3 t6 t9 t12;subst t3 t6 t9 t12;refine aS [⟨Wb,#[.slice none 0 0,.slice none 0 0,.slice none 0 0,.slice none 0 0],29⟩] aj ?_;refine aN ?_;exact gB ⟨_,_,_,_,_,_,_,_,_,_,_,_,rfl⟩
theorem U5(n m cn cm:Nat)(q q2:Option Addr)(w:World)(hn:n≤281474976710656)(hm:m≤281474976710656):Fn Tryz.prog 102 [.agg #[.slice q n cn,.slice q2 m cm]].toArray w [] (fun r _=>r=.int .i64 ((n:Int)+m)):=by
 refine enter Tryz.func102 ?_;refine run ?_;intro B;exact fin1 rfl
def ak1(ws:List Nat)(cs:List jK)(vs:List eF)(rs:List zN):Prop:=(ws.length≤1500∧cs.length≤1500∧vs.length≤1500∧rs.length≤1500)∧(∀ c∈cs,c.t.es.length≤1500∧c.t.ds.length≤1500)∧∀ v∈vs,v.fs.length≤1500∧v.fr.length≤1500∧v.vs.length≤1500
theorem Qa{vv rv:Value}{ws:List Nat}{cs:List jK}{vs:List eF}{rs:List zN}(h:Ep w wv cv vv rv ws cs vs rs):Fn Tryz.prog 41 [.agg #[wv,cv,vv,rv]].toArray w [] (fun u _=>∃ n:Int,u=.int .i64 n∧(n≤1500→ak1 ws cs vs rs)):=by
 obtain⟨q,cap,rfl,_,l1⟩:=h.ws.opened;obtain⟨q2,cap2,rfl,hne2,l2⟩:=h.cs.rows.opened;obtain⟨q3,cap3,rfl,jI,l3⟩:=h.vs.rows.opened;obtain⟨q4,cap4,rfl,_,l4⟩:=h.rs.opened;refine enter Tryz.func41 ?_;refine run ?_;intro B;refine run ?_;refine aK (σ:=Nat×Int) (fun s=>[(3,.int .i64 s.2),(4,.int .i64 (s.1:Int))]) (fun s=>[⟨B,#[.slice q ws.length cap,.slice q2 cs.length cap2,.slice q3 vs.length cap3,.slice q4 rs.length cap4],29⟩]) (fun s=>s.1≤cs.length∧(ws.length:Int)+cs.length+vs.length+rs.length≤s.2∧s.2≤3000000000000000∧∀ j,j<s.1→((cs.getD j default).t.es.length:Int)+(cs.getD j default).t.ds.length≤s.2) (fun s=>cs.length-s.1) (0,(ws.length:Int)+cs.length+vs.length+rs.length) ⟨bH3 _,by simp,by dsimp only;omega,fun j hj=>absurd hj bA6⟩ ?_;rintro⟨k,n⟩ m hm ⟨hk,h0,h1,h2⟩;dsimp only at hm hk h0 h1 h2 ⊢;refine aC ?_;refine ah _ rfl (fun hc=>?_) (fun hc=>?_)
 ·simp only[bG8,decide_eq_true_eq] at hc;have hlt:k<cs.length:=by omega
  obtain⟨b,o,rfl⟩:=hne2 bC3;have hr:=h.cs.rows.row hlt;have ha1:=h.cs.en _ (getD_mem (l:=cs) hlt);have ha2:=h.cs.iv _ (getD_mem (l:=cs) hlt);obtain⟨_,_,_,_,b1⟩:=ha1.opened;obtain⟨_,_,_,_,b2⟩:=ha2.opened;have aO8:=aV (k:=17) (n:=2) hr rfl;refine run ?_;refine az (fun wc hG=>U5 (cs.getD k default).t.es.length (cs.getD k default).t.ds.length (cs.getD k default).t.ec (cs.getD k default).t.dc (cs.getD k default).t.ep (cs.getD k default).t.dp wc b1 b2) ?_;refine run ?_;refine aF (k+1,n+(((cs.getD k default).t.es.length:Int)+(cs.getD k default).t.ds.length)) ⟨by omega,by dsimp only;omega,by dsimp only;omega,fun j hj=>?_⟩;dsimp only at hj ⊢;rcases bI1.1 hj with hj | rfl
  ·have:=h2 j hj;omega
  ·omega
 refine run ?_;refine aK (σ:=Nat×Int) (fun s=>[(3,.int .i64 s.2),(5,.int .i64 (s.1:Int))]) (fun s=>[⟨B,#[.slice q ws.length cap,.slice q2 cs.length cap2,.slice q3 vs.length cap3,.slice q4 rs.length cap4],29⟩]) (fun s=>s.1≤vs.length∧n≤s.2∧s.2≤4000000000000000∧∀ j,j<s.1→((vs.getD j default).fs.length:Int)+(vs.getD j default).fr.length+(vs.getD j default).vs.length≤s.2) (fun s=>vs.length-s.1) (0,n) ⟨bH3 _,by simp,by dsimp only;omega,fun j hj=>absurd hj bA6⟩ ?_;rintro⟨k2,n2⟩ m2 hm2 ⟨hk2,g0,g1,g2⟩;dsimp only at hm2 hk2 g0 g1 g2 ⊢;refine aC ?_;refine ah _ rfl (fun hc2=>?_) (fun hc2=>?_)
 ·simp only[bG8,decide_eq_true_eq] at hc2;have hlt:k2<vs.length:=by omega
  obtain⟨b,o,rfl⟩:=jI bC3;have hr:=h.vs.rows.row hlt;have ha1:=h.vs.fs _ (getD_mem (l:=vs) hlt);have ha2:=h.vs.fr _ (getD_mem (l:=vs) hlt);have ha3:=h.vs.vs _ (getD_mem (l:=vs) hlt);obtain⟨_,_,_,_,b1⟩:=ha1.opened;obtain⟨_,_,_,_,b2⟩:=ha2.opened;obtain⟨_,_,_,_,b3⟩:=ha3.opened;have hc3:=cO (k:=3) hr rfl;have hc4:=cO (k:=4) hr rfl;have hc5:=cO (k:=5) hr rfl;refine run ?_;refine eP 25 ?_;refine dF ?_;refine run ?_;refine aF (k2+1,n2+((vs.getD k2 default).fs.length:Int)+((vs.getD k2 default).fr.length:Int)+((vs.getD k2 default).vs.length:Int)) ⟨by omega,by dsimp only;omega,by dsimp only;omega,fun j hj=>?_⟩;dsimp only at hj ⊢;rcases bI1.1 hj with hj | rfl
  ·have:=g2 j hj;omega
  ·omega
 refine run ?_;refine fin1 ?_;refine⟨n2,rfl,fun hn=>?_⟩;simp only[bM9,decide_eq_false_iff_not] at hc hc2;have e1:k=cs.length:=by omega
 have e2:k2=vs.length:=by omega
 subst e1 e2;refine⟨⟨by omega,by omega,by omega,by omega⟩,fun c hc=>?_,fun v hv=>?_⟩
 ·obtain⟨j,hj,rfl⟩:=PtD.zB hc;have:=h2 j hj;omega
 ·obtain⟨j,hj,rfl⟩:=PtD.zB hv;have:=g2 j hj;omega
theorem U6{vv rv:Value}{ws:List Nat}{cs:List jK}{vs:List eF}{rs:List zN}(h:Ep w wv cv vv rv ws cs vs rs):Fn Tryz.prog 22 [.agg #[wv,cv,vv,rv]].toArray w [] (fun u _=>∃ b,u=.bool b∧(b=false→ak1 ws cs vs rs)):=by
 have h':=h;obtain⟨q,cap,rfl,_,l1⟩:=h.ws.opened;obtain⟨q2,cap2,rfl,hne2,l2⟩:=h.cs.rows.opened;obtain⟨q3,cap3,rfl,jI,l3⟩:=h.vs.rows.opened;obtain⟨q4,cap4,rfl,_,l4⟩:=h.rs.opened;refine enter Tryz.func22 ?_;refine run ?_;intro B;refine run ?_;refine Qz (fun wc hG=>Qa (h'.good hG)) ?_;rintro _ ⟨n,rfl,hn⟩;refine run ?_;refine fin1 ⟨_,rfl,fun hb=>hn ?_⟩;have:=of_decide_eq_false hb;omega
theorem U7{vv rv:Value}{ws:List Nat}{cs:List jK}{vs:List eF}{rs:List zN}(h:Ep w wv cv vv rv ws cs vs rs){lp:Option Addr}{ln lc:Nat}:Fn Tryz.prog 13 [.agg #[wv,cv,vv,rv,.slice lp ln lc]].toArray w [] (fun u _=>∃ b,u=.bool b∧(b=false→ak1 ws cs vs rs)):=by
 have h':=h;obtain⟨q,cap,rfl,_,l1⟩:=h.ws.opened;obtain⟨q2,cap2,rfl,hne2,l2⟩:=h.cs.rows.opened;obtain⟨q3,cap3,rfl,jI,l3⟩:=h.vs.rows.opened;obtain⟨q4,cap4,rfl,_,l4⟩:=h.rs.opened;refine enter Tryz.func13 ?_;refine run ?_;intro B;refine run ?_;refine Qz (fun wc hG=>U6 (h'.good hG)) ?_;rintro _ ⟨b,rfl,hn⟩;refine aC ?_;refine fin1 ⟨_,rfl,fun hb=>hn ?_⟩
 cases b with
 | false=>rfl
 | true=>simp at hb
structure F7(w:World)(wv cv vv rv lv:Value)(H:HyD)(A:List EP):Prop where
 hy:∃ cs vs,cs.map jK.u=H.cs∧vs.map eF.u=H.vs∧(∀ c∈cs,c.t.es.length≤c.t.ec)∧Ep w wv cv vv rv H.ws cs vs H.rs
 cap:∃ q c,vv=.slice q H.vs.length c∧H.vs.length≤c
 EE:∃ q c,wv=.slice q H.ws.length c∧H.ws.length≤c
 cn:∀ c∈H.cs,I64 c.vm∧I64 c.vc
 vn:∀ v∈H.vs,(∀ x∈v.fs,I64 x)∧(∀ x∈v.fr,I64 x)∧(∀ c∈v.vs,I64 c.on)
 l:aA w lv 8 (A.map ah7)
 wf:∀ a∈A,a.Wf
theorem F7.hv{w:World}{wv cv vv rv lv:Value}{H:HyD}{A:List EP}(h:F7 w wv cv vv rv lv H A)(hl:∃ cs vs,cs.map jK.u=H.cs∧vs.map eF.u=H.vs∧ak1 H.ws cs vs H.rs):vw w wv cv vv rv H:=by
 obtain⟨cs,vs,e1,e2,⟨⟨l1,l2,l3,l4⟩,l5,l6⟩⟩:=hl;have hc:cs.length=H.cs.length:=by rw[←e1,bG9]
 have hv:vs.length=H.vs.length:=by rw[←e2,bG9]
 refine⟨⟨⟨by omega,by omega,by omega,by omega⟩,fun c hc=>?_,fun v hv=>?_⟩,h.cap,h.EE,h.hy⟩
 ·have:=h.cn c hc;rw[←e1] at hc;obtain⟨x,hx,rfl⟩:=bH9.1 hc;have h5:=l5 x hx;exact⟨by simp only[jK.u];omega,by simp only[jK.u];omega,this.1,this.2⟩
 ·have:=h.vn v hv;rw[←e2] at hv;obtain⟨x,hx,rfl⟩:=bH9.1 hv;have h5:=l6 x hx;exact⟨by simp only[eF.u];omega,by simp only[eF.u];omega,by simp only[eF.u];omega,this.1,this.2.1,this.2.2⟩
theorem Zf{K:Int}(hK:aD6 K)(hKi:I64 K){vv rv lv:Value}{A:List EP}(h:F7 w wv cv vv rv lv H A):Fn Tryz.prog 21 [.agg #[wv,cv,vv,rv,lv],.int .i64 K].toArray w [] (fun u _=>u=.bool true):=by
 have h':=h;obtain⟨cs,vs,e1,e2,_,hH⟩:=h.hy;have hcl:cs.length=H.cs.length:=by rw[←e1,bG9]
 have hH':=hH;obtain⟨q,cap,rfl,hne,_⟩:=hH.ws.opened;obtain⟨q2,cap2,rfl,hne2,_⟩:=hH.cs.rows.opened;obtain⟨q3,cap3,rfl,jI,_⟩:=hH.vs.rows.opened;obtain⟨q4,cap4,rfl,oQ,_⟩:=hH.rs.opened;obtain⟨q5,cap5,rfl,hne5,_⟩:=h.l.opened;refine enter Tryz.func21 ?_;refine run ?_;intro Pb;refine run ?_;refine Qz (fun wc hG=>U7 (hH'.good hG)) ?_;rintro _ ⟨b,rfl,hn⟩;refine run ?_;refine ah _ rfl (fun hc=>?_) (fun hc=>?_)
 ·refine run ?_;exact fin1 rfl
 have hv:=h'.hv ⟨cs,vs,e1,e2,hn hc⟩;refine run ?_;refine aK (σ:=Nat) (fun k=>[(5,.int .i64 (k:Int))]) (fun _=>[⟨Pb,#[.slice q H.ws.length cap,.slice q2 cs.length cap2,.slice q3 vs.length cap3,.slice q4 H.rs.length cap4,.slice q5 A.length cap5],32⟩]) (fun k=>k≤A.length) (fun k=>A.length-k) 0 (bH3 _) ?_;rintro k m hm hk;refine aC ?_;refine ah _ rfl (fun hc2=>?_) (fun hc2=>?_)
 ·have hlt:k<A.length:=by simp only[bG8,decide_eq_true_eq] at hc2;omega
  obtain⟨b5,o5,rfl⟩:=hne5 bC3;have hr:=h.l.row hlt;have hwf:=h.wf _ (getD_mem (l:=A) hlt);generalize A.getD k default=a at hr hwf;obtain⟨ac,k_,n_,oW,jA,xm,zH,st_⟩:=a;simp only[ah7] at hr;refine run ?_;intro Ab;refine run ?_;refine aK (σ:=Nat×Int) (fun s=>[(7,.int .i64 (s.1:Int))]) (fun s=>[⟨Ab,#[.int .i64 s.2,.int .i64 K,.int .i64 n_,.int .i64 oW,.int .i64 jA,.int .i64 xm,.int .i64 zH,.bool false],39⟩,⟨Pb,#[.slice q H.ws.length cap,.slice q2 cs.length cap2,.slice q3 vs.length cap3,.slice q4 H.rs.length cap4,.slice (some ⟨b5,o5,none⟩) A.length cap5],32⟩]) (fun s=>s.1≤cs.length) (fun s=>cs.length-s.1) (0,ac) (bH3 _) ?_;rintro⟨p,z⟩ m2 hm2 hp2;dsimp only at hm2 hp2 ⊢;refine aC ?_;refine ah _ rfl (fun hc3=>?_) (fun hc3=>?_)
  ·have hlp:p<cs.length:=by simp only[bG8,decide_eq_true_eq] at hc3;omega
   refine run ?_;refine Qz (fun wc hG=>Ze hK (hv.good hG) K n_ oW jA xm zH p bA4 rfl ⟨hwf.vm,hwf.frame,hwf.mid,hwf.fO⟩) ?_;rintro _ ⟨t1,t2,t3,t4,j1,j2,j3,j4,i1,i2,i3,i4,rfl⟩;refine run ?_;intro Zb;refine aN ?_;refine aF (p+1,(p:Int)) hlp (hm:=by omega) (h2:=by (exact aj))
  refine run ?_;refine aF (k+1) hlt (h2:=by (exact aj))
 refine run ?_;refine az (fun wc hG=>U4 wc) ?_;refine aN ?_;exact fin1 rfl
end
section
open Go.ChangeShapes Go.WideShapes Go.ChangeAt Go.RowKit
attribute [local irreducible] Hy St Ops DH dI jl iR gX DS iw lV
theorem F7.good{w':World}{hp:Hp}{vv rv lv:Value}{A:List EP}(h:F7 w wv cv vv rv lv H A)(hG:Good w [] hp w'):F7 w' wv cv vv rv lv H A:=by
 obtain⟨cs,vs,e1,e2,e3,h5⟩:=h.hy;exact⟨⟨cs,vs,e1,e2,e3,h5.good hG⟩,h.cap,h.EE,h.cn,h.vn,h.l.good hG,h.wf⟩
theorem Zg{cs:List Value}(h:jD [.i .u64,.i .u64,.i .u64,.i .u64,.i .u64,.i .u64,.i .u64,.i .u64,.i .u64,.i .u64,.i .u64,.i .u64,.i .u64,.i .u64,.i .u64,.i .i64] cs=true):∃ c:AA,cs=zO c∧I64 c.on:=by
 obtain⟨_,_,rfl,h0,r0⟩:=aH h;obtain⟨_,_,rfl,h1,r1⟩:=aH r0;obtain⟨_,_,rfl,h2,r2⟩:=aH r1;obtain⟨_,_,rfl,h3,r3⟩:=aH r2;obtain⟨_,_,rfl,h4,r4⟩:=aH r3;obtain⟨_,_,rfl,h5,r5⟩:=aH r4;obtain⟨_,_,rfl,h6,r6⟩:=aH r5;obtain⟨_,_,rfl,h7,r7⟩:=aH r6;obtain⟨_,_,rfl,h8,r8⟩:=aH r7;obtain⟨_,_,rfl,h9,r9⟩:=aH r8;obtain⟨_,_,rfl,h10,r10⟩:=aH r9;obtain⟨_,_,rfl,h11,r11⟩:=aH r10;obtain⟨_,_,rfl,h12,r12⟩:=aH r11;obtain⟨_,_,rfl,h13,r13⟩:=aH r12;obtain⟨_,_,rfl,h14,r14⟩:=aH r13;obtain⟨_,_,rfl,h15,r15⟩:=aH r14;obtain⟨a0,rfl,b0⟩:=iO h0;obtain⟨a1,rfl,b1⟩:=iO h1;obtain⟨a2,rfl,b2⟩:=iO h2;obtain⟨a3,rfl,b3⟩:=iO h3;obtain⟨a4,rfl,b4⟩:=iO h4;obtain⟨a5,rfl,b5⟩:=iO h5;obtain⟨a6,rfl,b6⟩:=iO h6;obtain⟨a7,rfl,b7⟩:=iO h7;obtain⟨a8,rfl,b8⟩:=iO h8;obtain⟨a9,rfl,b9⟩:=iO h9;obtain⟨a10,rfl,b10⟩:=iO h10;obtain⟨a11,rfl,b11⟩:=iO h11;obtain⟨a12,rfl,b12⟩:=iO h12;obtain⟨a13,rfl,b13⟩:=iO h13;obtain⟨a14,rfl,b14⟩:=iO h14;obtain⟨a15,rfl,b15⟩:=kS h15;obtain rfl:=kQ r15;exact⟨⟨⟨a0,a1,a2,a3,a4,a5,a6,a7,a8,a9,a10,a11,a12,a13,a14⟩,a15⟩,rfl,b15⟩
section
variable {H : Type} {enc : TypeId × Value → H} {w : World} {base : Nat} {spare : Nat → Bool} {held : Bool}
theorem NF{cs:List Value}{x:DataW H×List MemPlace}(h:DataW.trod enc Tryz.prog w base spare held fuel 60 cs=some x)(hz:FH Tryz.prog 60 x.1):∃ v,∃ xs:List AA,cs=[v]∧aA w v 16 (xs.map zO)∧(∀ a∈xs,I64 a.on)∧xs.length≤reachBytes:=
 nD (f:=zO) (q:=fun c=>I64 c.on) (ks:=[.i .u64,.i .u64,.i .u64,.i .u64,.i .u64,.i .u64,.i .u64,.i .u64,.i .u64,.i .u64,.i .u64,.i .u64,.i .u64,.i .u64,.i .u64,.i .i64]) Tryz.underlying60 bB6 (aB.zQ (t:=102) (s:=16) rfl) bA5 bB6 (fun cs hc=>Zg hc) h hz
def eF.zK(w:World)(m:eF):Prop:=(aA w m.fv 1 (m.fs.map bY)∧aA w m.rv 1 (m.fr.map bY)∧aA w m.vv 16 (m.vs.map zO))∧(∀ x∈m.fs,I64 x)∧(∀ x∈m.fr,I64 x)∧(∀ c∈m.vs,I64 c.on)
theorem Zh{cs:List Value}{x:DataW H×List MemPlace}(h:DataW.trod enc Tryz.prog w base spare held fuel 62 cs=some x)(hz:FH Tryz.prog 62 x.1):∃ m:eF,cs=mW m∧m.zK w:=by
 obtain⟨hl,n,hf⟩:=lQ Tryz.underlying62 h hz;rw[jG (show fP Tryz.prog 62=some 6 from aB.zQ rfl)] at hl
 match cs,hl with
 | [c0,c1,c2,c3,c4,c5],_=>
  have c1s:Tryz.prog.cellsOf 4=1:=by kernel_rfl
  have c2s:Tryz.prog.cellsOf 3=1:=by kernel_rfl
  have c3s:Tryz.prog.cellsOf 59=1:=by kernel_rfl
  have c4s:Tryz.prog.cellsOf 60=1:=by kernel_rfl
  obtain⟨_,h0,_⟩:=hf 0 _ rfl;obtain⟨_,h1,_⟩:=hf 1 _ rfl;obtain⟨_,h2,_⟩:=hf 2 _ rfl;obtain⟨_,h3,z3⟩:=hf 3 _ rfl;obtain⟨_,h4,z4⟩:=hf 4 _ rfl;obtain⟨_,h5,z5⟩:=hf 5 _ rfl;simp only[bT2,bS4,bS5,c1s,c2s,c3s,c4s,bL1,bK4,bK9,bM2] at h0 h1 h2 h3 h4 h5 z3 z4 z5;obtain⟨b0,e0⟩:=QX (kE 8 4 [.b] bB6 bB6 _ _ _ h0);obtain⟨b1,e1⟩:=QX (kE 8 4 [.b] bB6 bB6 _ _ _ h1);obtain⟨k2,e2,_⟩:=DataW.trod_int Tryz.underlying3 h2;obtain⟨v3,fs,e3,s3,i3,l3⟩:=Ey h3 z3;obtain⟨v4,fr,e4,s4,i4,l4⟩:=Ey h4 z4;obtain⟨v5,vs,e5,s5,o5,l5⟩:=NF h5 z5;obtain⟨p3,q3,rfl,_,_⟩:=s3.opened;obtain⟨p4,q4,rfl,_,_⟩:=s4.opened;obtain⟨p5,q5,rfl,_,_⟩:=s5.opened;cases e0;cases e1;cases e2;cases e3;cases e4;cases e5;exact⟨⟨b0,b1,k2,fs,p3,q3,fr,p4,q4,vs,p5,q5⟩,rfl,⟨s3,s4,s5⟩,i3,i4,o5⟩
theorem U8{cs:List Value}{x:DataW H×List MemPlace}(h:DataW.trod enc Tryz.prog w base spare held fuel 26 cs=some x)(hz:FH Tryz.prog 26 x.1):∃ v,∃ ms:List eF,cs=[v]∧yX w v ms∧(∀ m∈ms,m.zK w)∧ms.length≤reachBytes:=by
 obtain⟨p,xs,cap,rfl,hl,hr⟩:=vV (α:=eF) (R:=fun cs m=>cs=mW m∧m.zK w) Tryz.underlying26 (aB.zQ (t:=62) (s:=6) rfl) bA5 bB6 (fun n cs x hx hz=>Zh hx hz) h hz;obtain⟨h1,h2⟩:=vX (f:=mW) (q:=fun m=>m.zK w) hl hr;exact⟨_,xs,rfl,⟨h1,fun m hm=>(h2 m hm).1.1,fun m hm=>(h2 m hm).1.2.1,fun m hm=>(h2 m hm).1.2.2⟩,h2,hl⟩
def jK.zK(w:World)(c:jK):Prop:=(aA w c.t.ev 14 (c.t.es.map iC)∧aA w c.t.dv 4 (c.t.ds.map lg))∧c.t.es.length≤c.t.ec∧I64 c.vm∧I64 c.vc
theorem BU{cs:List Value}(h:jD [.i .i64] cs=true):∃ a,cs=[.int .i64 a]∧I64 a:=by
 obtain⟨_,_,rfl,h1,h⟩:=aH h;obtain rfl:=kQ h;obtain⟨a,rfl,ha⟩:=kS h1;exact⟨a,rfl,ha⟩
theorem U9{cs:List Value}{x:DataW H×List MemPlace}(h:DataW.trod enc Tryz.prog w base spare held fuel 74 cs=some x)(hz:FH Tryz.prog 74 x.1):∃ c:jK,cs=qX c∧c.zK w:=by
 obtain⟨hl,n,hf⟩:=lQ Tryz.underlying74 h hz;rw[jG (show fP Tryz.prog 74=some 19 from aB.zQ rfl)] at hl
 match cs,hl with
 | [c0,c1,c2,c3,c4,c5,c6,c7,c8,c9,c10,c11,c12,c13,c14,c15,c16,c17,c18],_=>
  have s1:Tryz.prog.cellsOf 68=15:=by kernel_rfl
  have s2:Tryz.prog.cellsOf 3=1:=by kernel_rfl
  have s3:Tryz.prog.cellsOf 72=2:=by kernel_rfl
  obtain⟨_,h0,z0⟩:=hf 0 _ rfl;obtain⟨_,h1,z1⟩:=hf 1 _ rfl;obtain⟨_,h2,z2⟩:=hf 2 _ rfl;obtain⟨_,h3,z3⟩:=hf 3 _ rfl;simp only[bT2,bS4,bS5,s1,s2,s3,bL1,bK4,bK9,bM2] at h0 z0 h1 z1 h2 z2 h3 z3;obtain⟨r,e0,r0⟩:=QW (kE 8 68 [.i .u64,.i .u64,.i .u64,.i .u64,.i .u64,.i .u64,.i .u64,.i .u64,.i .u64,.i .u64,.i .u64,.i .u64,.i .u64,.i .u64,.i .u64] bB6 bB6 _ _ _ h0);obtain⟨_,e1,b1⟩:=BU (kE 8 3 [.i .i64] bB6 bB6 _ _ _ h1);obtain⟨_,e2,b2⟩:=BU (kE 8 3 [.i .i64] bB6 bB6 _ _ _ h2);obtain⟨t,e3,t1,t2,t3,_,_⟩:=XG h3 z3;cases e0;cases e1;cases e2;cases e3;exact⟨⟨r,_,_,t⟩,rfl,⟨t1,t2⟩,t3,b1,b2⟩
theorem Qb{cs:List Value}{x:DataW H×List MemPlace}(h:DataW.trod enc Tryz.prog w base spare held fuel 25 cs=some x)(hz:FH Tryz.prog 25 x.1):∃ v,∃ ms:List jK,cs=[v]∧AL w v ms∧(∀ m∈ms,m.zK w)∧ms.length≤reachBytes:=by
 obtain⟨p,xs,cap,rfl,hl,hr⟩:=vV (α:=jK) (R:=fun cs m=>cs=qX m∧m.zK w) Tryz.underlying25 (aB.zQ (t:=74) (s:=19) rfl) bA5 bB6 (fun n cs x hx hz=>U9 hx hz) h hz;obtain⟨h1,h2⟩:=vX (f:=qX) (q:=fun m=>m.zK w) hl hr;exact⟨_,xs,rfl,⟨h1,fun m hm=>(h2 m hm).1.1,fun m hm=>(h2 m hm).1.2⟩,h2,hl⟩
theorem Ff{cs:List Value}{x:DataW H×List MemPlace}(h:DataW.trod enc Tryz.prog w base spare held fuel 32 cs=some x)(hz:FH Tryz.prog 32 x.1):∃ a b c d lv HH L,cs=[a,b,c,d,lv]∧F7 w a b c d lv HH L:=by
 obtain⟨hl,n,hf⟩:=lQ Tryz.underlying32 h hz;rw[jG (show fP Tryz.prog 32=some 5 from aB.zQ rfl)] at hl
 match cs,hl with
 | [c0,c1,c2,c3,c4],_=>
  have s2:Tryz.prog.cellsOf 29=4:=by kernel_rfl
  have s3:Tryz.prog.cellsOf 30=1:=by kernel_rfl
  have s4:Tryz.prog.cellsOf 24=1:=by kernel_rfl
  have s5:Tryz.prog.cellsOf 25=1:=by kernel_rfl
  have s6:Tryz.prog.cellsOf 26=1:=by kernel_rfl
  have s7:Tryz.prog.cellsOf 27=1:=by kernel_rfl
  have s8:Tryz.prog.cellsOf 22=1:=by kernel_rfl
  obtain⟨_,h1,z1⟩:=hf 0 _ rfl;obtain⟨_,h2,z2⟩:=hf 1 _ rfl;simp only[bT2,bS4,bS5,s2,s3,bL1,bK4,bK9,bM2] at h1 h2 z1 z2;obtain⟨_,n2,hg⟩:=lQ Tryz.underlying29 h1 z1;obtain⟨_,g0,y0⟩:=hg 0 _ rfl;obtain⟨_,g1,y1⟩:=hg 1 _ rfl;obtain⟨_,g2,y2⟩:=hg 2 _ rfl;obtain⟨_,g3,y3⟩:=hg 3 _ rfl;simp only[bT2,bS4,bS5,s4,s5,s6,s7,bL1,bK4,bK9,bM2] at g0 g1 g2 g3 y0 y1 y2 y3;obtain⟨_,n3,hk⟩:=lQ Tryz.underlying24 g0 y0;obtain⟨_,k0,x0⟩:=hk 0 _ rfl;simp only[bT2,bS4,bS5,s8,bL1,bK9,bM2] at k0 x0;obtain⟨wv,ws,e1,m1,w1,l1⟩:=O0 k0 x0;obtain⟨cv,cs,e2,m2,w2,l2⟩:=Qb g1 y1;obtain⟨vv,vs,e3,m3,w3,l3⟩:=U8 g2 y2;obtain⟨rv,rs,e4,m4,w4,l4⟩:=O1 g3 y3;obtain⟨lv,L,e5,l5,wf⟩:=UC h2 z2;obtain⟨p1,q1,rfl,_,_⟩:=m1.opened;obtain⟨p3,q3,rfl,_,_⟩:=m3.rows.opened;cases e1;cases e2;cases e3;cases e4;cases e5;refine⟨_,_,_,_,_,⟨ws,cs.map jK.u,vs.map eF.u,rs⟩,L,rfl,⟨cs,vs,rfl,rfl,fun c hc=>(w2 c hc).2.1,w1,m1,m2,m3,m4⟩,⟨p3,q3,?_,?_⟩,⟨p1,q1,rfl,Ez Tryz.underlying22 k0⟩,fun c hc=>?_,fun v hv=>?_,l5,wf⟩
  ·dsimp only;rw[bG9]
  ·dsimp only;rw[bG9];exact Ez Tryz.underlying26 g2
  ·obtain⟨x,hx,rfl⟩:=bH9.1 hc;exact (w2 x hx).2.2
  ·obtain⟨x,hx,rfl⟩:=bH9.1 hv;exact (w3 x hx).2
end
theorem JK{vv rv lv:Value}{A:List EP}(h:F7 w wv cv vv rv lv H A):Fn Tryz.prog 9 [.agg #[wv,cv,vv,rv,lv]].toArray w [] (fun u _=>u=.bool true):=by
 have h':=h;obtain⟨cs,vs,e1,e2,_,hH⟩:=h.hy;obtain⟨q,cap,rfl,hne,_⟩:=hH.ws.opened;obtain⟨q2,cap2,rfl,hne2,_⟩:=hH.cs.rows.opened;obtain⟨q3,cap3,rfl,jI,_⟩:=hH.vs.rows.opened;obtain⟨q4,cap4,rfl,oQ,_⟩:=hH.rs.opened;obtain⟨q5,cap5,rfl,hne5,_⟩:=h.l.opened;refine enter Tryz.func9 ?_;refine run ?_;intro Pb;refine run ?_;refine az (fun wc hG=>Zf aQ2 (by unfold I64;omega) (h'.good hG)) ?_;refine run ?_;exact fin1 rfl
end
end Go.Proofs.YtellmabgmnbhcaaGreat
